/- GroupShares: the statement (a tied card). For every input the law returns true, and each argument reads afterwards as it read before, where the package's tables stand as its initialisers lay them. Printed by a program (gen_card.py). -/
import Derived.Test.YtpdkbhjcpddnpaaDoorLTSha
import Derived.Test.YtpdkbhjcpddnpaaDoorLUOpn
import Derived.Test.YtpdkbhjcpddnpaaDoorCards
import Derived.Test.YtpdkbhjcpddnpaaDoorTie
import Derived.Lay
import Derived.LaidLaws
import Derived.LaidHandle
import Derived.MakeChecks
import Derived.SevenTiedAt
namespace Go.Proofs.YtpdkbhjcpddnpaaDoor
open Go.ChangeShapes Go.WideShapes Go.ChangeAt Go.RowKit Go.Joins

set_option maxRecDepth 100000 in
theorem groupShares_met (os : Os) (args : Array Value) : laidMetH Tryd.prog Rows.groupSharesRow.laid ((World.laidAll Tryd.prog os Rows.groupSharesRow.laid).forCall (fun _ _ => 0) ⟨#[], args, []⟩).memory := by
  rw [MakeChecks.laidMetH_plain _ _ _ (by kernel_rfl)]
  exact laidMet_laidAll args (by kernel_rfl) (by kernel_rfl)

set_option maxRecDepth 100000 in
theorem groupShares_lifted (os : Os) (started : os.Started) (H : Type) (enc : TypeId × Value → H) :
    ReturnsInHanded {} Tryd.checked os 3 .any (fun w args => (Rows.groupSharesSpec.pre enc Tryd.prog Tryd.f3 [] false w args ∧ laidMetH Tryd.prog Rows.groupSharesRow.laid w) ∧ sizedMet enc Tryd.prog Tryd.f3 (OpenSpec.ofChange Rows.groupSharesSpec) false w args)
      (Rows.groupSharesSpec.post enc Tryd.prog Tryd.f3 false true false false) := by
  refine returnsInHanded_of_change_and (C := Tryd.checked) (X := fun w _ => laidMetH Tryd.prog Rows.groupSharesRow.laid w) (fun _ _ _ hh h => h.of_heap hh) own_knob started (by kernel_rfl) Tryd.func3
    (ChangeSpec.witness_shaped (enc := enc) (C := Tryd.checked) (os := os) (X := fun w _ => laidMetH Tryd.prog Rows.groupSharesRow.laid w) false (World.laidAll Tryd.prog os Rows.groupSharesRow.laid) #[.agg #[.slice none 0 0, .int .i64 0, .int .i64 0], .agg #[.int .i64 0, .int .i64 0, .int .i64 0]] 8 (World.laidAll_os _ _ _) (World.shaped_of_ZipB (by kernel_rfl) (by kernel_rfl)) (by kernel_rfl) (by kernel_rfl) (by kernel_rfl) (groupShares_met os _)) ?_
  intro W base args ds gs before hval0 hW _ _ hL _
  have hval : ∀ (j : Nat) t v, Tryd.f3.params[j]? = some t → args[j]? = some v → Value.okWide Tryd.prog W .any base t v := hval0
  have hW' := hW
  obtain ⟨p, q, hA0, hV, rfl, hfz, hnd⟩ := hW
  have hA : DataW.TrodAll enc Tryd.prog W 0 (fun _ => true) true Tryd.f3.params.toList args.toList ds p := hA0
  rw [Tryd.params3] at hA hval
  obtain ⟨v0, vs0, d0, ds0, p0, q0, hargs, rfl, rfl, h0, r0⟩ := trodAll_cons hA
  obtain ⟨v1, vs1, d1, ds1, p1, q1, rfl, rfl, rfl, h1, r1⟩ := trodAll_cons r0
  obtain ⟨rfl, rfl, rfl⟩ := trodAll_nil r1
  obtain rfl : args = #[v0, v1] := by cases args; simp_all
  obtain ⟨axA, axc, axl, axp, axq, rfl, hr, h64, _, _, _⟩ := open_load (hval 0 _ v0 rfl rfl) h0
  obtain ⟨bx1, bx2, bx3, rfl, hy1, hy2, hy3⟩ := three_of (hval 1 _ v1 rfl rfl) h1
  rw [MakeChecks.laidMetH_plain _ _ _ (by kernel_rfl)] at hL
  have hT := tw_reads (Lib.laidMet.reads hL (n := "buchholz/group.twelfths") (d := Rows.laid_buchholz_group_twelfths) (by simp [Rows.groupSharesRow]))
  have hP := pat_reads (Lib.laidMet.reads hL (n := "buchholz/group.patterns") (d := Rows.laid_buchholz_group_patterns) (by simp [Rows.groupSharesRow]))
  clear hA0 hval0 hval hA hL h0 r0 h1 r1
  refine (shares_any axl axA axc axp axq bx1 bx2 bx3 W hr h64 ⟨hy1, hy2, hy3⟩ hT hP).mono fun e W' ⟨he, hb⟩ => ?_
  subst he
  exact law_end laid_out (fun t ht => (by decide +kernel : ∀ t ∈ Tryd.f3.params.toList, Tryd.prog.readableRec t = true ∧ t < Tryd.prog.types.size) t ht) rfl Tryd.underlying4 rfl rfl hW' hb

theorem groupShares_said : Rows.GroupSharesSaid :=
  OpenClaim.holds_of_wide 3 Tryd.f3 rfl rfl rfl rfl rfl rfl rfl ⟨rfl, rfl, rfl, rfl, rfl⟩ rfl rfl rfl rfl rfl (by kernel_rfl) Tryd.func3 (by kernel_rfl)
    (of_decide_eq_true (by kernel_rfl)) (by unfold Func.isWrapper; first | (rw [if_pos (by decide +kernel)]; kernel_rfl) | (rw [if_neg (by decide +kernel)]; exact ⟨rfl, rfl⟩))
    (fun os started H enc _ => groupShares_lifted os started H enc)

/-- No parameter wants a stand-in; the program's own looks are off. -/
theorem groupShares_plain (f : FuncId) (fn : Func) (hf : Tryd.pinned.checked.prog.funcNamed "buchholz/buchholzlaw01.GroupShares" = some f) (hfn : Tryd.pinned.checked.prog.funcs[f]? = some fn) :
    false = Tryd.pinned.checked.prog.looks [] ∧ ∀ (j : Nat) t, fn.params[j]? = some t → Tryd.pinned.checked.prog.wantsStandIn t = false := by
  obtain rfl : f = 3 := Option.some.inj ((show Tryd.prog.funcNamed "buchholz/buchholzlaw01.GroupShares" = some 3 by kernel_rfl).symm.trans hf) |>.symm
  obtain rfl : fn = Tryd.f3 := (Option.some.inj (Tryd.func3.symm.trans hfn)).symm
  refine ⟨by kernel_rfl, fun j t ht => ?_⟩
  have hm : t ∈ Tryd.f3.params.toList := by simpa using Array.mem_of_getElem? ht
  exact (by decide +kernel : ∀ t ∈ Tryd.f3.params.toList, Tryd.prog.wantsStandIn t = false) t hm

/-- THE CARD. -/
theorem groupShares_holds : Rows.GroupSharesCardSaid :=
  Claim7.holds_tied_plain_at .later [] _ _ _ _ groupShares_said (fun _ h => by cases h) (by kernel_rfl) (fun _ h => by cases h) groupShares_row_tie rfl ⟨rfl, rfl⟩ (by kernel_rfl) rfl groupShares_plain (by kernel_rfl)
#print axioms groupShares_holds

end Go.Proofs.YtpdkbhjcpddnpaaDoor
