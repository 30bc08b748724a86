/- GroupRenamed: the statement (a tied card). For every input the law returns true, and each argument reads afterwards as it read before, where the package's tables stand as its initialisers lay them. Printed by a program (gen_card.py). -/
import Derived.Test.YtnhcamokcggnkaaDoorNC
import Derived.Test.YtnhcamokcggnkaaDoorN8
import Derived.Test.YtnhcamokcggnkaaDoorCards
import Derived.Test.YtnhcamokcggnkaaDoorTie
import Derived.Lay
import Derived.LaidLaws
import Derived.LaidHandle
import Derived.MakeChecks
import Derived.SevenTiedAt
namespace Go.Proofs.YtnhcamokcggnkaaDoor
open Go.ChangeShapes Go.WideShapes Go.ChangeAt Go.RowKit Go.Joins

set_option maxRecDepth 100000 in
theorem groupRenamed_met (os : Os) (args : Array Value) : laidMetH Tryd.prog Rows.groupRenamedRow.laid ((World.laidAll Tryd.prog os Rows.groupRenamedRow.laid).forCall (fun _ _ => 0) ⟨#[], args, []⟩).memory := by
  rw [MakeChecks.laidMetH_plain _ _ _ (by kernel_rfl)]
  exact laidMet_laidAll args (by kernel_rfl) (by kernel_rfl)

set_option maxRecDepth 100000 in
theorem groupRenamed_lifted (os : Os) (started : os.Started) (H : Type) (enc : TypeId × Value → H) :
    ReturnsInHanded {} Tryd.checked os 9 .any (fun w args => (Rows.groupRenamedSpec.pre enc Tryd.prog Tryd.f9 [] false w args ∧ laidMetH Tryd.prog Rows.groupRenamedRow.laid w) ∧ sizedMet enc Tryd.prog Tryd.f9 (OpenSpec.ofChange Rows.groupRenamedSpec) false w args)
      (Rows.groupRenamedSpec.post enc Tryd.prog Tryd.f9 false true false false) := by
  refine returnsInHanded_of_change_and (C := Tryd.checked) (X := fun w _ => laidMetH Tryd.prog Rows.groupRenamedRow.laid w) (fun _ _ _ hh h => h.of_heap hh) own_knob started (by kernel_rfl) Tryd.func9
    (ChangeSpec.witness_shaped (enc := enc) (C := Tryd.checked) (os := os) (X := fun w _ => laidMetH Tryd.prog Rows.groupRenamedRow.laid w) false (World.laidAll Tryd.prog os Rows.groupRenamedRow.laid) #[.agg #[.int .i64 0, .int .i64 0, .int .i64 0, .bool false], .agg #[.int .i64 0, .int .i64 0, .int .i64 0], .agg #[.int .i64 0, .int .i64 0, .int .i64 0]] 8 (World.laidAll_os _ _ _) (World.shaped_of_ZipB (by kernel_rfl) (by kernel_rfl)) (by kernel_rfl) (by kernel_rfl) (by kernel_rfl) (groupRenamed_met os _)) ?_
  intro W base args ds gs before hval0 hW _ _ hL _
  have hval : ∀ (j : Nat) t v, Tryd.f9.params[j]? = some t → args[j]? = some v → Value.okWide Tryd.prog W .any base t v := hval0
  have hW' := hW
  obtain ⟨p, q, hA0, hV, rfl, hfz, hnd⟩ := hW
  have hA : DataW.TrodAll enc Tryd.prog W 0 (fun _ => true) true Tryd.f9.params.toList args.toList ds p := hA0
  rw [Tryd.params9] at hA hval
  obtain ⟨v0, vs0, d0, ds0, p0, q0, hargs, rfl, rfl, h0, r0⟩ := trodAll_cons hA
  obtain ⟨v1, vs1, d1, ds1, p1, q1, rfl, rfl, rfl, h1, r1⟩ := trodAll_cons r0
  obtain ⟨v2, vs2, d2, ds2, p2, q2, rfl, rfl, rfl, h2, r2⟩ := trodAll_cons r1
  obtain ⟨rfl, rfl, rfl⟩ := trodAll_nil r2
  obtain rfl : args = #[v0, v1, v2] := by cases args; simp_all
  obtain ⟨axk, axt, axs, axr, rfl, _, _, _⟩ := open_wind (hval 0 _ v0 rfl rfl) h0
  obtain ⟨bx1, bx2, bx3, rfl⟩ := open_three (hval 1 _ v1 rfl rfl) h1
  obtain ⟨cx1, cx2, cx3, rfl⟩ := open_three (hval 2 _ v2 rfl rfl) h2
  rw [MakeChecks.laidMetH_plain _ _ _ (by kernel_rfl)] at hL
  have hT := tw_reads (Lib.laidMet.reads hL (n := "buchholz/group.twelfths") (d := Rows.laid_buchholz_group_twelfths) (by simp [Rows.groupRenamedRow]))
  have hP := pat_reads (Lib.laidMet.reads hL (n := "buchholz/group.patterns") (d := Rows.laid_buchholz_group_patterns) (by simp [Rows.groupRenamedRow]))
  clear hA0 hval0 hval hA hL h0 r0 h1 r1 h2 r2
  refine (ren_walk axk axt axs axr bx1 bx2 bx3 cx1 cx2 cx3 W hT hP).mono fun e W' ⟨he, hb⟩ => ?_
  subst he
  exact law_end laid_out (fun t ht => (by decide +kernel : ∀ t ∈ Tryd.f9.params.toList, Tryd.prog.readableRec t = true ∧ t < Tryd.prog.types.size) t ht) rfl Tryd.underlying4 rfl rfl hW' hb

theorem groupRenamed_said : Rows.GroupRenamedSaid :=
  OpenClaim.holds_of_wide 9 Tryd.f9 rfl rfl rfl rfl rfl rfl rfl ⟨rfl, rfl, rfl, rfl, rfl⟩ rfl rfl rfl rfl rfl (by kernel_rfl) Tryd.func9 (by kernel_rfl)
    (of_decide_eq_true (by kernel_rfl)) (by unfold Func.isWrapper; first | (rw [if_pos (by decide +kernel)]; kernel_rfl) | (rw [if_neg (by decide +kernel)]; exact ⟨rfl, rfl⟩))
    (fun os started H enc _ => groupRenamed_lifted os started H enc)

/-- No parameter wants a stand-in; the program's own looks are off. -/
theorem groupRenamed_plain (f : FuncId) (fn : Func) (hf : Tryd.pinned.checked.prog.funcNamed "buchholz/buchholzlaw01.GroupRenamed" = some f) (hfn : Tryd.pinned.checked.prog.funcs[f]? = some fn) :
    false = Tryd.pinned.checked.prog.looks [] ∧ ∀ (j : Nat) t, fn.params[j]? = some t → Tryd.pinned.checked.prog.wantsStandIn t = false := by
  obtain rfl : f = 9 := Option.some.inj ((show Tryd.prog.funcNamed "buchholz/buchholzlaw01.GroupRenamed" = some 9 by kernel_rfl).symm.trans hf) |>.symm
  obtain rfl : fn = Tryd.f9 := (Option.some.inj (Tryd.func9.symm.trans hfn)).symm
  refine ⟨by kernel_rfl, fun j t ht => ?_⟩
  have hm : t ∈ Tryd.f9.params.toList := by simpa using Array.mem_of_getElem? ht
  exact (by decide +kernel : ∀ t ∈ Tryd.f9.params.toList, Tryd.prog.wantsStandIn t = false) t hm

/-- THE CARD. -/
theorem groupRenamed_holds : Rows.GroupRenamedCardSaid :=
  Claim7.holds_tied_plain_at .later [] _ _ _ _ groupRenamed_said (fun _ h => by cases h) (by kernel_rfl) (fun _ h => by cases h) groupRenamed_row_tie rfl ⟨rfl, rfl⟩ (by kernel_rfl) rfl groupRenamed_plain (by kernel_rfl)
#print axioms groupRenamed_holds

end Go.Proofs.YtnhcamokcggnkaaDoor
