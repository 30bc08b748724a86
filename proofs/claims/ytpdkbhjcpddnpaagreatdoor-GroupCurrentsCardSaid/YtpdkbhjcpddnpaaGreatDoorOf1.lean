/- GroupCurrents: the statement (a tied card). For every input the law returns true, and each argument reads afterwards as it read before, where the package's tables stand as its initialisers lay them. Printed by a program (gen_card.py). -/
import Derived.Test.YtpdkbhjcpddnpaaGreatDoorOe7
import Derived.Test.YtpdkbhjcpddnpaaGreatDoorOe9
import Derived.Test.YtpdkbhjcpddnpaaGreatDoorCards
import Derived.Test.YtpdkbhjcpddnpaaGreatDoorTie
import Derived.Lay
import Derived.LaidLaws
import Derived.LaidHandle
import Derived.MakeChecks
import Derived.SevenTiedAt

section
namespace Go.Proofs.YtpdkbhjcpddnpaaGreatDoor
open Go.ChangeShapes Go.WideShapes Go.ChangeAt Go.RowKit Go.Joins

set_option maxRecDepth 100000 in
theorem groupCurrents_met (os : Os) (args : Array Value) : laidMetH Tryz.prog Rows.groupCurrentsRow.laid ((World.laidAll Tryz.prog os Rows.groupCurrentsRow.laid).forCall (fun _ _ => 0) ⟨#[], args, []⟩).memory := by
  rw [MakeChecks.laidMetH_plain _ _ _ (by kernel_rfl)]
  exact laidMet_laidAll args (by kernel_rfl) (by kernel_rfl)

set_option maxRecDepth 100000 in
theorem groupCurrents_lifted (os : Os) (started : os.Started) (H : Type) (enc : TypeId × Value → H) :
    ReturnsInHanded {} Tryz.checked os 3 .any (fun w args => (Rows.groupCurrentsSpec.pre enc Tryz.prog Tryz.f3 [] false w args ∧ laidMetH Tryz.prog Rows.groupCurrentsRow.laid w) ∧ sizedMet enc Tryz.prog Tryz.f3 (OpenSpec.ofChange Rows.groupCurrentsSpec) false w args)
      (Rows.groupCurrentsSpec.post enc Tryz.prog Tryz.f3 false true false false) := by
  refine returnsInHanded_of_change_and (C := Tryz.checked) (X := fun w _ => laidMetH Tryz.prog Rows.groupCurrentsRow.laid w) (fun _ _ _ hh h => h.of_heap hh) own_knob started (by kernel_rfl) Tryz.func3
    (ChangeSpec.witness_shaped (enc := enc) (C := Tryz.checked) (os := os) (X := fun w _ => laidMetH Tryz.prog Rows.groupCurrentsRow.laid w) false (World.laidAll Tryz.prog os Rows.groupCurrentsRow.laid) #[.agg #[.slice none 0 0, .int .i64 0, .int .i64 0], .slice none 0 0] 8 (World.laidAll_os _ _ _) (World.shaped_of_ZipB (by kernel_rfl) (by kernel_rfl)) (by kernel_rfl) (by kernel_rfl) (by kernel_rfl) (groupCurrents_met os _)) ?_
  intro W base args ds gs before hval0 hW _ _ hL _
  have hval : ∀ (j : Nat) t v, Tryz.f3.params[j]? = some t → args[j]? = some v → Value.okWide Tryz.prog W .any base t v := hval0
  have hW' := hW
  obtain ⟨p, q, hA0, hV, rfl, hfz, hnd⟩ := hW
  have hA : DataW.TrodAll enc Tryz.prog W 0 (fun _ => true) true Tryz.f3.params.toList args.toList ds p := hA0
  rw [Tryz.params3] at hA hval
  obtain ⟨v0, vs0, d0, ds0, p0, q0, hargs, rfl, rfl, h0, r0⟩ := trodAll_cons hA
  obtain ⟨v1, vs1, d1, ds1, p1, q1, rfl, rfl, rfl, h1, r1⟩ := trodAll_cons r0
  obtain ⟨rfl, rfl, rfl⟩ := trodAll_nil r1
  obtain rfl : args = #[v0, v1] := by cases args; simp_all
  obtain ⟨axA, axc, axl, axp, axq, rfl, hr, h64, _, _, _⟩ := open_load (hval 0 _ v0 rfl rfl) h0
  obtain ⟨bxA, bxc, bxl, rfl, hr2, h64c, _⟩ := open_currents2 (hval 1 _ v1 rfl rfl) h1
  rw [MakeChecks.laidMetH_plain _ _ _ (by kernel_rfl)] at hL
  have hT := tw_reads (Lib.laidMet.reads hL (n := "buchholz/group.twelfths") (d := Rows.laid_buchholz_group_twelfths) (by simp [Rows.groupCurrentsRow]))
  have hP := pat_reads (Lib.laidMet.reads hL (n := "buchholz/group.patterns") (d := Rows.laid_buchholz_group_patterns) (by simp [Rows.groupCurrentsRow]))
  clear hA0 hval0 hval hA hL h0 r0 h1 r1
  refine (currents_any axl axA axc axp axq bxl bxA bxc W hr hr2 h64 h64c hT hP).mono fun e W' ⟨he, hb⟩ => ?_
  subst he
  exact law_end laid_out (fun t ht => (by decide +kernel : ∀ t ∈ Tryz.f3.params.toList, Tryz.prog.readableRec t = true ∧ t < Tryz.prog.types.size) t ht) rfl Tryz.underlying4 rfl rfl hW' hb

theorem groupCurrents_said : Rows.GroupCurrentsSaid :=
  OpenClaim.holds_of_wide 3 Tryz.f3 rfl rfl rfl rfl rfl rfl rfl ⟨rfl, rfl, rfl, rfl, rfl⟩ rfl rfl rfl rfl rfl (by kernel_rfl) Tryz.func3 (by kernel_rfl)
    (of_decide_eq_true (by kernel_rfl)) (by unfold Func.isWrapper; first | (rw [if_pos (by decide +kernel)]; kernel_rfl) | (rw [if_neg (by decide +kernel)]; exact ⟨rfl, rfl⟩))
    (fun os started H enc _ => groupCurrents_lifted os started H enc)

/-- No parameter wants a stand-in; the program's own looks are off. -/
theorem groupCurrents_plain (f : FuncId) (fn : Func) (hf : Tryz.pinned.checked.prog.funcNamed "buchholz/buchholzlaw01.GroupCurrents" = some f) (hfn : Tryz.pinned.checked.prog.funcs[f]? = some fn) :
    true = Tryz.pinned.checked.prog.looks [] ∧ ∀ (j : Nat) t, fn.params[j]? = some t → Tryz.pinned.checked.prog.wantsStandIn t = false := by
  obtain rfl : f = 3 := Option.some.inj ((show Tryz.prog.funcNamed "buchholz/buchholzlaw01.GroupCurrents" = some 3 by kernel_rfl).symm.trans hf) |>.symm
  obtain rfl : fn = Tryz.f3 := (Option.some.inj (Tryz.func3.symm.trans hfn)).symm
  refine ⟨by kernel_rfl, fun j t ht => ?_⟩
  have hm : t ∈ Tryz.f3.params.toList := by simpa using Array.mem_of_getElem? ht
  exact (by decide +kernel : ∀ t ∈ Tryz.f3.params.toList, Tryz.prog.wantsStandIn t = false) t hm

/-- THE CARD. -/
theorem groupCurrents_holds : Rows.GroupCurrentsCardSaid :=
  Claim7.holds_tied_plain_at .later [] _ _ _ _ groupCurrents_said (fun _ h => by cases h) (by kernel_rfl) (fun _ h => by cases h) groupCurrents_row_tie rfl ⟨rfl, rfl⟩ (by kernel_rfl) rfl groupCurrents_plain (by kernel_rfl)
#print axioms groupCurrents_holds

end Go.Proofs.YtpdkbhjcpddnpaaGreatDoor
end
