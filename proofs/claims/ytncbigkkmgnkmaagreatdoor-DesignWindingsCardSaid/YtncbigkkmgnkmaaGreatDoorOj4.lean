/- DesignWindings: the statement (a tied card). For every input the law returns true, and each argument reads afterwards as it read before, where the package's tables stand as its initialisers lay them. Printed by a program (gen_card.py). -/
import Derived.Test.YtncbigkkmgnkmaaGreatDoorOj3
import Derived.Test.YtncbigkkmgnkmaaGreatDoorOj5
import Derived.Test.YtncbigkkmgnkmaaGreatDoorCards
import Derived.Test.YtncbigkkmgnkmaaGreatDoorTie
import Derived.Lay
import Derived.LaidLaws
import Derived.LaidHandle
import Derived.MakeChecks
import Derived.SevenTiedAt

section
namespace Go.Proofs.YtncbigkkmgnkmaaGreatDoor
open Go.ChangeShapes Go.WideShapes Go.ChangeAt Go.RowKit Go.Joins

set_option maxRecDepth 100000 in
theorem designWindings_met (os : Os) (args : Array Value) : laidMetH Tryz.prog Rows.designWindingsRow.laid ((World.laidAll Tryz.prog os Rows.designWindingsRow.laid).forCall (fun _ _ => 0) ⟨#[], args, []⟩).memory := by
  rw [MakeChecks.laidMetH_plain _ _ _ (by kernel_rfl)]
  exact laidMet_laidAll args (by kernel_rfl) (by kernel_rfl)

set_option maxRecDepth 100000 in
theorem designWindings_lifted (os : Os) (started : os.Started) (H : Type) (enc : TypeId × Value → H) :
    ReturnsInHanded {} Tryz.checked os 6 .any (fun w args => (Rows.designWindingsSpec.pre enc Tryz.prog Tryz.f6 [] false w args ∧ laidMetH Tryz.prog Rows.designWindingsRow.laid w) ∧ sizedMet enc Tryz.prog Tryz.f6 (OpenSpec.ofChange Rows.designWindingsSpec) false w args)
      (Rows.designWindingsSpec.post enc Tryz.prog Tryz.f6 false true false false) := by
  refine returnsInHanded_of_change_and (C := Tryz.checked) (X := fun w _ => laidMetH Tryz.prog Rows.designWindingsRow.laid w) (fun _ _ _ hh h => h.of_heap hh) own_knob started (by kernel_rfl) Tryz.func6
    (ChangeSpec.witness_shaped (enc := enc) (C := Tryz.checked) (os := os) (X := fun w _ => laidMetH Tryz.prog Rows.designWindingsRow.laid w) false (World.laidAll Tryz.prog os Rows.designWindingsRow.laid) #[.agg #[.int .i64 0, .int .i64 0, .int .i64 0, .int .i64 0], .int .i64 0] 8 (World.laidAll_os _ _ _) (World.shaped_of_ZipB (by kernel_rfl) (by kernel_rfl)) (by kernel_rfl) (by kernel_rfl) (by kernel_rfl) (designWindings_met os _)) ?_
  intro W base args ds gs before hval0 hWd _ _ hL _
  have hval : ∀ (j : Nat) t v, Tryz.f6.params[j]? = some t → args[j]? = some v → Value.okWide Tryz.prog W .any base t v := hval0
  have hW' := hWd
  obtain ⟨p, q, hA0, hV, rfl, hfz, hnd⟩ := hWd
  have hA : DataW.TrodAll enc Tryz.prog W 0 (fun _ => true) true Tryz.f6.params.toList args.toList ds p := hA0
  rw [Tryz.params6] at hA hval
  obtain ⟨v0, vs0, d0, ds0, p0, q0, hargs, rfl, rfl, h0, r0⟩ := trodAll_cons hA
  obtain ⟨v1, vs1, d1, ds1, p1, q1, rfl, rfl, rfl, h1, r1⟩ := trodAll_cons r0
  obtain ⟨rfl, rfl, rfl⟩ := trodAll_nil r1
  obtain rfl : args = #[v0, v1] := by cases args; simp_all
  obtain ⟨x0, y0, z0, t0, rfl⟩ := open_dwind (hval 0 _ v0 rfl rfl) h0
  obtain ⟨a1, rfl, rfl, rfl, _⟩ := open_int Tryz.underlying3 (hval 1 _ v1 rfl rfl) h1
  rw [MakeChecks.laidMetH_plain _ _ _ (by kernel_rfl)] at hL
  have hU := unit_reads (Lib.laidMet.reads hL (n := "buchholz/design.unitOf") (d := Rows.laid_buchholz_design_unitOf) (by simp [Rows.designWindingsRow]))
  have hQ := qwords_read (Lib.laidMet.reads hL (n := "buchholz/design.quantityWords") (d := Rows.laid_buchholz_design_quantityWords) (by simp [Rows.designWindingsRow]))
  have hW := uwords_read (Lib.laidMet.reads hL (n := "buchholz/design.unitWords") (d := Rows.laid_buchholz_design_unitWords) (by simp [Rows.designWindingsRow]))
  clear hA0 hval0 hval hA hL h0 r0 h1 r1
  refine (designWindings_any x0 y0 z0 t0 a1 W hU hQ hW).mono fun e W' ⟨he, hb⟩ => ?_
  subst he
  exact law_end laid_out (fun t ht => (by decide +kernel : ∀ t ∈ Tryz.f6.params.toList, Tryz.prog.readableRec t = true ∧ t < Tryz.prog.types.size) t ht) rfl Tryz.underlying4 rfl rfl hW' hb

theorem designWindings_said : Rows.DesignWindingsSaid :=
  OpenClaim.holds_of_wide 6 Tryz.f6 rfl rfl rfl rfl rfl rfl rfl ⟨rfl, rfl, rfl, rfl, rfl⟩ rfl rfl rfl rfl rfl (by kernel_rfl) Tryz.func6 (by kernel_rfl)
    (of_decide_eq_true (by kernel_rfl)) (by unfold Func.isWrapper; first | (rw [if_pos (by decide +kernel)]; kernel_rfl) | (rw [if_neg (by decide +kernel)]; exact ⟨rfl, rfl⟩))
    (fun os started H enc _ => designWindings_lifted os started H enc)

/-- No parameter wants a stand-in; the program's own looks are off. -/
theorem designWindings_plain (f : FuncId) (fn : Func) (hf : Tryz.pinned.checked.prog.funcNamed "buchholz/buchholzlaw02.DesignWindings" = some f) (hfn : Tryz.pinned.checked.prog.funcs[f]? = some fn) :
    false = Tryz.pinned.checked.prog.looks [] ∧ ∀ (j : Nat) t, fn.params[j]? = some t → Tryz.pinned.checked.prog.wantsStandIn t = false := by
  obtain rfl : f = 6 := Option.some.inj ((show Tryz.prog.funcNamed "buchholz/buchholzlaw02.DesignWindings" = some 6 by kernel_rfl).symm.trans hf) |>.symm
  obtain rfl : fn = Tryz.f6 := (Option.some.inj (Tryz.func6.symm.trans hfn)).symm
  refine ⟨by kernel_rfl, fun j t ht => ?_⟩
  have hm : t ∈ Tryz.f6.params.toList := by simpa using Array.mem_of_getElem? ht
  exact (by decide +kernel : ∀ t ∈ Tryz.f6.params.toList, Tryz.prog.wantsStandIn t = false) t hm

/-- THE CARD. -/
theorem designWindings_holds : Rows.DesignWindingsCardSaid :=
  Claim7.holds_tied_plain_at .later [] _ _ _ _ designWindings_said (fun _ h => by cases h) (by kernel_rfl) (fun _ h => by cases h) designWindings_row_tie rfl ⟨rfl, rfl⟩ (by kernel_rfl) rfl designWindings_plain (by kernel_rfl)
#print axioms designWindings_holds

end Go.Proofs.YtncbigkkmgnkmaaGreatDoor
end
