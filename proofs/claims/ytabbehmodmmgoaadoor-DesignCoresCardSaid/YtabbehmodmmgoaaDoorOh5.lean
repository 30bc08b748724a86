/- DesignCores: the statement (a tied card). For every input the law returns true, and each argument reads afterwards as it read before, where the package's tables stand as its initialisers lay them. Printed by a program (gen_card.py). -/
import Derived.Test.YtabbehmodmmgoaaDoorOh4
import Derived.Test.YtabbehmodmmgoaaDoorOg4
import Derived.Test.YtabbehmodmmgoaaDoorCards
import Derived.Test.YtabbehmodmmgoaaDoorTie
import Derived.Lay
import Derived.LaidLaws
import Derived.LaidHandle
import Derived.MakeChecks
import Derived.SevenTiedAt

section
namespace Go.Proofs.YtabbehmodmmgoaaDoor
open Go.ChangeShapes Go.WideShapes Go.ChangeAt Go.RowKit Go.Joins

set_option maxRecDepth 100000 in
theorem designCores_met (os : Os) (args : Array Value) : laidMetH Tryd.prog Rows.designCoresRow.laid ((World.laidAll Tryd.prog os Rows.designCoresRow.laid).forCall (fun _ _ => 0) ⟨#[], args, []⟩).memory := by
  rw [MakeChecks.laidMetH_plain _ _ _ (by kernel_rfl)]
  exact laidMet_laidAll args (by kernel_rfl) (by kernel_rfl)

set_option maxRecDepth 100000 in
theorem designCores_lifted (os : Os) (started : os.Started) (H : Type) (enc : TypeId × Value → H) :
    ReturnsInHanded {} Tryd.checked os 4 .any (fun w args => (Rows.designCoresSpec.pre enc Tryd.prog Tryd.f4 [] false w args ∧ laidMetH Tryd.prog Rows.designCoresRow.laid w) ∧ sizedMet enc Tryd.prog Tryd.f4 (OpenSpec.ofChange Rows.designCoresSpec) false w args)
      (Rows.designCoresSpec.post enc Tryd.prog Tryd.f4 false true false false) := by
  refine returnsInHanded_of_change_and (C := Tryd.checked) (X := fun w _ => laidMetH Tryd.prog Rows.designCoresRow.laid w) (fun _ _ _ hh h => h.of_heap hh) own_knob started (by kernel_rfl) Tryd.func4
    (ChangeSpec.witness_shaped (enc := enc) (C := Tryd.checked) (os := os) (X := fun w _ => laidMetH Tryd.prog Rows.designCoresRow.laid w) false (World.laidAll Tryd.prog os Rows.designCoresRow.laid) #[.int .i64 0, .slice none 0 0, .agg #[.int .i64 0, .int .i64 0]] 8 (World.laidAll_os _ _ _) (World.shaped_of_ZipB (by kernel_rfl) (by kernel_rfl)) (by kernel_rfl) (by kernel_rfl) (by kernel_rfl) (designCores_met os _)) ?_
  intro W base args ds gs before hval0 hWd _ _ hL _
  have hval : ∀ (j : Nat) t v, Tryd.f4.params[j]? = some t → args[j]? = some v → Value.okWide Tryd.prog W .any base t v := hval0
  have hW' := hWd
  obtain ⟨p, q, hA0, hV, rfl, hfz, hnd⟩ := hWd
  have hA : DataW.TrodAll enc Tryd.prog W 0 (fun _ => true) true Tryd.f4.params.toList args.toList ds p := hA0
  rw [Tryd.params4] at hA hval
  obtain ⟨v0, vs0, d0, ds0, p0, q0, hargs, rfl, rfl, h0, r0⟩ := trodAll_cons hA
  obtain ⟨v1, vs1, d1, ds1, p1, q1, rfl, rfl, rfl, h1, r1⟩ := trodAll_cons r0
  obtain ⟨v2, vs2, d2, ds2, p2, q2, rfl, rfl, rfl, h2, r2⟩ := trodAll_cons r1
  obtain ⟨rfl, rfl, rfl⟩ := trodAll_nil r2
  obtain rfl : args = #[v0, v1, v2] := by cases args; simp_all
  obtain ⟨a0, rfl, rfl, rfl, _⟩ := open_int Tryd.underlying3 (hval 0 _ v0 rfl rfl) h0
  obtain ⟨A1, c1, ws1, rfl, hi1, hc1, hm1⟩ := open_ints_arg Tryd.underlying22 Tryd.underlying3 cells_int (hval 1 _ v1 rfl rfl) h1
  obtain ⟨x2, y2, rfl⟩ := open_pair (hval 2 _ v2 rfl rfl) h2
  rw [MakeChecks.laidMetH_plain _ _ _ (by kernel_rfl)] at hL
  have hU := unit_reads (Lib.laidMet.reads hL (n := "buchholz/design.unitOf") (d := Rows.laid_buchholz_design_unitOf) (by simp [Rows.designCoresRow]))
  have hQ := qwords_read (Lib.laidMet.reads hL (n := "buchholz/design.quantityWords") (d := Rows.laid_buchholz_design_quantityWords) (by simp [Rows.designCoresRow]))
  have hW := uwords_read (Lib.laidMet.reads hL (n := "buchholz/design.unitWords") (d := Rows.laid_buchholz_design_unitWords) (by simp [Rows.designCoresRow]))
  clear hA0 hval0 hval hA hL h0 r0 h1 r1 h2 r2
  refine (designCores_any W.heap.size a0 ws1 A1 ws1.length c1 x2 y2 W hU hQ hW hi1 (Nat.le_refl _) rfl).mono fun e W' ⟨he, hb⟩ => ?_
  subst he
  exact law_end laid_out (fun t ht => (by decide +kernel : ∀ t ∈ Tryd.f4.params.toList, Tryd.prog.readableRec t = true ∧ t < Tryd.prog.types.size) t ht) rfl Tryd.underlying4 rfl rfl hW' hb

theorem designCores_said : Rows.DesignCoresSaid :=
  OpenClaim.holds_of_wide 4 Tryd.f4 rfl rfl rfl rfl rfl rfl rfl ⟨rfl, rfl, rfl, rfl, rfl⟩ rfl rfl rfl rfl rfl (by kernel_rfl) Tryd.func4 (by kernel_rfl)
    (of_decide_eq_true (by kernel_rfl)) (by unfold Func.isWrapper; first | (rw [if_pos (by decide +kernel)]; kernel_rfl) | (rw [if_neg (by decide +kernel)]; exact ⟨rfl, rfl⟩))
    (fun os started H enc _ => designCores_lifted os started H enc)

/-- No parameter wants a stand-in; the program's own looks are off. -/
theorem designCores_plain (f : FuncId) (fn : Func) (hf : Tryd.pinned.checked.prog.funcNamed "buchholz/buchholzlaw02.DesignCores" = some f) (hfn : Tryd.pinned.checked.prog.funcs[f]? = some fn) :
    false = Tryd.pinned.checked.prog.looks [] ∧ ∀ (j : Nat) t, fn.params[j]? = some t → Tryd.pinned.checked.prog.wantsStandIn t = false := by
  obtain rfl : f = 4 := Option.some.inj ((show Tryd.prog.funcNamed "buchholz/buchholzlaw02.DesignCores" = some 4 by kernel_rfl).symm.trans hf) |>.symm
  obtain rfl : fn = Tryd.f4 := (Option.some.inj (Tryd.func4.symm.trans hfn)).symm
  refine ⟨by kernel_rfl, fun j t ht => ?_⟩
  have hm : t ∈ Tryd.f4.params.toList := by simpa using Array.mem_of_getElem? ht
  exact (by decide +kernel : ∀ t ∈ Tryd.f4.params.toList, Tryd.prog.wantsStandIn t = false) t hm

/-- THE CARD. -/
theorem designCores_holds : Rows.DesignCoresCardSaid :=
  Claim7.holds_tied_plain_at .later [] _ _ _ _ designCores_said (fun _ h => by cases h) (by kernel_rfl) (fun _ h => by cases h) designCores_row_tie rfl ⟨rfl, rfl⟩ (by kernel_rfl) rfl designCores_plain (by kernel_rfl)
#print axioms designCores_holds

end Go.Proofs.YtabbehmodmmgoaaDoor
end
