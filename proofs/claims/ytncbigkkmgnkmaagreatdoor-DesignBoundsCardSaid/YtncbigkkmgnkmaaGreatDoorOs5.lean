/- DesignBounds: the statement (a tied card). For every input the law returns true, and each argument reads afterwards as it read before, where the package's tables stand as its initialisers lay them. Printed by a program (gen_card.py). -/
import Derived.Test.YtncbigkkmgnkmaaGreatDoorOs3
import Derived.Test.YtncbigkkmgnkmaaGreatDoorOp9
import Derived.Test.YtncbigkkmgnkmaaGreatDoorOs4
import Derived.Test.YtncbigkkmgnkmaaGreatDoorCards
import Derived.Test.YtncbigkkmgnkmaaGreatDoorTie
import Derived.Lay
import Derived.LaidLaws
import Derived.LaidHandle
import Derived.MakeChecks
import Derived.SevenTiedAt

section
namespace Go.Proofs.YtncbigkkmgnkmaaGreatDoor
open Go.ChangeShapes Go.WideShapes Go.ChangeAt Go.RowKit Go.Joins

set_option maxRecDepth 100000 in
theorem designBounds_met (os : Os) (args : Array Value) : laidMetH Tryz.prog Rows.designBoundsRow.laid ((World.laidAll Tryz.prog os Rows.designBoundsRow.laid).forCall (fun _ _ => 0) ⟨#[], args, []⟩).memory := by
  rw [MakeChecks.laidMetH_plain _ _ _ (by kernel_rfl)]
  exact laidMet_laidAll args (by kernel_rfl) (by kernel_rfl)

set_option maxRecDepth 100000 in
theorem designBounds_lifted (os : Os) (started : os.Started) (H : Type) (enc : TypeId × Value → H) :
    ReturnsInHanded {} Tryz.checked os 4 .any (fun w args => (Rows.designBoundsSpec.pre enc Tryz.prog Tryz.f4 [] false w args ∧ laidMetH Tryz.prog Rows.designBoundsRow.laid w) ∧ sizedMet enc Tryz.prog Tryz.f4 (OpenSpec.ofChange Rows.designBoundsSpec) false w args)
      (Rows.designBoundsSpec.post enc Tryz.prog Tryz.f4 false true false false) := by
  refine returnsInHanded_of_change_and (C := Tryz.checked) (X := fun w _ => laidMetH Tryz.prog Rows.designBoundsRow.laid w) (fun _ _ _ hh h => h.of_heap hh) own_knob started (by kernel_rfl) Tryz.func4
    (ChangeSpec.witness_shaped (enc := enc) (C := Tryz.checked) (os := os) (X := fun w _ => laidMetH Tryz.prog Rows.designBoundsRow.laid w) false (World.laidAll Tryz.prog os Rows.designBoundsRow.laid) #[.agg #[.slice none 0 0], .agg #[.slice none 0 0, .int .i64 0, .int .i64 0], .agg #[.slice none 0 0, .slice none 0 0]] 8 (World.laidAll_os _ _ _) (World.shaped_of_ZipB (by kernel_rfl) (by kernel_rfl)) (by kernel_rfl) (by kernel_rfl) (by kernel_rfl) (designBounds_met os _)) ?_
  intro W base args ds gs before hval0 hWd _ _ hL _
  have hval : ∀ (j : Nat) t v, Tryz.f4.params[j]? = some t → args[j]? = some v → Value.okWide Tryz.prog W .any base t v := hval0
  have hW' := hWd
  obtain ⟨p, q, hA0, hV, rfl, hfz, hnd⟩ := hWd
  have hA : DataW.TrodAll enc Tryz.prog W 0 (fun _ => true) true Tryz.f4.params.toList args.toList ds p := hA0
  rw [Tryz.params4] at hA hval
  obtain ⟨v0, vs0, d0, ds0, p0, q0, hargs, rfl, rfl, h0, r0⟩ := trodAll_cons hA
  obtain ⟨v1, vs1, d1, ds1, p1, q1, rfl, rfl, rfl, h1, r1⟩ := trodAll_cons r0
  obtain ⟨v2, vs2, d2, ds2, p2, q2, rfl, rfl, rfl, h2, r2⟩ := trodAll_cons r1
  obtain ⟨rfl, rfl, rfl⟩ := trodAll_nil r2
  obtain rfl : args = #[v0, v1, v2] := by cases args; simp_all
  obtain ⟨A0, c0, rs0, rfl, hs0, hcs0⟩ := open_spec (hval 0 _ v0 rfl rfl) h0
  obtain ⟨A1, c1, sl1, y1, z1, rfl, hs1, hx1⟩ := open_stock6 (hval 1 _ v1 rfl rfl) h1
  obtain ⟨A2, c2, ws2, B2, d2_, us2, rfl, hi2, hj2⟩ := open_offer (hval 2 _ v2 rfl rfl) h2
  rw [MakeChecks.laidMetH_plain _ _ _ (by kernel_rfl)] at hL
  have hU := unit_reads (Lib.laidMet.reads hL (n := "buchholz/design.unitOf") (d := Rows.laid_buchholz_design_unitOf) (by simp [Rows.designBoundsRow]))
  have hQ := qwords_read (Lib.laidMet.reads hL (n := "buchholz/design.quantityWords") (d := Rows.laid_buchholz_design_quantityWords) (by simp [Rows.designBoundsRow]))
  have hW := uwords_read (Lib.laidMet.reads hL (n := "buchholz/design.unitWords") (d := Rows.laid_buchholz_design_unitWords) (by simp [Rows.designBoundsRow]))
  clear hA0 hval0 hval hA hL h0 r0 h1 r1 h2 r2
  refine (designBounds_any W.heap.size rs0 A0 rs0.length c0 sl1 A1 sl1.length c1 y1 z1 ws2 A2 ws2.length c2 us2 B2 us2.length d2_ W hU hQ hW hs0 hs1 hi2 rfl hj2 rfl (Nat.le_refl _) rfl rfl hx1).mono fun e W' ⟨he, hb⟩ => ?_
  subst he
  exact law_end laid_out (fun t ht => (by decide +kernel : ∀ t ∈ Tryz.f4.params.toList, Tryz.prog.readableRec t = true ∧ t < Tryz.prog.types.size) t ht) rfl Tryz.underlying4 rfl rfl hW' hb

theorem designBounds_said : Rows.DesignBoundsSaid :=
  OpenClaim.holds_of_wide 4 Tryz.f4 rfl rfl rfl rfl rfl rfl rfl ⟨rfl, rfl, rfl, rfl, rfl⟩ rfl rfl rfl rfl rfl (by kernel_rfl) Tryz.func4 (by kernel_rfl)
    (of_decide_eq_true (by kernel_rfl)) (by unfold Func.isWrapper; first | (rw [if_pos (by decide +kernel)]; kernel_rfl) | (rw [if_neg (by decide +kernel)]; exact ⟨rfl, rfl⟩))
    (fun os started H enc _ => designBounds_lifted os started H enc)

/-- No parameter wants a stand-in; the program's own looks are off. -/
theorem designBounds_plain (f : FuncId) (fn : Func) (hf : Tryz.pinned.checked.prog.funcNamed "buchholz/buchholzlaw02.DesignBounds" = some f) (hfn : Tryz.pinned.checked.prog.funcs[f]? = some fn) :
    false = Tryz.pinned.checked.prog.looks [] ∧ ∀ (j : Nat) t, fn.params[j]? = some t → Tryz.pinned.checked.prog.wantsStandIn t = false := by
  obtain rfl : f = 4 := Option.some.inj ((show Tryz.prog.funcNamed "buchholz/buchholzlaw02.DesignBounds" = some 4 by kernel_rfl).symm.trans hf) |>.symm
  obtain rfl : fn = Tryz.f4 := (Option.some.inj (Tryz.func4.symm.trans hfn)).symm
  refine ⟨by kernel_rfl, fun j t ht => ?_⟩
  have hm : t ∈ Tryz.f4.params.toList := by simpa using Array.mem_of_getElem? ht
  exact (by decide +kernel : ∀ t ∈ Tryz.f4.params.toList, Tryz.prog.wantsStandIn t = false) t hm

/-- THE CARD. -/
theorem designBounds_holds : Rows.DesignBoundsCardSaid :=
  Claim7.holds_tied_plain_at .later [] _ _ _ _ designBounds_said (fun _ h => by cases h) (by kernel_rfl) (fun _ h => by cases h) designBounds_row_tie rfl ⟨rfl, rfl⟩ (by kernel_rfl) rfl designBounds_plain (by kernel_rfl)
#print axioms designBounds_holds

end Go.Proofs.YtncbigkkmgnkmaaGreatDoor
end
