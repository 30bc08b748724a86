/- An argument of the law DesignBounds, opened: a choice and prices. -/
import Derived.Test.YtncbigkkmgnkmaaGreatDoorOp9

section
namespace Go.Proofs.YtncbigkkmgnkmaaGreatDoor
open Go.ChangeShapes Go.WideShapes Go.ChangeAt Go.RowKit Go.Joins

theorem cells_intsO : Tryz.prog.cellsOf 32 = 1 := by kernel_rfl
theorem cells_offer : Tryz.prog.cellsOf 46 = 2 := by kernel_rfl
section
variable {H : Type} {enc : TypeId × Value → H} {w : World} {base b0 : Nat} {spare : Nat → Bool} {held : Bool} {r : Reach}
set_option maxRecDepth 100000 in
theorem open_offer {v : Value} {d : DataW H} {p : List MemPlace} (hv : Value.okWide Tryz.prog w r b0 46 v) (h : DataW.Trod enc Tryz.prog w base spare held 46 v d p) :
    ∃ (A : Option Addr) (c : Nat) (ch : List Int) (D : Option Addr) (e : Nat) (ps : List Int), v = .agg #[.slice A ch.length c, .slice D ps.length e] ∧ IntsIn w.heap.size w A ch ∧ IntsIn w.heap.size w D ps := by
  obtain ⟨cs0, rfl, _⟩ := okWide_struct Tryz.underlying46 hv
  obtain ⟨fuel, hf⟩ := agg_cells h
  obtain ⟨xs, n, _, _, hl, hxl, hg⟩ := DataW.trod_struct Tryz.underlying46 hf
  rw [cells_offer] at hl
  have hxl2 : xs.length = 2 := hxl
  have h0 : DataW.trod enc Tryz.prog w base spare held n 32 ((cs0.toList.drop 0).take (Tryz.prog.cellsOf 32)) = xs[0]? := hg 0 _ rfl
  have h1 : DataW.trod enc Tryz.prog w base spare held n 32 ((cs0.toList.drop 1).take (Tryz.prog.cellsOf 32)) = xs[1]? := hg 1 _ rfl
  rw [List.getElem?_eq_getElem (by omega)] at h0 h1
  rw [cells_intsO] at h0 h1
  obtain ⟨A, c, ch, e1, hi, _, _, _⟩ := open_slice_ints Tryz.underlying32 Tryz.underlying3 cells_int h0
  obtain ⟨D, e, ps, e2, hj, _, _, _⟩ := open_slice_ints Tryz.underlying32 Tryz.underlying3 cells_int h1
  obtain ⟨l⟩ := cs0
  match l, hl with
  | [v0, v1], _ =>
    refine ⟨A, c, ch, D, e, ps, ?_, hi, hj⟩
    simp only [List.drop_zero, List.drop_succ_cons, List.take_succ_cons, List.take_zero, List.cons.injEq, and_true] at e1 e2
    rw [e1, e2]
end

end Go.Proofs.YtncbigkkmgnkmaaGreatDoor
end
