/- An argument that is a lot, opened, with the ranges of its ints. -/
import Derived.Test.YtbojmcopagbheaaGreatDoorTBOpen
import Derived.Test.YtbojmcopagbheaaGreatDoorQC
import Derived.Test.YtbojmcopagbheaaGreatDoorYFLawL
namespace Go.Proofs.YtbojmcopagbheaaGreatDoor
open Go.ChangeShapes Go.WideShapes Go.ChangeAt Go.RowKit Go.Joins Go.Deep

theorem bytes_back (ys : List ByteArray) : (ys.map fun b => b.data.toList).map bytesL = ys := by
  rw [List.map_map]
  have e : (bytesL ∘ fun b : ByteArray => b.data.toList) = id := by
    funext b
    obtain ⟨⟨l⟩⟩ := b
    rfl
  rw [e, List.map_id]

section
variable {H : Type} {enc : TypeId × Value → H} {w : World} {base b0 : Nat} {spare : Nat → Bool} {held : Bool} {r : Reach}

set_option maxRecDepth 100000 in
theorem open_lotI {v : Value} {d : DataW H} {p : List MemPlace} (hv : Value.okWide Tryz.prog w r b0 58 v) (h : DataW.Trod enc Tryz.prog w base spare held 58 v d p) :
    ∃ (nm : List UInt8) (M : List (List UInt8)) (x1 x2 x3 x4 : Int) (A : Option Addr) (c : Nat), v = .agg #[.string ⟨nm.toArray⟩, .slice A M.length c, .int .i64 x1, .int .i64 x2, .int .i64 x3, .int .i64 x4] ∧ CellsIn w.heap.size w A (M.map strV) ∧ M.length ≤ c ∧ I64 x1 ∧ I64 x2 ∧ I64 x3 ∧ I64 x4 := by
  obtain ⟨cs0, rfl, _⟩ := okWide_struct Tryz.underlying58 hv
  obtain ⟨fuel, hf⟩ := agg_cells h
  obtain ⟨xs, n, _, _, hl, hxl, hg⟩ := DataW.trod_struct Tryz.underlying58 hf
  rw [cells_lot] at hl
  have hxl4 : xs.length = 4 := hxl
  have h0 : DataW.trod enc Tryz.prog w base spare held n 9 ((cs0.toList.drop 0).take (Tryz.prog.cellsOf 9)) = xs[0]? := hg 0 _ rfl
  have h1 : DataW.trod enc Tryz.prog w base spare held n 56 ((cs0.toList.drop 1).take (Tryz.prog.cellsOf 56)) = xs[1]? := hg 1 _ rfl
  have h2 : DataW.trod enc Tryz.prog w base spare held n 29 ((cs0.toList.drop 2).take (Tryz.prog.cellsOf 29)) = xs[2]? := hg 2 _ rfl
  have h3 : DataW.trod enc Tryz.prog w base spare held n 29 ((cs0.toList.drop 4).take (Tryz.prog.cellsOf 29)) = xs[3]? := hg 3 _ rfl
  rw [List.getElem?_eq_getElem (by omega)] at h0 h1 h2 h3
  rw [cells_string] at h0
  rw [cells_texts] at h1
  rw [cells_range] at h2 h3
  obtain ⟨l⟩ := cs0
  match l, hl with
  | [v0, v1, v2, v3, v4, v5], _ =>
    obtain ⟨s, e0, _, _⟩ := DataW.trod_string Tryz.underlying9 h0
    obtain ⟨A, c, ys, e1, hr, hc, _⟩ := open_texts h1
    obtain ⟨a1, a2, e2, g1, g2⟩ := ints2 (cs := #[v2, v3]) (is_range h2)
    obtain ⟨a3, a4, e3, g3, g4⟩ := ints2 (cs := #[v4, v5]) (is_range h3)
    obtain ⟨⟨nm⟩⟩ := s
    have hb := bytes_back ys
    refine ⟨nm, ys.map (fun b => b.data.toList), a1, a2, a3, a4, A, c, ?_, cells_of_row (by rw [hb]; exact hr), by rw [List.length_map]; exact hc, i64_of g1, i64_of g2, i64_of g3, i64_of g4⟩
    simp only [List.drop_zero, List.take_succ_cons, List.take_zero, List.drop_succ_cons, List.cons.injEq, and_true] at e0 e1
    injection e2 with e2
    injection e3 with e3
    simp only [List.cons.injEq, and_true] at e2 e3
    rw [e0, e1, e2.1, e2.2, e3.1, e3.2, List.length_map]
end

end Go.Proofs.YtbojmcopagbheaaGreatDoor
