/- Arguments that are lines, or three numbers, opened. -/
import Derived.Test.YtpdkbhjcpddnpaaDoorGLOpen
namespace Go.Proofs.YtpdkbhjcpddnpaaDoor
open Go.ChangeShapes Go.WideShapes Go.ChangeAt Go.RowKit Go.Joins

theorem under_three : Tryd.prog.underlying 27 = some (.array 3 3) := by kernel_rfl
theorem under_lines : Tryd.prog.underlying 54 = some (.array 3 27) := by kernel_rfl
theorem cells_three : Tryd.prog.cellsOf 27 = 3 := by kernel_rfl
theorem cells_lines : Tryd.prog.cellsOf 54 = 9 := by kernel_rfl

section
variable {H : Type} {enc : TypeId × Value → H} {w : World} {base b0 : Nat} {spare : Nat → Bool} {held : Bool} {r : Reach}

set_option maxRecDepth 100000 in
theorem is_three {fuel : Nat} {cs : List Value} {x : DataW H × List MemPlace} (h : DataW.trod enc Tryd.prog w base spare held fuel 27 cs = some x) : cs.length = 3 ∧ IntCells cs := by
  rw [← cells_three]
  exact intCells_array under_three (fun h => is_int h) (by rw [cells_three, cells_int]) (by rw [cells_int]; decide) h
set_option maxRecDepth 100000 in
theorem is_lines {fuel : Nat} {cs : List Value} {x : DataW H × List MemPlace} (h : DataW.trod enc Tryd.prog w base spare held fuel 54 cs = some x) : cs.length = 9 ∧ IntCells cs := by
  rw [← cells_lines]
  exact intCells_array under_lines (fun h => (is_three h).2) (by rw [cells_lines, cells_three]) (by rw [cells_three]; decide) h

set_option maxRecDepth 100000 in
theorem open_three {v : Value} {d : DataW H} {p : List MemPlace} (hv : Value.okWide Tryd.prog w r b0 27 v) (h : DataW.Trod enc Tryd.prog w base spare held 27 v d p) :
    ∃ a b c, v = .agg #[.int .i64 a, .int .i64 b, .int .i64 c] := by
  obtain ⟨cs, rfl⟩ := okWide_array' under_three hv
  obtain ⟨fuel, hf⟩ := agg_cells h
  obtain ⟨a, b, c, rfl, _⟩ := ints3 (is_three hf)
  exact ⟨a, b, c, rfl⟩
set_option maxRecDepth 100000 in
theorem open_lines {v : Value} {d : DataW H} {p : List MemPlace} (hv : Value.okWide Tryd.prog w r b0 54 v) (h : DataW.Trod enc Tryd.prog w base spare held 54 v d p) :
    ∃ x1 x2 x3 x4 x5 x6 x7 x8 x9, v = .agg #[.int .i64 x1, .int .i64 x2, .int .i64 x3, .int .i64 x4, .int .i64 x5, .int .i64 x6, .int .i64 x7, .int .i64 x8, .int .i64 x9] := by
  obtain ⟨cs, rfl⟩ := okWide_array' under_lines hv
  obtain ⟨fuel, hf⟩ := agg_cells h
  have hi := is_lines hf
  obtain ⟨l⟩ := cs
  match l, hi with
  | [v1, v2, v3, v4, v5, v6, v7, v8, v9], ⟨_, h⟩ =>
    obtain ⟨x1, rfl, _⟩ := h v1 (by simp)
    obtain ⟨x2, rfl, _⟩ := h v2 (by simp)
    obtain ⟨x3, rfl, _⟩ := h v3 (by simp)
    obtain ⟨x4, rfl, _⟩ := h v4 (by simp)
    obtain ⟨x5, rfl, _⟩ := h v5 (by simp)
    obtain ⟨x6, rfl, _⟩ := h v6 (by simp)
    obtain ⟨x7, rfl, _⟩ := h v7 (by simp)
    obtain ⟨x8, rfl, _⟩ := h v8 (by simp)
    obtain ⟨x9, rfl, _⟩ := h v9 (by simp)
    exact ⟨x1, x2, x3, x4, x5, x6, x7, x8, x9, rfl⟩
end

end Go.Proofs.YtpdkbhjcpddnpaaDoor
