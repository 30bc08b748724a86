/- An argument that is a unit, opened. -/
import Derived.Test.YtnhcamokcggnkaaGreatDoorGLOpen
namespace Go.Proofs.YtnhcamokcggnkaaGreatDoor
open Go.ChangeShapes Go.WideShapes Go.ChangeAt Go.RowKit Go.Joins

theorem cells_unit : Tryz.prog.cellsOf 25 = 9 := by kernel_rfl

section
variable {H : Type} {enc : TypeId × Value → H} {w : World} {base b0 : Nat} {spare : Nat → Bool} {held : Bool} {r : Reach}

theorem one_of {u : Value} {l : List Value} (h : l = [u]) : l[0]? = some u := by rw [h]; rfl
set_option maxRecDepth 100000 in
theorem wind_form {fuel : Nat} {l : List Value} {x : DataW H × List MemPlace} (h : DataW.trod enc Tryz.prog w base spare held fuel 23 l = some x) : ∃ k t s b, l = [.int .i64 k, .int .i64 t, .int .i64 s, .bool b] := by
  obtain ⟨fuel, rfl⟩ : ∃ f, fuel = f + 1 := by
    rcases fuel with _ | f
    · cases h
    · exact ⟨f, rfl⟩
  obtain ⟨xs, n, _, _, hl, hxl, hall⟩ := DataW.trod_struct Tryz.underlying23 h
  rw [cells_wind] at hl
  obtain ⟨x0, x1, x2, x3, rfl⟩ : ∃ x0 x1 x2 x3, xs = [x0, x1, x2, x3] := by
    rcases xs with _ | ⟨x0, _ | ⟨x1, _ | ⟨x2, _ | ⟨x3, _ | ⟨c, r⟩⟩⟩⟩⟩
    · simp at hxl
    · simp at hxl
    · simp at hxl
    · simp at hxl
    · exact ⟨x0, x1, x2, x3, rfl⟩
    · simp at hxl
  have h0 : DataW.trod enc Tryz.prog w base spare held n 3 ((l.drop 0).take (Tryz.prog.cellsOf 3)) = some x0 := hall 0 _ rfl
  have h1 : DataW.trod enc Tryz.prog w base spare held n 3 ((l.drop 1).take (Tryz.prog.cellsOf 3)) = some x1 := hall 1 _ rfl
  have h2 : DataW.trod enc Tryz.prog w base spare held n 3 ((l.drop 2).take (Tryz.prog.cellsOf 3)) = some x2 := hall 2 _ rfl
  have h3 : DataW.trod enc Tryz.prog w base spare held n 4 ((l.drop 3).take (Tryz.prog.cellsOf 4)) = some x3 := hall 3 _ rfl
  rw [cells_int] at h0 h1 h2
  rw [cells_bool] at h3
  obtain ⟨a0, e0, _, _⟩ := DataW.trod_int Tryz.underlying3 h0
  obtain ⟨a1, e1, _, _⟩ := DataW.trod_int Tryz.underlying3 h1
  obtain ⟨a2, e2, _, _⟩ := DataW.trod_int Tryz.underlying3 h2
  obtain ⟨b, e3, _⟩ := DataW.trod_bool Tryz.underlying4 h3
  have c0 := one_cell hl (by decide) e0
  have c1 := one_cell hl (by decide) e1
  have c2 := one_cell hl (by decide) e2
  have c3 := one_cell hl (by decide) e3
  match l, hl with
  | [u, v, x, y], _ =>
    simp only [List.getElem?_cons_zero, List.getElem?_cons_succ, Option.some.injEq] at c0 c1 c2 c3
    exact ⟨a0, a1, a2, b, by rw [c0, c1, c2, c3]⟩

set_option maxRecDepth 100000 in
theorem open_unit {v : Value} {d : DataW H} {p : List MemPlace} (hv : Value.okWide Tryz.prog w r b0 25 v) (h : DataW.Trod enc Tryz.prog w base spare held 25 v d p) :
    ∃ k t s b k2 t2 s2 b2 n, v = .agg #[.int .i64 k, .int .i64 t, .int .i64 s, .bool b, .int .i64 k2, .int .i64 t2, .int .i64 s2, .bool b2, .int .i64 n] := by
  obtain ⟨cs, rfl, _⟩ := okWide_struct Tryz.underlying25 hv
  obtain ⟨fuel, hf⟩ := agg_cells h
  obtain ⟨xs, n, _, _, hl, hxl, hall⟩ := DataW.trod_struct Tryz.underlying25 hf
  rw [cells_unit] at hl
  obtain ⟨x0, x1, x2, rfl⟩ : ∃ x0 x1 x2, xs = [x0, x1, x2] := by
    rcases xs with _ | ⟨x0, _ | ⟨x1, _ | ⟨x2, _ | ⟨c, r⟩⟩⟩⟩
    · simp at hxl
    · simp at hxl
    · simp at hxl
    · exact ⟨x0, x1, x2, rfl⟩
    · simp at hxl
  have h0 : DataW.trod enc Tryz.prog w base spare held n 23 ((cs.toList.drop 0).take (Tryz.prog.cellsOf 23)) = some x0 := hall 0 _ rfl
  have h1 : DataW.trod enc Tryz.prog w base spare held n 23 ((cs.toList.drop 4).take (Tryz.prog.cellsOf 23)) = some x1 := hall 1 _ rfl
  have h2 : DataW.trod enc Tryz.prog w base spare held n 3 ((cs.toList.drop 8).take (Tryz.prog.cellsOf 3)) = some x2 := hall 2 _ rfl
  rw [cells_wind] at h0 h1
  rw [cells_int] at h2
  obtain ⟨k, t, s, b, e0⟩ := wind_form h0
  obtain ⟨k2, t2, s2, b2, e1⟩ := wind_form h1
  obtain ⟨m, e2, _, _⟩ := DataW.trod_int Tryz.underlying3 h2
  obtain ⟨l⟩ := cs
  match l, hl with
  | [y0, y1, y2, y3, y4, y5, y6, y7, y8], _ =>
    simp only [List.drop_zero, List.take_succ_cons, List.take_zero, List.drop_succ_cons, List.cons.injEq, and_true] at e0 e1 e2
    obtain ⟨rfl, rfl, rfl, rfl⟩ := e0
    obtain ⟨rfl, rfl, rfl, rfl⟩ := e1
    subst e2
    exact ⟨k, t, s, b, k2, t2, s2, b2, m, rfl⟩
end

end Go.Proofs.YtnhcamokcggnkaaGreatDoor
