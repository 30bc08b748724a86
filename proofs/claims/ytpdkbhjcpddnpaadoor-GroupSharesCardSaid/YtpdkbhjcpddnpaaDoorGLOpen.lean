/- Arguments of the chapter's laws, opened: turns, phasors, windings. -/
import Derived.Test.YtpdkbhjcpddnpaaDoorZKLaw
import Derived.Test.YtpdkbhjcpddnpaaDoorGKLaid
namespace Go.Proofs.YtpdkbhjcpddnpaaDoor
open Go.ChangeShapes Go.WideShapes Go.ChangeAt Go.RowKit Go.Joins

theorem cells_int : Tryd.prog.cellsOf 3 = 1 := by kernel_rfl
theorem cells_bool : Tryd.prog.cellsOf 4 = 1 := by kernel_rfl
theorem cells_phasor : Tryd.prog.cellsOf 24 = 2 := by kernel_rfl
theorem cells_wind : Tryd.prog.cellsOf 52 = 4 := by kernel_rfl

section
variable {H : Type} {enc : TypeId × Value → H} {w : World} {base b0 : Nat} {spare : Nat → Bool} {held : Bool} {r : Reach}

theorem is_int {fuel : Nat} {cs : List Value} {x : DataW H × List MemPlace} (h : DataW.trod enc Tryd.prog w base spare held fuel 3 cs = some x) : IntCells cs := (intCells_int Tryd.underlying3 h).2
theorem is_phasor {fuel : Nat} {cs : List Value} {x : DataW H × List MemPlace} (h : DataW.trod enc Tryd.prog w base spare held fuel 24 cs = some x) : cs.length = 2 ∧ IntCells cs := by
  rw [← cells_phasor]
  refine intCells_struct Tryd.underlying24 (fun i f hi {_ _ _} hf => ?_) (fun k hk => ?_) h
  · match i, hi with
    | 0, hi => injection hi with hi; subst hi; exact is_int hf
    | 1, hi => injection hi with hi; subst hi; exact is_int hf
  · rw [cells_phasor] at hk
    rcases (show k = 0 ∨ k = 1 by omega) with rfl | rfl
    · exact ⟨0, _, 1, rfl, cells_int, by decide, by decide⟩
    · exact ⟨1, _, 1, rfl, cells_int, by decide, by decide⟩
set_option maxRecDepth 100000 in
theorem open_phasor {v : Value} {d : DataW H} {p : List MemPlace} (hv : Value.okWide Tryd.prog w r b0 24 v) (h : DataW.Trod enc Tryd.prog w base spare held 24 v d p) : ∃ a b, v = .agg #[.int .i64 a, .int .i64 b] ∧ (Lit.int .i64 a).wf = true ∧ (Lit.int .i64 b).wf = true := open_struct2 Tryd.underlying24 is_phasor hv h

theorem one_cell {v : Value} {l : List Value} {o n : Nat} (_hl : l.length = n) (_ho : o < n) (h : (l.drop o).take 1 = [v]) : l[o]? = some v := by
  have := congrArg (·[0]?) h
  simp only [List.getElem?_take, List.getElem?_drop] at this
  simpa using this

set_option maxRecDepth 100000 in
theorem open_wind {v : Value} {d : DataW H} {p : List MemPlace} (hv : Value.okWide Tryd.prog w r b0 52 v) (h : DataW.Trod enc Tryd.prog w base spare held 52 v d p) : ∃ k t s b, v = .agg #[.int .i64 k, .int .i64 t, .int .i64 s, .bool b] ∧ (Lit.int .i64 k).wf = true ∧ (Lit.int .i64 t).wf = true ∧ (Lit.int .i64 s).wf = true := by
  obtain ⟨cs, rfl, _⟩ := okWide_struct Tryd.underlying52 hv
  obtain ⟨fuel, hf⟩ := agg_cells h
  obtain ⟨xs, n, _, _, hl, hxl, hall⟩ := DataW.trod_struct Tryd.underlying52 hf
  rw [cells_wind] at hl
  obtain ⟨x0, x1, x2, x3, rfl⟩ : ∃ x0 x1 x2 x3, xs = [x0, x1, x2, x3] := by
    rcases xs with _ | ⟨x0, _ | ⟨x1, _ | ⟨x2, _ | ⟨x3, _ | ⟨c, r⟩⟩⟩⟩⟩
    · simp at hxl
    · simp at hxl
    · simp at hxl
    · simp at hxl
    · exact ⟨x0, x1, x2, x3, rfl⟩
    · simp at hxl
  have h0 : DataW.trod enc Tryd.prog w base spare held n 3 ((cs.toList.drop 0).take (Tryd.prog.cellsOf 3)) = some x0 := hall 0 _ rfl
  have h1 : DataW.trod enc Tryd.prog w base spare held n 3 ((cs.toList.drop 1).take (Tryd.prog.cellsOf 3)) = some x1 := hall 1 _ rfl
  have h2 : DataW.trod enc Tryd.prog w base spare held n 3 ((cs.toList.drop 2).take (Tryd.prog.cellsOf 3)) = some x2 := hall 2 _ rfl
  have h3 : DataW.trod enc Tryd.prog w base spare held n 4 ((cs.toList.drop 3).take (Tryd.prog.cellsOf 4)) = some x3 := hall 3 _ rfl
  rw [cells_int] at h0 h1 h2
  rw [cells_bool] at h3
  obtain ⟨a0, e0, _, wa0⟩ := DataW.trod_int Tryd.underlying3 h0
  obtain ⟨a1, e1, _, wa1⟩ := DataW.trod_int Tryd.underlying3 h1
  obtain ⟨a2, e2, _, wa2⟩ := DataW.trod_int Tryd.underlying3 h2
  obtain ⟨b, e3, _⟩ := DataW.trod_bool Tryd.underlying4 h3
  have c0 := one_cell hl (by decide) e0
  have c1 := one_cell hl (by decide) e1
  have c2 := one_cell hl (by decide) e2
  have c3 := one_cell hl (by decide) e3
  obtain ⟨l⟩ := cs
  match l, hl with
  | [u, v, x, y], _ =>
    simp only [List.getElem?_cons_zero, List.getElem?_cons_succ, Option.some.injEq] at c0 c1 c2 c3
    exact ⟨a0, a1, a2, b, by rw [c0, c1, c2, c3], wa0, wa1, wa2⟩
end

end Go.Proofs.YtpdkbhjcpddnpaaDoor
