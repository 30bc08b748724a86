/- An argument that is a unit, opened, with the ranges of its ints.
An argument that is two units with impedances and a load, opened. -/
import Derived.Test.YtpdkbhjcpddnpaaGreatDoorNY
import Derived.Test.YtpdkbhjcpddnpaaGreatDoorNb9
import Derived.Test.YtpdkbhjcpddnpaaGreatDoorNK

section
namespace Go.Proofs.YtpdkbhjcpddnpaaGreatDoor
open Go.ChangeShapes Go.WideShapes Go.ChangeAt Go.RowKit Go.Joins

theorem cells_unit : Tryz.prog.cellsOf 48 = 9 := by kernel_rfl

section
variable {H : Type} {enc : TypeId × Value → H} {w : World} {base b0 : Nat} {spare : Nat → Bool} {held : Bool} {r : Reach}

theorem i64_of {n : Int} (h : (Lit.int .i64 n).wf = true) : I64 n := by
  simp only [Lit.wf, Bool.and_eq_true, decide_eq_true_eq] at h
  exact h
set_option maxRecDepth 100000 in
theorem wind_formI {fuel : Nat} {l : List Value} {x : DataW H × List MemPlace} (h : DataW.trod enc Tryz.prog w base spare held fuel 45 l = some x) : ∃ k t s b, l = [.int .i64 k, .int .i64 t, .int .i64 s, .bool b] ∧ I64 t ∧ I64 s := by
  obtain ⟨fuel, rfl⟩ : ∃ f, fuel = f + 1 := by
    rcases fuel with _ | f
    · cases h
    · exact ⟨f, rfl⟩
  obtain ⟨xs, n, _, _, hl, hxl, hall⟩ := DataW.trod_struct Tryz.underlying45 h
  rw [cells_wind] at hl
  obtain ⟨x0, x1, x2, x3, rfl⟩ : ∃ x0 x1 x2 x3, xs = [x0, x1, x2, x3] := by
    rcases xs with _ | ⟨x0, _ | ⟨x1, _ | ⟨x2, _ | ⟨x3, _ | ⟨c, r⟩⟩⟩⟩⟩
    · simp at hxl
    · simp at hxl
    · simp at hxl
    · simp at hxl
    · exact ⟨x0, x1, x2, x3, rfl⟩
    · simp at hxl
  have h0 : DataW.trod enc Tryz.prog w base spare held n 3 ((l.drop 0).take (Tryz.prog.cellsOf 3)) = some x0 := hall 0 _ rfl
  have h1 : DataW.trod enc Tryz.prog w base spare held n 3 ((l.drop 1).take (Tryz.prog.cellsOf 3)) = some x1 := hall 1 _ rfl
  have h2 : DataW.trod enc Tryz.prog w base spare held n 3 ((l.drop 2).take (Tryz.prog.cellsOf 3)) = some x2 := hall 2 _ rfl
  have h3 : DataW.trod enc Tryz.prog w base spare held n 4 ((l.drop 3).take (Tryz.prog.cellsOf 4)) = some x3 := hall 3 _ rfl
  rw [cells_int] at h0 h1 h2
  rw [cells_bool] at h3
  obtain ⟨a0, e0, _, _⟩ := DataW.trod_int Tryz.underlying3 h0
  obtain ⟨a1, e1, _, g1⟩ := DataW.trod_int Tryz.underlying3 h1
  obtain ⟨a2, e2, _, g2⟩ := DataW.trod_int Tryz.underlying3 h2
  obtain ⟨b, e3, _⟩ := DataW.trod_bool Tryz.underlying4 h3
  have c0 := one_cell hl (by decide) e0
  have c1 := one_cell hl (by decide) e1
  have c2 := one_cell hl (by decide) e2
  have c3 := one_cell hl (by decide) e3
  match l, hl with
  | [u, v, x, y], _ =>
    simp only [List.getElem?_cons_zero, List.getElem?_cons_succ, Option.some.injEq] at c0 c1 c2 c3
    exact ⟨a0, a1, a2, b, by rw [c0, c1, c2, c3], i64_of g1, i64_of g2⟩

end

end Go.Proofs.YtpdkbhjcpddnpaaGreatDoor
end

section
namespace Go.Proofs.YtpdkbhjcpddnpaaGreatDoor
open Go.ChangeShapes Go.WideShapes Go.ChangeAt Go.RowKit Go.Joins

theorem cells_fracP : Tryz.prog.cellsOf 59 = 2 := by kernel_rfl
theorem cells_twoF : Tryz.prog.cellsOf 74 = 4 := by kernel_rfl
theorem under_twoF : Tryz.prog.underlying 74 = some (.array 2 59) := by kernel_rfl
theorem cells_pair : Tryz.prog.cellsOf 76 = 24 := by kernel_rfl

section
variable {H : Type} {enc : TypeId × Value → H} {w : World} {base b0 : Nat} {spare : Nat → Bool} {held : Bool} {r : Reach}

theorem w64_of {n : Int} (h : (Lit.int .i64 n).wf = true) : W64 n := i64_of h
set_option maxRecDepth 100000 in
theorem is_fracP {fuel : Nat} {cs : List Value} {x : DataW H × List MemPlace} (h : DataW.trod enc Tryz.prog w base spare held fuel 59 cs = some x) : cs.length = 2 ∧ IntCells cs := by
  rw [← cells_fracP]
  refine intCells_struct Tryz.underlying59 (fun i f hi {_ _ _} hf => ?_) (fun k hk => ?_) h
  · match i, hi with
    | 0, hi => injection hi with hi; subst hi; exact is_int hf
    | 1, hi => injection hi with hi; subst hi; exact is_int hf
  · rw [cells_fracP] at hk
    rcases (show k = 0 ∨ k = 1 by omega) with rfl | rfl
    · exact ⟨0, _, 1, rfl, cells_int, by decide, by decide⟩
    · exact ⟨1, _, 1, rfl, cells_int, by decide, by decide⟩
set_option maxRecDepth 100000 in
theorem is_twoF {fuel : Nat} {cs : List Value} {x : DataW H × List MemPlace} (h : DataW.trod enc Tryz.prog w base spare held fuel 74 cs = some x) : cs.length = 4 ∧ IntCells cs := by
  rw [← cells_twoF]
  exact intCells_array under_twoF (fun h => (is_fracP h).2) (by rw [cells_twoF, cells_fracP]) (by rw [cells_fracP]; decide) h

set_option maxRecDepth 100000 in
theorem unit_formI {fuel : Nat} {l : List Value} {x : DataW H × List MemPlace} (h : DataW.trod enc Tryz.prog w base spare held fuel 48 l = some x) :
    ∃ k t s b k2 t2 s2 b2 n, l = [.int .i64 k, .int .i64 t, .int .i64 s, .bool b, .int .i64 k2, .int .i64 t2, .int .i64 s2, .bool b2, .int .i64 n] ∧ (I64 t ∧ I64 s) ∧ (I64 t2 ∧ I64 s2) ∧ I64 n := by
  obtain ⟨fuel, rfl⟩ : ∃ f, fuel = f + 1 := by
    rcases fuel with _ | f
    · cases h
    · exact ⟨f, rfl⟩
  obtain ⟨xs, n, _, _, hl, hxl, hall⟩ := DataW.trod_struct Tryz.underlying48 h
  rw [cells_unit] at hl
  obtain ⟨x0, x1, x2, rfl⟩ : ∃ x0 x1 x2, xs = [x0, x1, x2] := by
    rcases xs with _ | ⟨x0, _ | ⟨x1, _ | ⟨x2, _ | ⟨c, r⟩⟩⟩⟩
    · simp at hxl
    · simp at hxl
    · simp at hxl
    · exact ⟨x0, x1, x2, rfl⟩
    · simp at hxl
  have h0 : DataW.trod enc Tryz.prog w base spare held n 45 ((l.drop 0).take (Tryz.prog.cellsOf 45)) = some x0 := hall 0 _ rfl
  have h1 : DataW.trod enc Tryz.prog w base spare held n 45 ((l.drop 4).take (Tryz.prog.cellsOf 45)) = some x1 := hall 1 _ rfl
  have h2 : DataW.trod enc Tryz.prog w base spare held n 3 ((l.drop 8).take (Tryz.prog.cellsOf 3)) = some x2 := hall 2 _ rfl
  rw [cells_wind] at h0 h1
  rw [cells_int] at h2
  obtain ⟨k, t, s, b, e0, g0, g1⟩ := wind_formI h0
  obtain ⟨k2, t2, s2, b2, e1, g2, g3⟩ := wind_formI h1
  obtain ⟨m, e2, _, g4⟩ := DataW.trod_int Tryz.underlying3 h2
  match l, hl with
  | [y0, y1, y2, y3, y4, y5, y6, y7, y8], _ =>
    simp only [List.drop_zero, List.take_succ_cons, List.take_zero, List.drop_succ_cons, List.cons.injEq, and_true] at e0 e1 e2
    obtain ⟨rfl, rfl, rfl, rfl⟩ := e0
    obtain ⟨rfl, rfl, rfl, rfl⟩ := e1
    subst e2
    exact ⟨k, t, s, b, k2, t2, s2, b2, m, rfl, ⟨g0, g1⟩, ⟨g2, g3⟩, i64_of g4⟩

set_option maxRecDepth 100000 in
theorem open_pair {v : Value} {d : DataW H} {p : List MemPlace} (hv : Value.okWide Tryz.prog w r b0 76 v) (h : DataW.Trod enc Tryz.prog w base spare held 76 v d p) :
    ∃ ak at_ as_ ar bk bt bs br an ck ct cs cr dk dt ds dr dm i1 j1 i2 j2 lp lq, v = .agg #[.int .i64 ak, .int .i64 at_, .int .i64 as_, .bool ar, .int .i64 bk, .int .i64 bt, .int .i64 bs, .bool br, .int .i64 an, .int .i64 ck, .int .i64 ct, .int .i64 cs, .bool cr, .int .i64 dk, .int .i64 dt, .int .i64 ds, .bool dr, .int .i64 dm, .int .i64 i1, .int .i64 j1, .int .i64 i2, .int .i64 j2, .int .i64 lp, .int .i64 lq] ∧
      (I64 at_ ∧ I64 as_) ∧ (I64 bt ∧ I64 bs) ∧ (I64 ct ∧ I64 cs) ∧ (I64 dt ∧ I64 ds) ∧ I64 an ∧ I64 dm ∧ (W64 i1 ∧ W64 j1 ∧ W64 i2 ∧ W64 j2) := by
  obtain ⟨cs, rfl, _⟩ := okWide_struct Tryz.underlying76 hv
  obtain ⟨fuel, hf⟩ := agg_cells h
  obtain ⟨xs, n, _, _, hl, hxl, hall⟩ := DataW.trod_struct Tryz.underlying76 hf
  rw [cells_pair] at hl
  obtain ⟨x0, x1, x2, x3, rfl⟩ : ∃ x0 x1 x2 x3, xs = [x0, x1, x2, x3] := by
    rcases xs with _ | ⟨x0, _ | ⟨x1, _ | ⟨x2, _ | ⟨x3, _ | ⟨c, r⟩⟩⟩⟩⟩
    · simp at hxl
    · simp at hxl
    · simp at hxl
    · simp at hxl
    · exact ⟨x0, x1, x2, x3, rfl⟩
    · simp at hxl
  have h0 : DataW.trod enc Tryz.prog w base spare held n 48 ((cs.toList.drop 0).take (Tryz.prog.cellsOf 48)) = some x0 := hall 0 _ rfl
  have h1 : DataW.trod enc Tryz.prog w base spare held n 48 ((cs.toList.drop 9).take (Tryz.prog.cellsOf 48)) = some x1 := hall 1 _ rfl
  have h2 : DataW.trod enc Tryz.prog w base spare held n 74 ((cs.toList.drop 18).take (Tryz.prog.cellsOf 74)) = some x2 := hall 2 _ rfl
  have h3 : DataW.trod enc Tryz.prog w base spare held n 24 ((cs.toList.drop 22).take (Tryz.prog.cellsOf 24)) = some x3 := hall 3 _ rfl
  rw [cells_unit] at h0 h1
  rw [cells_twoF] at h2
  rw [cells_phasor] at h3
  obtain ⟨a1, a2, a3, a4, a5, a6, a7, a8, a9, e0, g0, g1, g2⟩ := unit_formI h0
  obtain ⟨b1, b2, b3, b4, b5, b6, b7, b8, b9, e1, g3, g4, g5⟩ := unit_formI h1
  have f2 := (is_twoF h2).2
  have f3 := (is_phasor h3).2
  obtain ⟨l⟩ := cs
  match l, hl with
  | [y0, y1, y2, y3, y4, y5, y6, y7, y8, y9, ya, yb, yc, yd, ye, yf, yg, yh, yi, yj, yk, yl, ym, yn], _ =>
    simp only [List.drop_zero, List.take_succ_cons, List.take_zero, List.drop_succ_cons, List.cons.injEq, and_true] at e0 e1 f2 f3
    obtain ⟨rfl, rfl, rfl, rfl, rfl, rfl, rfl, rfl, rfl⟩ := e0
    obtain ⟨rfl, rfl, rfl, rfl, rfl, rfl, rfl, rfl, rfl⟩ := e1
    obtain ⟨c1, rfl, k1⟩ := f2 yi (by simp)
    obtain ⟨c2, rfl, k2⟩ := f2 yj (by simp)
    obtain ⟨c3, rfl, k3⟩ := f2 yk (by simp)
    obtain ⟨c4, rfl, k4⟩ := f2 yl (by simp)
    obtain ⟨c5, rfl, _⟩ := f3 ym (by simp)
    obtain ⟨c6, rfl, _⟩ := f3 yn (by simp)
    exact ⟨_, _, _, _, _, _, _, _, _, _, _, _, _, _, _, _, _, _, _, _, _, _, _, _, rfl, g0, g1, g3, g4, g2, g5, w64_of k1, w64_of k2, w64_of k3, w64_of k4⟩
end

end Go.Proofs.YtpdkbhjcpddnpaaGreatDoor
end
