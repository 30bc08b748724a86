/- From the rows' lists to what the walks ask: the two tables stand as they were laid. -/
import Derived.Test.YtpdkbhjcpddnpaaDoorG4Hour
import Derived.Test.YtpdkbhjcpddnpaaDoorG7Signed
import Derived.Lib.LaidU8
import Derived.Lib.LaidTab
import Derived.Stop.LaidErr
namespace Go.Proofs.YtpdkbhjcpddnpaaDoor
open Go.ChangeShapes Go.WideShapes Go.RowKit

section
variable {H : Type} {enc : TypeId × Value → H} {w : World} {base : Nat} {sp : Nat → Bool} {held : Bool}

theorem two_at {cs : List Value} {k : Nat} {l : List Value} (h : (cs.drop k).take l.length = l) (i : Nat) (hi : i < l.length) : cs[k + i]? = l[i]? := by
  have := congrArg (·[i]?) h
  simp only [List.getElem?_take, List.getElem?_drop] at this
  rw [if_pos hi] at this
  exact this

theorem phasor_cells {fuel : Nat} {cs : List Value} {x y : Int} {p : List MemPlace} (h : DataW.trod enc Tryd.prog w base sp held fuel 86 cs = some (.agg [.lit (.int .i64 x), .lit (.int .i64 y)], p)) : cs = [.int .i64 x, .int .i64 y] := by
  refine Lib.ints_of_struct (k := .i64) (zs := [x, y]) Tryd.underlying86 ?_ (by kernel_rfl) h
  intro i f hf
  rcases i with _ | _ | i
  · simp at hf; subst hf; exact ⟨by kernel_rfl, rfl, by kernel_rfl⟩
  · simp at hf; subst hf; exact ⟨by kernel_rfl, rfl, by kernel_rfl⟩
  · simp at hf

theorem pattern_cells {fuel : Nat} {cs : List Value} {b : List UInt8} {x y z : Int} {p : List MemPlace} (h : DataW.trod enc Tryd.prog w base sp held fuel 94 cs = some (.agg [.lit (.string b), .agg [.lit (.int .i64 x), .lit (.int .i64 y), .lit (.int .i64 z)]], p)) :
    cs[0]? = some (.string ⟨b.toArray⟩) ∧ cs[1]? = some (.int .i64 x) ∧ cs[2]? = some (.int .i64 y) ∧ cs[3]? = some (.int .i64 z) := by
  obtain ⟨xs, n, rfl, hx, hl, hxl, hall⟩ := DataW.trod_struct Tryd.underlying94 h
  have hxs : xs.map (·.1) = [.lit (.string b), .agg [.lit (.int .i64 x), .lit (.int .i64 y), .lit (.int .i64 z)]] := by
    have := congrArg Prod.fst hx
    simpa using this.symm
  obtain ⟨u, v, rfl⟩ : ∃ u v, xs = [u, v] := by
    rcases xs with _ | ⟨u, _ | ⟨v, _ | ⟨c, r⟩⟩⟩
    · simp at hxs
    · simp at hxs
    · exact ⟨u, v, rfl⟩
    · simp at hxs
  simp only [List.map_cons, List.map_nil, List.cons.injEq, and_true] at hxs
  obtain ⟨e1, e2⟩ := hxs
  have h0 : DataW.trod enc Tryd.prog w base sp held n 9 ((cs.drop 0).take (Tryd.prog.cellsOf 9)) = some u := hall 0 _ rfl
  have h1 : DataW.trod enc Tryd.prog w base sp held n 27 ((cs.drop 1).take (Tryd.prog.cellsOf 27)) = some v := hall 1 _ rfl
  rw [show Tryd.prog.cellsOf 9 = 1 by kernel_rfl] at h0
  rw [show Tryd.prog.cellsOf 27 = 3 by kernel_rfl] at h1
  obtain ⟨s, hs, hd, _⟩ := DataW.trod_string Tryd.underlying9 h0
  obtain ⟨v1, v2⟩ := v
  dsimp only at e2
  subst e2
  have h2 := Lib.cells_of_tab (k := .i64) (zs := [x, y, z]) Tryd.underlying27 Tryd.underlying3 (by kernel_rfl) (by kernel_rfl) h1
  have hb : b = s.data.toList := by
    have := e1.symm.trans (congrArg Prod.fst hd)
    simpa using this
  refine ⟨?_, ?_, ?_, ?_⟩
  · have := two_at (l := [Value.string s]) hs 0 (by simp)
    simp only [Nat.add_zero, List.getElem?_cons_zero] at this
    rw [hb]
    exact this
  · exact two_at (l := [Value.int .i64 x, .int .i64 y, .int .i64 z]) h2 0 (by simp)
  · exact two_at (l := [Value.int .i64 x, .int .i64 y, .int .i64 z]) h2 1 (by simp)
  · exact two_at (l := [Value.int .i64 x, .int .i64 y, .int .i64 z]) h2 2 (by simp)
end

theorem block_of_cell {w : World} {g i : Nat} {v : Value} (h : w.cell? ⟨g, i, none⟩ = some v) : g < w.heap.size := World.block_lt_of_cell? w ⟨g, i, none⟩ h

theorem tw_reads {w : World} (h : Lib.VarReads Tryd.prog w "buchholz/group.twelfths" Rows.laid_buchholz_group_twelfths) : TwIn w := by
  obtain ⟨g, t, cs, fuel, p, h1, h2, h3, h4⟩ := h
  have hg : Tryd.prog.globalNamed "buchholz/group.twelfths" = some 1 := by kernel_rfl
  obtain rfl := Option.some.inj (hg.symm.trans h1)
  obtain rfl := Option.some.inj ((show (Tryd.prog.globals[1]?).map (·.type) = some 136 by kernel_rfl).symm.trans h2)
  have cell := fun j => World.var?_cell h1 h3 j
  have hc : Tryd.prog.cellsOf 86 = 2 := by kernel_rfl
  have el : ∀ i, i < 6 → ∀ x y : Int, ([(1, 0), (2, 1), (1, 1), (1, 2), (0, 1), (-1, 1)] : List (Int × Int))[i]? = some (x, y) → cs.toList[i * 2 + 0]? = some (.int .i64 x) ∧ cs.toList[i * 2 + 1]? = some (.int .i64 y) := by
    intro i hi x y hxy
    obtain ⟨f', d, q, hd, hr⟩ := Lib.array_elem Tryd.underlying136 h4 i hi
    rw [hc] at hr
    have hd2 : d = .agg [.lit (.int .i64 x), .lit (.int .i64 y)] := by
      rcases (by omega : i = 0 ∨ i = 1 ∨ i = 2 ∨ i = 3 ∨ i = 4 ∨ i = 5) with rfl | rfl | rfl | rfl | rfl | rfl <;> (simp at hd hxy; rw [← hd, ← hxy.1, ← hxy.2])
    subst hd2
    have h5 := phasor_cells hr
    exact ⟨two_at (l := [Value.int .i64 x, .int .i64 y]) h5 0 (by simp), two_at (l := [Value.int .i64 x, .int .i64 y]) h5 1 (by simp)⟩
  have all : ∀ i, i < 12 → w.cell? ⟨1, i, none⟩ = some (.int .i64 ([1, 0, 2, 1, 1, 1, 1, 2, 0, 1, -1, 1].getD i 0)) := by
    intro i hi
    rw [cell i, ← Array.getElem?_toList]
    rcases (by omega : i = 0 ∨ i = 1 ∨ i = 2 ∨ i = 3 ∨ i = 4 ∨ i = 5 ∨ i = 6 ∨ i = 7 ∨ i = 8 ∨ i = 9 ∨ i = 10 ∨ i = 11) with rfl | rfl | rfl | rfl | rfl | rfl | rfl | rfl | rfl | rfl | rfl | rfl
    · exact (el 0 (by decide) _ _ rfl).1
    · exact (el 0 (by decide) _ _ rfl).2
    · exact (el 1 (by decide) _ _ rfl).1
    · exact (el 1 (by decide) _ _ rfl).2
    · exact (el 2 (by decide) _ _ rfl).1
    · exact (el 2 (by decide) _ _ rfl).2
    · exact (el 3 (by decide) _ _ rfl).1
    · exact (el 3 (by decide) _ _ rfl).2
    · exact (el 4 (by decide) _ _ rfl).1
    · exact (el 4 (by decide) _ _ rfl).2
    · exact (el 5 (by decide) _ _ rfl).1
    · exact (el 5 (by decide) _ _ rfl).2
  exact ⟨block_of_cell (all 0 (by decide)), all⟩

theorem pat_reads {w : World} (h : Lib.VarReads Tryd.prog w "buchholz/group.patterns" Rows.laid_buchholz_group_patterns) : PatIn w := by
  obtain ⟨g, t, cs, fuel, p, h1, h2, h3, h4⟩ := h
  have hg : Tryd.prog.globalNamed "buchholz/group.patterns" = some 0 := by kernel_rfl
  obtain rfl := Option.some.inj (hg.symm.trans h1)
  obtain rfl := Option.some.inj ((show (Tryd.prog.globals[0]?).map (·.type) = some 95 by kernel_rfl).symm.trans h2)
  have cell := fun j => World.var?_cell h1 h3 j
  have hc : Tryd.prog.cellsOf 94 = 4 := by kernel_rfl
  have el : ∀ i, i < 3 → ∀ (b : List UInt8) (x y z : Int), ([([121], 1, -1, 0), ([100], 1, 0, 0), ([122], 1, -2, 1)] : List (List UInt8 × Int × Int × Int))[i]? = some (b, x, y, z) →
      cs.toList[i * 4 + 0]? = some (.string ⟨b.toArray⟩) ∧ cs.toList[i * 4 + 1]? = some (.int .i64 x) ∧ cs.toList[i * 4 + 2]? = some (.int .i64 y) ∧ cs.toList[i * 4 + 3]? = some (.int .i64 z) := by
    intro i hi b x y z hxy
    obtain ⟨f', d, q, hd, hr⟩ := Lib.array_elem Tryd.underlying95 h4 i hi
    rw [hc] at hr
    have hd2 : d = .agg [.lit (.string b), .agg [.lit (.int .i64 x), .lit (.int .i64 y), .lit (.int .i64 z)]] := by
      rcases (by omega : i = 0 ∨ i = 1 ∨ i = 2) with rfl | rfl | rfl <;> (simp at hd hxy; obtain ⟨rfl, rfl, rfl, rfl⟩ := hxy; rw [← hd])
    subst hd2
    obtain ⟨q0, q1, q2, q3⟩ := pattern_cells hr
    have up : ∀ (j : Nat) (v : Value), j < 4 → ((cs.toList.drop (i * 4)).take 4)[j]? = some v → cs.toList[i * 4 + j]? = some v := by
      intro j v hj h
      simp only [List.getElem?_take, List.getElem?_drop] at h
      rwa [if_pos hj] at h
    exact ⟨up 0 _ (by decide) q0, up 1 _ (by decide) q1, up 2 _ (by decide) q2, up 3 _ (by decide) q3⟩
  have all : ∀ i, i < 12 → w.cell? ⟨0, i, none⟩ = some (patC i) := by
    intro i hi
    rw [cell i, ← Array.getElem?_toList]
    rcases (by omega : i = 0 ∨ i = 1 ∨ i = 2 ∨ i = 3 ∨ i = 4 ∨ i = 5 ∨ i = 6 ∨ i = 7 ∨ i = 8 ∨ i = 9 ∨ i = 10 ∨ i = 11) with rfl | rfl | rfl | rfl | rfl | rfl | rfl | rfl | rfl | rfl | rfl | rfl
    · exact (el 0 (by decide) _ _ _ _ rfl).1
    · exact (el 0 (by decide) _ _ _ _ rfl).2.1
    · exact (el 0 (by decide) _ _ _ _ rfl).2.2.1
    · exact (el 0 (by decide) _ _ _ _ rfl).2.2.2
    · exact (el 1 (by decide) _ _ _ _ rfl).1
    · exact (el 1 (by decide) _ _ _ _ rfl).2.1
    · exact (el 1 (by decide) _ _ _ _ rfl).2.2.1
    · exact (el 1 (by decide) _ _ _ _ rfl).2.2.2
    · exact (el 2 (by decide) _ _ _ _ rfl).1
    · exact (el 2 (by decide) _ _ _ _ rfl).2.1
    · exact (el 2 (by decide) _ _ _ _ rfl).2.2.1
    · exact (el 2 (by decide) _ _ _ _ rfl).2.2.2
  exact ⟨block_of_cell (all 0 (by decide)), all⟩

end Go.Proofs.YtpdkbhjcpddnpaaDoor
