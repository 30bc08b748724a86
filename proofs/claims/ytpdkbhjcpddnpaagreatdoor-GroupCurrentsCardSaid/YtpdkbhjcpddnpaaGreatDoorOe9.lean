/- Arguments that are sources with a load, or currents, opened.
An argument that is a slice of currents, opened. -/
import Derived.Test.YtpdkbhjcpddnpaaGreatDoorOc5
import Derived.Test.YtpdkbhjcpddnpaaGreatDoorOe8
import Derived.Deep.Slices

section
namespace Go.Proofs.YtpdkbhjcpddnpaaGreatDoor
open Go.ChangeShapes Go.WideShapes Go.ChangeAt Go.RowKit Go.Joins Go.Deep

theorem cells_frac : Tryz.prog.cellsOf 59 = 2 := by kernel_rfl
theorem cells_source : Tryz.prog.cellsOf 87 = 4 := by kernel_rfl
theorem cells_current : Tryz.prog.cellsOf 90 = 4 := by kernel_rfl
theorem cells_load : Tryz.prog.cellsOf 26 = 3 := by kernel_rfl
theorem cells_sources : Tryz.prog.cellsOf 22 = 1 := by kernel_rfl
theorem wf64 {n : Int} (h : (Lit.int .i64 n).wf = true) : W64 n := wf_bd h

theorem pick_each {α : Type} [Inhabited α] {n : Nat} {p : Nat → α → Prop} (h : ∀ i, i < n → ∃ x, p i x) : ∃ F : Nat → α, ∀ i, i < n → p i (F i) := by
  classical
  exact ⟨fun i => if hi : i < n then Classical.choose (h i hi) else default, fun i hi => by
    show p i (if hi : i < n then Classical.choose (h i hi) else default)
    rw [dif_pos hi]
    exact Classical.choose_spec (h i hi)⟩

section
variable {H : Type} {enc : TypeId × Value → H} {w : World} {base b0 : Nat} {spare : Nat → Bool} {held : Bool} {r : Reach}

theorem two_ints {v0 v1 : Value} (h : IntCells [v0, v1]) : ∃ a b, v0 = .int .i64 a ∧ v1 = .int .i64 b ∧ W64 a ∧ W64 b := by
  obtain ⟨a, ha, wa⟩ := h v0 (by simp)
  obtain ⟨b, hb, wb⟩ := h v1 (by simp)
  exact ⟨a, b, ha, hb, wf64 wa, wf64 wb⟩
theorem is_frac {fuel : Nat} {cs : List Value} {x : DataW H × List MemPlace} (h : DataW.trod enc Tryz.prog w base spare held fuel 59 cs = some x) : cs.length = 2 ∧ IntCells cs := by
  rw [← cells_frac]
  refine intCells_struct Tryz.underlying59 (fun i f hi {_ _ _} hf => ?_) (fun k hk => ?_) h
  · match i, hi with
    | 0, hi => injection hi with hi; subst hi; exact is_int hf
    | 1, hi => injection hi with hi; subst hi; exact is_int hf
  · rw [cells_frac] at hk
    rcases (show k = 0 ∨ k = 1 by omega) with rfl | rfl
    · exact ⟨0, _, 1, rfl, cells_int, by decide, by decide⟩
    · exact ⟨1, _, 1, rfl, cells_int, by decide, by decide⟩
set_option maxRecDepth 100000 in
theorem is_source {fuel : Nat} {cs : List Value} {x : DataW H × List MemPlace} (h : DataW.trod enc Tryz.prog w base spare held fuel 87 cs = some x) : ∃ s : Src, cs = srcU s ∧ Src64 s := by
  obtain ⟨xs, n, _, _, hl, hxl, hg⟩ := DataW.trod_struct Tryz.underlying87 h
  rw [cells_source] at hl
  have hxl2 : xs.length = 2 := hxl
  have h0 : DataW.trod enc Tryz.prog w base spare held n 24 ((cs.drop 0).take (Tryz.prog.cellsOf 24)) = xs[0]? := hg 0 _ rfl
  have h1 : DataW.trod enc Tryz.prog w base spare held n 59 ((cs.drop 2).take (Tryz.prog.cellsOf 59)) = xs[1]? := hg 1 _ rfl
  rw [List.getElem?_eq_getElem (by omega)] at h0 h1
  rw [cells_phasor] at h0
  rw [cells_frac] at h1
  match cs, hl with
  | [v0, v1, v2, v3], _ =>
    obtain ⟨a, b, rfl, rfl, wa, wb⟩ := two_ints (is_phasor h0).2
    obtain ⟨c, d, rfl, rfl, wc, wd⟩ := two_ints (is_frac h1).2
    exact ⟨⟨a, b, c, d⟩, rfl, wa, wb, wc, wd⟩
set_option maxRecDepth 100000 in
theorem is_current {fuel : Nat} {cs : List Value} {x : DataW H × List MemPlace} (h : DataW.trod enc Tryz.prog w base spare held fuel 90 cs = some x) : ∃ s : Cu, cs = cuC s ∧ Cu64 s := by
  obtain ⟨xs, n, _, _, hl, hxl, hg⟩ := DataW.trod_struct Tryz.underlying90 h
  rw [cells_current] at hl
  have hxl2 : xs.length = 2 := hxl
  have h0 : DataW.trod enc Tryz.prog w base spare held n 59 ((cs.drop 0).take (Tryz.prog.cellsOf 59)) = xs[0]? := hg 0 _ rfl
  have h1 : DataW.trod enc Tryz.prog w base spare held n 59 ((cs.drop 2).take (Tryz.prog.cellsOf 59)) = xs[1]? := hg 1 _ rfl
  rw [List.getElem?_eq_getElem (by omega)] at h0 h1
  rw [cells_frac] at h0
  rw [cells_frac] at h1
  match cs, hl with
  | [v0, v1, v2, v3], _ =>
    obtain ⟨a, b, rfl, rfl, wa, wb⟩ := two_ints (is_frac h0).2
    obtain ⟨c, d, rfl, rfl, wc, wd⟩ := two_ints (is_frac h1).2
    exact ⟨⟨a, b, c, d⟩, rfl, wa, wb, wc, wd⟩
set_option maxRecDepth 100000 in
theorem open_sources {fuel : Nat} {cs : List Value} {x : DataW H × List MemPlace} (hf : DataW.trod enc Tryz.prog w base spare held fuel 22 cs = some x) :
    ∃ (A : Option Addr) (c : Nat) (ls : List Src), cs = [.slice A ls.length c] ∧ CellsIn w.heap.size w A (srcCells ls) ∧ (∀ s ∈ ls, Src64 s) ∧ ls.length ≤ c := by
  rcases open_slice Tryz.underlying22 hf with ⟨hcs, _⟩ | ⟨a, len, cap, m, n, D, Pl, hcs, _, hl, hm, hmm, _, hx⟩
  · exact ⟨none, 0, [], hcs, .inl rfl, (fun s hs => by cases hs), Nat.le_refl _⟩
  · have hlm : len ≤ m := by rw [hmm]; split <;> omega
    rw [cells_source] at hx
    obtain ⟨G, hG⟩ := pick_each (n := len) (p := fun i (s : Src) => w.cells? base (a.add (i * 4)) 4 = some (srcU s) ∧ Src64 s) fun i hi => by
      obtain ⟨cs', h1, h2⟩ := hx i (by omega)
      obtain ⟨s, rfl, hs⟩ := is_source h2
      exact ⟨s, h1, hs⟩
    have hlen : ((List.range len).map G).length = len := by simp
    refine ⟨some a, cap, (List.range len).map G, by rw [hlen]; exact hcs, ?_, fun s hs => ?_, by omega⟩
    · rcases Nat.eq_zero_or_pos len with h0 | h0
      · exact .inl (by rw [h0]; rfl)
      · obtain ⟨b, off, spot⟩ := a
        have hspot : spot = none := by
          have h2 := (World.cells?_some (hG 0 h0).1).2.2 0 (show 0 < 4 by decide)
          have h3 := World.cell?_spot (h2.trans (List.getElem?_eq_getElem (show 0 < 4 by decide)))
          simpa [Addr.add] using h3
        subst hspot
        have hat : ∀ i, i < len → ∀ q, q < 4 → w.cell? ⟨b, off + i * 4 + q, none⟩ = (srcU (G i))[q]? := fun i hi q hq => by
          have h4 := (World.cells?_some (hG i hi).1).2.2 q (show q < 4 from hq)
          rw [Go.WideShapes.add_plain, Go.WideShapes.add_plain] at h4
          exact h4
        refine .inr ⟨b, off, rfl, World.block_lt_of_cell? w ⟨b, off + 0 * 4 + 0, none⟩ ((hat 0 h0 0 (by decide)).trans (List.getElem?_eq_getElem (show 0 < 4 by decide))), fun j hj => ?_⟩
        have hll : (srcCells ((List.range len).map G)).length = len * 4 := by
          have := flat4_len src_len ((List.range len).map G)
          rw [hlen] at this
          exact this
        rw [hll] at hj
        obtain ⟨i, q, hq, rfl⟩ : ∃ i q, q < 4 ∧ j = i * 4 + q := ⟨j / 4, j % 4, Nat.mod_lt _ (by decide), by omega⟩
        have hi : i < len := by omega
        have e : (srcCells ((List.range len).map G))[i * 4 + q]? = (srcU (((List.range len).map G).getD i default))[q]? := flat4_at src_len (by rw [hlen]; exact hi) hq
        have e2 : ((List.range len).map G).getD i default = G i := by simp [List.getD, hi]
        rw [e, e2, ← Nat.add_assoc]
        exact hat i hi q hq
    · obtain ⟨i, hi, rfl⟩ := List.mem_map.1 hs
      exact (hG i (List.mem_range.1 hi)).2
set_option maxRecDepth 100000 in
theorem open_currents {fuel : Nat} {cs : List Value} {x : DataW H × List MemPlace} (hf : DataW.trod enc Tryz.prog w base spare held fuel 27 cs = some x) :
    ∃ (A : Option Addr) (c : Nat) (ls : List Cu), cs = [.slice A ls.length c] ∧ CellsIn w.heap.size w A (cuCells ls) ∧ (∀ s ∈ ls, Cu64 s) ∧ ls.length ≤ c := by
  rcases open_slice Tryz.underlying27 hf with ⟨hcs, _⟩ | ⟨a, len, cap, m, n, D, Pl, hcs, _, hl, hm, hmm, _, hx⟩
  · exact ⟨none, 0, [], hcs, .inl rfl, (fun s hs => by cases hs), Nat.le_refl _⟩
  · have hlm : len ≤ m := by rw [hmm]; split <;> omega
    rw [cells_current] at hx
    obtain ⟨G, hG⟩ := pick_each (n := len) (p := fun i (s : Cu) => w.cells? base (a.add (i * 4)) 4 = some (cuC s) ∧ Cu64 s) fun i hi => by
      obtain ⟨cs', h1, h2⟩ := hx i (by omega)
      obtain ⟨s, rfl, hs⟩ := is_current h2
      exact ⟨s, h1, hs⟩
    have hlen : ((List.range len).map G).length = len := by simp
    refine ⟨some a, cap, (List.range len).map G, by rw [hlen]; exact hcs, ?_, fun s hs => ?_, by omega⟩
    · rcases Nat.eq_zero_or_pos len with h0 | h0
      · exact .inl (by rw [h0]; rfl)
      · obtain ⟨b, off, spot⟩ := a
        have hspot : spot = none := by
          have h2 := (World.cells?_some (hG 0 h0).1).2.2 0 (show 0 < 4 by decide)
          have h3 := World.cell?_spot (h2.trans (List.getElem?_eq_getElem (show 0 < 4 by decide)))
          simpa [Addr.add] using h3
        subst hspot
        have hat : ∀ i, i < len → ∀ q, q < 4 → w.cell? ⟨b, off + i * 4 + q, none⟩ = (cuC (G i))[q]? := fun i hi q hq => by
          have h4 := (World.cells?_some (hG i hi).1).2.2 q (show q < 4 from hq)
          rw [Go.WideShapes.add_plain, Go.WideShapes.add_plain] at h4
          exact h4
        refine .inr ⟨b, off, rfl, World.block_lt_of_cell? w ⟨b, off + 0 * 4 + 0, none⟩ ((hat 0 h0 0 (by decide)).trans (List.getElem?_eq_getElem (show 0 < 4 by decide))), fun j hj => ?_⟩
        have hll : (cuCells ((List.range len).map G)).length = len * 4 := by
          have := flat4_len cu_len ((List.range len).map G)
          rw [hlen] at this
          exact this
        rw [hll] at hj
        obtain ⟨i, q, hq, rfl⟩ : ∃ i q, q < 4 ∧ j = i * 4 + q := ⟨j / 4, j % 4, Nat.mod_lt _ (by decide), by omega⟩
        have hi : i < len := by omega
        have e : (cuCells ((List.range len).map G))[i * 4 + q]? = (cuC (((List.range len).map G).getD i default))[q]? := flat4_at cu_len (by rw [hlen]; exact hi) hq
        have e2 : ((List.range len).map G).getD i default = G i := by simp [List.getD, hi]
        rw [e, e2, ← Nat.add_assoc]
        exact hat i hi q hq
    · obtain ⟨i, hi, rfl⟩ := List.mem_map.1 hs
      exact (hG i (List.mem_range.1 hi)).2

set_option maxRecDepth 100000 in
theorem open_load {v : Value} {d : DataW H} {p : List MemPlace} (hv : Value.okWide Tryz.prog w r b0 26 v) (h : DataW.Trod enc Tryz.prog w base spare held 26 v d p) :
    ∃ (A : Option Addr) (c : Nat) (ls : List Src) (x y : Int), v = .agg #[.slice A ls.length c, .int .i64 x, .int .i64 y] ∧ CellsIn w.heap.size w A (srcCells ls) ∧ (∀ s ∈ ls, Src64 s) ∧ ls.length ≤ c ∧ W64 x ∧ W64 y := by
  obtain ⟨cs0, rfl, _⟩ := okWide_struct Tryz.underlying26 hv
  obtain ⟨fuel, hf⟩ := agg_cells h
  obtain ⟨xs, n, _, _, hl, hxl, hg⟩ := DataW.trod_struct Tryz.underlying26 hf
  rw [cells_load] at hl
  have hxl2 : xs.length = 2 := hxl
  have h0 : DataW.trod enc Tryz.prog w base spare held n 22 ((cs0.toList.drop 0).take (Tryz.prog.cellsOf 22)) = xs[0]? := hg 0 _ rfl
  have h1 : DataW.trod enc Tryz.prog w base spare held n 24 ((cs0.toList.drop 1).take (Tryz.prog.cellsOf 24)) = xs[1]? := hg 1 _ rfl
  rw [List.getElem?_eq_getElem (by omega)] at h0 h1
  rw [cells_sources] at h0
  rw [cells_phasor] at h1
  obtain ⟨l⟩ := cs0
  match l, hl with
  | [v0, v1, v2], _ =>
    obtain ⟨A, c, ls, e0, hr, h64, hc⟩ := open_sources h0
    obtain ⟨x, y, rfl, rfl, wx, wy⟩ := two_ints (is_phasor h1).2
    refine ⟨A, c, ls, x, y, ?_, hr, h64, hc, wx, wy⟩
    simp only [List.drop_zero, List.take_succ_cons, List.take_zero, List.cons.injEq, and_true] at e0
    rw [e0]
end

end Go.Proofs.YtpdkbhjcpddnpaaGreatDoor
end

section
namespace Go.Proofs.YtpdkbhjcpddnpaaGreatDoor
open Go.ChangeShapes Go.WideShapes Go.ChangeAt Go.RowKit Go.Joins Go.Deep

section
variable {H : Type} {enc : TypeId × Value → H} {w : World} {base b0 : Nat} {spare : Nat → Bool} {held : Bool} {r : Reach}
set_option maxRecDepth 100000 in
theorem open_currents2 {v : Value} {d : DataW H} {p : List MemPlace} (hv : Value.okWide Tryz.prog w r b0 27 v) (h : DataW.Trod enc Tryz.prog w base spare held 27 v d p) :
    ∃ (A : Option Addr) (c : Nat) (ls : List Cu), v = .slice A ls.length c ∧ CellsIn w.heap.size w A (cuCells ls) ∧ (∀ s ∈ ls, Cu64 s) ∧ ls.length ≤ c := by
  obtain ⟨a, len, cap, rfl⟩ := okWide_slice Tryz.underlying27 hv
  obtain ⟨fuel, hf⟩ := h
  obtain ⟨A, c, ls, e1, h1, h2, h3⟩ := open_currents hf
  have e2 : Value.slice a len cap = .slice A ls.length c := by simpa [Value.cells] using e1
  exact ⟨A, c, ls, e2, h1, h2, h3⟩
end

end Go.Proofs.YtpdkbhjcpddnpaaGreatDoor
end
