/- Arguments that are slices of strings, and of lots, opened.
An argument that is a slice of loads, opened. -/
import Derived.Test.YtbojmcopagbheaaGreatDoorQC
import Derived.Test.YtbojmcopagbheaaGreatDoorZCFam
import Derived.Deep.Strs
import Derived.Test.YtbojmcopagbheaaGreatDoorRD

section
namespace Go.Proofs.YtbojmcopagbheaaGreatDoor
open Go.ChangeShapes Go.WideShapes Go.ChangeAt Go.RowKit Go.Joins Go.Deep

theorem cells_string : Tryz.prog.cellsOf 9 = 1 := by kernel_rfl
theorem cells_texts : Tryz.prog.cellsOf 56 = 1 := by kernel_rfl
theorem cells_lot : Tryz.prog.cellsOf 58 = 6 := by kernel_rfl

section
variable {H : Type} {enc : TypeId × Value → H} {w : World} {base b0 : Nat} {spare : Nat → Bool} {held : Bool} {r : Reach}

theorem open_texts {fuel : Nat} {cs : List Value} {x : DataW H × List MemPlace} (h : DataW.trod enc Tryz.prog w base spare held fuel 56 cs = some x) :
    ∃ (A : Option Addr) (c : Nat) (ys : List ByteArray), cs = [.slice A ys.length c] ∧ RowIn Value.string w.heap.size w A ys ∧ ys.length ≤ c ∧ c ≤ maxLen := by
  rcases open_strs Tryz.underlying56 Tryz.underlying9 cells_string h with ⟨hcs, _⟩ | ⟨a, len, cap, m, Sx, hcs, _, hl, hm, hmm, _, hcell⟩
  · exact ⟨none, 0, [], hcs, .inl rfl, Nat.le_refl _, by unfold maxLen; omega⟩
  · have hlm : len ≤ m := by rw [hmm]; split <;> omega
    have hlen : ((List.range len).map Sx).length = len := by simp
    refine ⟨some a, cap, (List.range len).map Sx, by rw [hcs, hlen], ?_, by omega, hm⟩
    rcases Nat.eq_zero_or_pos len with h0 | h0
    · exact .inl (by rw [h0]; rfl)
    · obtain ⟨b, off, spot⟩ := a
      have hspot : spot = none := by simpa [Addr.add] using World.cell?_spot (hcell 0 (by omega)).1
      subst hspot
      have hc : ∀ j, j < len → w.cell? ⟨b, off + j, none⟩ = some (.string (Sx j)) := fun j hj => by
        have := (hcell j (by omega)).1
        rwa [Go.WideShapes.add_plain] at this
      refine .inr ⟨b, off, rfl, World.block_lt_of_cell? w ⟨b, off + 0, none⟩ (hc 0 h0), fun j hj => ?_⟩
      rw [hlen] at hj
      rw [hc j hj]
      simp [List.getD, hj]

set_option maxRecDepth 100000 in
theorem is_lot {fuel : Nat} {cs : List Value} {x : DataW H × List MemPlace} (h : DataW.trod enc Tryz.prog w base spare held fuel 58 cs = some x) :
    ∃ (y : Lot) (A : Option Addr) (c : Nat), cs = [.string y.name, .slice A y.made.length c, .int .i64 y.mlo, .int .i64 y.mhi, .int .i64 y.llo, .int .i64 y.lhi] ∧ RowIn Value.string w.heap.size w A y.made ∧ y.made.length ≤ c := by
  obtain ⟨xs, n, _, _, hl, hxl, hg⟩ := DataW.trod_struct Tryz.underlying58 h
  rw [cells_lot] at hl
  have hxl4 : xs.length = 4 := hxl
  have h0 : DataW.trod enc Tryz.prog w base spare held n 9 ((cs.drop 0).take (Tryz.prog.cellsOf 9)) = xs[0]? := hg 0 _ rfl
  have h1 : DataW.trod enc Tryz.prog w base spare held n 56 ((cs.drop 1).take (Tryz.prog.cellsOf 56)) = xs[1]? := hg 1 _ rfl
  have h2 : DataW.trod enc Tryz.prog w base spare held n 29 ((cs.drop 2).take (Tryz.prog.cellsOf 29)) = xs[2]? := hg 2 _ rfl
  have h3 : DataW.trod enc Tryz.prog w base spare held n 29 ((cs.drop 4).take (Tryz.prog.cellsOf 29)) = xs[3]? := hg 3 _ rfl
  rw [List.getElem?_eq_getElem (by omega)] at h0 h1 h2 h3
  rw [cells_string] at h0
  rw [cells_texts] at h1
  rw [cells_range] at h2 h3
  match cs, hl with
  | [v0, v1, v2, v3, v4, v5], _ =>
    obtain ⟨s, e0, _, _⟩ := DataW.trod_string Tryz.underlying9 h0
    obtain ⟨A, c, ys, e1, hr, hc, _⟩ := open_texts h1
    obtain ⟨a1, a2, e2, _, _⟩ := ints2 (cs := #[v2, v3]) (is_range h2)
    obtain ⟨a3, a4, e3, _, _⟩ := ints2 (cs := #[v4, v5]) (is_range h3)
    refine ⟨⟨s, ys, a1, a2, a3, a4⟩, A, c, ?_, hr, hc⟩
    simp only [List.drop_zero, List.take_succ_cons, List.take_zero, List.drop_succ_cons, List.cons.injEq, and_true] at e0 e1
    injection e2 with e2
    injection e3 with e3
    simp only [List.cons.injEq, and_true] at e2 e3
    rw [e0, e1, e2.1, e2.2, e3.1, e3.2]

set_option maxRecDepth 100000 in
theorem open_lots_arg {v : Value} {d : DataW H} {p : List MemPlace} (hv : Value.okWide Tryz.prog w r b0 53 v) (h : DataW.Trod enc Tryz.prog w base spare held 53 v d p) :
    ∃ (A : Option Addr) (c : Nat) (xs : List Lot), v = .slice A xs.length c ∧ LotsIn w.heap.size w A xs ∧ xs.length ≤ c ∧ xs.length ≤ maxLen := by
  obtain ⟨a0, len0, cap0, rfl⟩ := okWide_slice Tryz.underlying53 hv
  obtain ⟨fuel, hf⟩ := h
  rcases open_slice Tryz.underlying53 hf with ⟨hcs, _⟩ | ⟨a, len, cap, m, n, D, Pl, hcs, _, hl, hm, hmm, _, hx⟩
  · refine ⟨none, 0, [], ?_, .inl rfl, Nat.le_refl _, Nat.zero_le _⟩
    simpa [Value.cells] using hcs
  · have hlm : len ≤ m := by rw [hmm]; split <;> omega
    have e : Value.slice a0 len0 cap0 = .slice (some a) len cap := by simpa [Value.cells] using hcs
    rw [e]
    rw [cells_lot] at hx
    obtain ⟨F, hF⟩ := choose_lt (n := len) (p := fun i (y : Lot) => ∃ (A : Option Addr) (c : Nat), w.cells? base (a.add (i * 6)) 6 = some [.string y.name, .slice A y.made.length c, .int .i64 y.mlo, .int .i64 y.mhi, .int .i64 y.llo, .int .i64 y.lhi] ∧ RowIn Value.string w.heap.size w A y.made ∧ y.made.length ≤ c) fun i hi => by
      obtain ⟨cs', h1, h2⟩ := hx i (by omega)
      obtain ⟨y, A, c, rfl, h3, h4⟩ := is_lot h2
      exact ⟨y, A, c, h1, h3, h4⟩
    have hlen : ((List.range len).map F).length = len := by simp
    refine ⟨some a, cap, (List.range len).map F, by rw [hlen], ?_, by omega, by omega⟩
    rcases Nat.eq_zero_or_pos len with h0 | h0
    · exact .inl (by rw [h0]; rfl)
    · obtain ⟨b, off, spot⟩ := a
      have hspot : spot = none := by
        obtain ⟨A, c, h1, _⟩ := hF 0 h0
        have h2 := (World.cells?_some h1).2.2 0 (by omega)
        simpa [Addr.add] using World.cell?_spot h2
      subst hspot
      have hat : ∀ i, i < len → LotAt w.heap.size w b (off + i * 6) (F i) := fun i hi => by
        obtain ⟨A, c, h1, h2, h3⟩ := hF i hi
        have hc : ∀ q v, [Value.string (F i).name, .slice A (F i).made.length c, .int .i64 (F i).mlo, .int .i64 (F i).mhi, .int .i64 (F i).llo, .int .i64 (F i).lhi][q]? = some v → w.cell? ⟨b, off + i * 6 + q, none⟩ = some v := fun q v hv => by
          have h4 := (World.cells?_some h1).2.2 q (List.getElem?_eq_some_iff.1 hv).1
          rw [Go.WideShapes.add_plain, Go.WideShapes.add_plain] at h4
          exact h4.trans hv
        exact ⟨hc 0 _ rfl, A, c, hc 1 _ rfl, h2, h3, hc 2 _ rfl, hc 3 _ rfl, hc 4 _ rfl, hc 5 _ rfl⟩
      refine .inr ⟨b, off, rfl, World.block_lt_of_cell? w ⟨b, off + 0 * 6, none⟩ (hat 0 h0).1, fun i hi => ?_⟩
      rw [hlen] at hi
      have e2 : ((List.range len).map F).getD i default = F i := by simp [List.getD, hi]
      rw [e2]
      exact hat i hi
end

end Go.Proofs.YtbojmcopagbheaaGreatDoor
end

section
namespace Go.Proofs.YtbojmcopagbheaaGreatDoor
open Go.ChangeShapes Go.WideShapes Go.ChangeAt Go.RowKit Go.Joins Go.Deep

theorem cells_load : Tryz.prog.cellsOf 34 = 8 := by kernel_rfl
theorem cells_intsL : Tryz.prog.cellsOf 32 = 1 := by kernel_rfl

section
variable {H : Type} {enc : TypeId × Value → H} {w : World} {base b0 : Nat} {spare : Nat → Bool} {held : Bool} {r : Reach}

/-- The cells of a load. -/
def loadCells (y : Load) (A : Option Addr) (c : Nat) : List Value := [.int .i64 y.rlo, .int .i64 y.rhi, .int .i64 y.fl, .int .i64 y.wlo, .int .i64 y.whi, .int .i64 y.tgt, .int .i64 y.num, .slice A y.rates.length c]

set_option maxRecDepth 100000 in
theorem is_load {fuel : Nat} {cs : List Value} {x : DataW H × List MemPlace} (h : DataW.trod enc Tryz.prog w base spare held fuel 34 cs = some x) :
    ∃ (y : Load) (A : Option Addr) (c : Nat), cs = loadCells y A c ∧ IntsIn w.heap.size w A y.rates ∧ y.rates.length ≤ maxLen := by
  obtain ⟨xs, n, _, _, hl, hxl, hg⟩ := DataW.trod_struct Tryz.underlying34 h
  rw [cells_load] at hl
  have hxl5 : xs.length = 5 := hxl
  have h0 : DataW.trod enc Tryz.prog w base spare held n 31 ((cs.drop 0).take (Tryz.prog.cellsOf 31)) = xs[0]? := hg 0 _ rfl
  have h1 : DataW.trod enc Tryz.prog w base spare held n 29 ((cs.drop 3).take (Tryz.prog.cellsOf 29)) = xs[1]? := hg 1 _ rfl
  have h2 : DataW.trod enc Tryz.prog w base spare held n 3 ((cs.drop 5).take (Tryz.prog.cellsOf 3)) = xs[2]? := hg 2 _ rfl
  have h3 : DataW.trod enc Tryz.prog w base spare held n 3 ((cs.drop 6).take (Tryz.prog.cellsOf 3)) = xs[3]? := hg 3 _ rfl
  have h4 : DataW.trod enc Tryz.prog w base spare held n 32 ((cs.drop 7).take (Tryz.prog.cellsOf 32)) = xs[4]? := hg 4 _ rfl
  rw [List.getElem?_eq_getElem (by omega)] at h0 h1 h2 h3 h4
  rw [cells_oven] at h0
  rw [cells_range] at h1
  rw [cells_int] at h2 h3
  rw [cells_intsL] at h4
  match cs, hl with
  | [v0, v1, v2, v3, v4, v5, v6, v7], _ =>
    obtain ⟨a0, a1, a2, e0, _, _, _⟩ := ints3 (cs := #[v0, v1, v2]) (is_oven h0)
    obtain ⟨a3, a4, e1, _, _⟩ := ints2 (cs := #[v3, v4]) (is_range h1)
    obtain ⟨a5, e2, _, _⟩ := DataW.trod_int Tryz.underlying3 h2
    obtain ⟨a6, e3, _, _⟩ := DataW.trod_int Tryz.underlying3 h3
    obtain ⟨A, c, ys, e4, hr, hc, hm, _⟩ := open_slice_ints Tryz.underlying32 Tryz.underlying3 cells_int h4
    refine ⟨⟨a0, a1, a2, a3, a4, a5, a6, ys⟩, A, c, ?_, hr, Nat.le_trans hc hm⟩
    injection e0 with e0
    injection e1 with e1
    simp only [List.drop_zero, List.take_succ_cons, List.take_zero, List.drop_succ_cons, List.cons.injEq, and_true] at e0 e1 e2 e3 e4
    unfold loadCells
    rw [e0.1, e0.2.1, e0.2.2, e1.1, e1.2, e2, e3, e4]

set_option maxRecDepth 100000 in
theorem open_loads_arg {v : Value} {d : DataW H} {p : List MemPlace} (hv : Value.okWide Tryz.prog w r b0 22 v) (h : DataW.Trod enc Tryz.prog w base spare held 22 v d p) :
    ∃ (A : Option Addr) (c : Nat) (xs : List Load), v = .slice A xs.length c ∧ LoadsIn w.heap.size w A xs ∧ xs.length ≤ c ∧ xs.length ≤ maxLen := by
  obtain ⟨a0, len0, cap0, rfl⟩ := okWide_slice Tryz.underlying22 hv
  obtain ⟨fuel, hf⟩ := h
  rcases open_slice Tryz.underlying22 hf with ⟨hcs, _⟩ | ⟨a, len, cap, m, n, D, Pl, hcs, _, hl, hm, hmm, _, hx⟩
  · refine ⟨none, 0, [], ?_, .inl rfl, Nat.le_refl _, Nat.zero_le _⟩
    simpa [Value.cells] using hcs
  · have hlm : len ≤ m := by rw [hmm]; split <;> omega
    rw [cells_load] at hx
    obtain ⟨F, hF⟩ := choose_lt (n := len) (p := fun i (y : Load) => ∃ (A : Option Addr) (c : Nat), w.cells? base (a.add (i * 8)) 8 = some (loadCells y A c) ∧ IntsIn w.heap.size w A y.rates ∧ y.rates.length ≤ maxLen) fun i hi => by
      obtain ⟨cs', h1, h2⟩ := hx i (by omega)
      obtain ⟨y, A, c, rfl, h3, h4⟩ := is_load h2
      exact ⟨y, A, c, h1, h3, h4⟩
    have hlen : ((List.range len).map F).length = len := by simp
    refine ⟨some a, cap, (List.range len).map F, by rw [hlen]; simpa [Value.cells] using hcs, ?_, by omega, by omega⟩
    rcases Nat.eq_zero_or_pos len with h0 | h0
    · exact .inl (by rw [h0]; rfl)
    · obtain ⟨b, off, spot⟩ := a
      have hspot : spot = none := by
        obtain ⟨A, c, h1, _⟩ := hF 0 h0
        have h2 := (World.cells?_some h1).2.2 0 (by simp [loadCells])
        simpa [Addr.add] using World.cell?_spot h2
      subst hspot
      have hat : ∀ i, i < len → LoadAt w.heap.size w b (off + i * 8) (F i) := fun i hi => by
        obtain ⟨A, c, h1, h2, h3⟩ := hF i hi
        have hc : ∀ q v, (loadCells (F i) A c)[q]? = some v → w.cell? ⟨b, off + i * 8 + q, none⟩ = some v := fun q v hv => by
          have h4 := (World.cells?_some h1).2.2 q (List.getElem?_eq_some_iff.1 hv).1
          rw [Go.WideShapes.add_plain, Go.WideShapes.add_plain] at h4
          exact h4.trans hv
        exact ⟨hc 0 _ rfl, hc 1 _ rfl, hc 2 _ rfl, hc 3 _ rfl, hc 4 _ rfl, hc 5 _ rfl, hc 6 _ rfl, A, c, hc 7 _ rfl, h2, h3⟩
      refine .inr ⟨b, off, rfl, World.block_lt_of_cell? w ⟨b, off + 0 * 8, none⟩ (hat 0 h0).1, fun i hi => ?_⟩
      rw [hlen] at hi
      have e2 : ((List.range len).map F).getD i default = F i := by simp [List.getD, hi]
      rw [e2]
      exact hat i hi
end

end Go.Proofs.YtbojmcopagbheaaGreatDoor
end
