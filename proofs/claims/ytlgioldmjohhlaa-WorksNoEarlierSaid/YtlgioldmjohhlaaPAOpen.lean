/- Arguments that are plans, opened. -/
import Derived.Test.YtlgioldmjohhlaaMA
import Derived.Test.YtlgioldmjohhlaaP1Copy
import Derived.Deep.Slices
namespace Go.Proofs.Ytlgioldmjohhlaa
open Go.ChangeShapes Go.WideShapes Go.ChangeAt Go.RowKit Go.Joins Go.Deep

theorem cells_task : Try.prog.cellsOf 101 = 4 := by kernel_rfl
theorem cells_plan : Try.prog.cellsOf 24 = 2 := by kernel_rfl
theorem cells_ints : Try.prog.cellsOf 28 = 1 := by kernel_rfl
theorem cells_tasks : Try.prog.cellsOf 22 = 1 := by kernel_rfl

section
variable {H : Type} {enc : TypeId × Value → H} {w : World} {base b0 : Nat} {spare : Nat → Bool} {held : Bool} {r : Reach}

set_option maxRecDepth 100000 in
theorem is_task {fuel : Nat} {cs : List Value} {x : DataW H × List MemPlace} (h : DataW.trod enc Try.prog w base spare held fuel 101 cs = some x) :
    ∃ (y : Task) (A : Option Addr) (c : Nat), cs = [.int .i64 y.machine, .int .i64 y.length, .int .i64 y.release, .slice A y.after.length c] ∧ IntsIn w.heap.size w A y.after ∧ y.after.length ≤ c := by
  obtain ⟨xs, n, _, _, hl, hxl, hg⟩ := DataW.trod_struct Try.underlying101 h
  rw [cells_task] at hl
  have hxl4 : xs.length = 4 := hxl
  have h0 : DataW.trod enc Try.prog w base spare held n 3 ((cs.drop 0).take (Try.prog.cellsOf 3)) = xs[0]? := hg 0 _ rfl
  have h1 : DataW.trod enc Try.prog w base spare held n 3 ((cs.drop 1).take (Try.prog.cellsOf 3)) = xs[1]? := hg 1 _ rfl
  have h2 : DataW.trod enc Try.prog w base spare held n 3 ((cs.drop 2).take (Try.prog.cellsOf 3)) = xs[2]? := hg 2 _ rfl
  have h3 : DataW.trod enc Try.prog w base spare held n 28 ((cs.drop 3).take (Try.prog.cellsOf 28)) = xs[3]? := hg 3 _ rfl
  rw [List.getElem?_eq_getElem (by omega)] at h0 h1 h2 h3
  rw [cells_int] at h0 h1 h2
  rw [cells_ints] at h3
  match cs, hl with
  | [v0, v1, v2, v3], _ =>
    obtain ⟨a0, e0, _, _⟩ := DataW.trod_int Try.underlying3 h0
    obtain ⟨a1, e1, _, _⟩ := DataW.trod_int Try.underlying3 h1
    obtain ⟨a2, e2, _, _⟩ := DataW.trod_int Try.underlying3 h2
    obtain ⟨A, c, ys, e3, hr, hc, _⟩ := open_slice_ints Try.underlying28 Try.underlying3 cells_int h3
    refine ⟨⟨a0, a1, a2, ys⟩, A, c, ?_, hr, hc⟩
    simp only [List.drop_zero, List.take_succ_cons, List.take_zero, List.drop_succ_cons, List.cons.injEq, and_true] at e0 e1 e2 e3
    rw [e0, e1, e2, e3]

set_option maxRecDepth 100000 in
theorem open_tasks {fuel : Nat} {cs : List Value} {x : DataW H × List MemPlace} (hf : DataW.trod enc Try.prog w base spare held fuel 22 cs = some x) :
    ∃ (A : Option Addr) (c : Nat) (ts : List Task), cs = [.slice A ts.length c] ∧ TasksIn w.heap.size w A ts ∧ ts.length ≤ c ∧ ts.length ≤ maxLen := by
  rcases open_slice Try.underlying22 hf with ⟨hcs, _⟩ | ⟨a, len, cap, m, n, D, Pl, hcs, _, hl, hm, hmm, _, hx⟩
  · exact ⟨none, 0, [], hcs, .inl rfl, Nat.le_refl _, Nat.zero_le _⟩
  · have hlm : len ≤ m := by rw [hmm]; split <;> omega
    rw [cells_task] at hx
    obtain ⟨F, hF⟩ := choose_lt (n := len) (p := fun i (y : Task) => ∃ (A : Option Addr) (c : Nat), w.cells? base (a.add (i * 4)) 4 = some [.int .i64 y.machine, .int .i64 y.length, .int .i64 y.release, .slice A y.after.length c] ∧ IntsIn w.heap.size w A y.after ∧ y.after.length ≤ c) fun i hi => by
      obtain ⟨cs', h1, h2⟩ := hx i (by omega)
      obtain ⟨y, A, c, rfl, h3, h4⟩ := is_task h2
      exact ⟨y, A, c, h1, h3, h4⟩
    have hlen : ((List.range len).map F).length = len := by simp
    refine ⟨some a, cap, (List.range len).map F, by rw [hlen]; exact hcs, ?_, by omega, by omega⟩
    rcases Nat.eq_zero_or_pos len with h0 | h0
    · exact .inl (by rw [h0]; rfl)
    · obtain ⟨b, off, spot⟩ := a
      have hspot : spot = none := by
        obtain ⟨A, c, h1, _⟩ := hF 0 h0
        have h2 := (World.cells?_some h1).2.2 0 (by omega)
        simpa [Addr.add] using World.cell?_spot h2
      subst hspot
      have hat : ∀ i, i < len → TaskAt w.heap.size w b (off + i * 4) (F i) := fun i hi => by
        obtain ⟨A, c, h1, h2, h3⟩ := hF i hi
        have hc : ∀ q v, [Value.int .i64 (F i).machine, .int .i64 (F i).length, .int .i64 (F i).release, .slice A (F i).after.length c][q]? = some v → w.cell? ⟨b, off + i * 4 + q, none⟩ = some v := fun q v hv => by
          have h4 := (World.cells?_some h1).2.2 q (List.getElem?_eq_some_iff.1 hv).1
          rw [Go.WideShapes.add_plain, Go.WideShapes.add_plain] at h4
          exact h4.trans hv
        exact ⟨hc 0 _ rfl, hc 1 _ rfl, hc 2 _ rfl, A, c, hc 3 _ rfl, h2, h3⟩
      refine .inr ⟨b, off, rfl, World.block_lt_of_cell? w ⟨b, off + 0 * 4, none⟩ (hat 0 h0).1, fun i hi => ?_⟩
      rw [hlen] at hi
      have e2 : ((List.range len).map F).getD i default = F i := by simp [List.getD, hi]
      rw [e2]
      exact hat i hi

set_option maxRecDepth 100000 in
theorem open_plan_arg {v : Value} {d : DataW H} {p : List MemPlace} (hv : Value.okWide Try.prog w r b0 24 v) (h : DataW.Trod enc Try.prog w base spare held 24 v d p) :
    ∃ (m : Int) (A : Option Addr) (c : Nat) (ts : List Task), v = .agg #[.int .i64 m, .slice A ts.length c] ∧ TasksIn w.heap.size w A ts ∧ ts.length ≤ c ∧ ts.length ≤ maxLen := by
  obtain ⟨cs0, rfl, _⟩ := okWide_struct Try.underlying24 hv
  obtain ⟨fuel, hf⟩ := agg_cells h
  obtain ⟨xs, n, _, _, hl, hxl, hg⟩ := DataW.trod_struct Try.underlying24 hf
  rw [cells_plan] at hl
  have hxl2 : xs.length = 2 := hxl
  have h0 : DataW.trod enc Try.prog w base spare held n 3 ((cs0.toList.drop 0).take (Try.prog.cellsOf 3)) = xs[0]? := hg 0 _ rfl
  have h1 : DataW.trod enc Try.prog w base spare held n 22 ((cs0.toList.drop 1).take (Try.prog.cellsOf 22)) = xs[1]? := hg 1 _ rfl
  rw [List.getElem?_eq_getElem (by omega)] at h0 h1
  rw [cells_int] at h0
  rw [cells_tasks] at h1
  obtain ⟨l⟩ := cs0
  match l, hl with
  | [v0, v1], _ =>
    obtain ⟨m, e0, _, _⟩ := DataW.trod_int Try.underlying3 h0
    obtain ⟨A, c, ts, e1, hr, hc, hm⟩ := open_tasks h1
    refine ⟨m, A, c, ts, ?_, hr, hc, hm⟩
    simp only [List.drop_zero, List.take_succ_cons, List.take_zero, List.drop_succ_cons, List.cons.injEq, and_true] at e0 e1
    rw [e0, e1]
end

end Go.Proofs.Ytlgioldmjohhlaa
