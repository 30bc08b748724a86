/- Contracts: exported functions on windings, lines and phasors. Printed by a program (gen_exp.py). -/
import Derived.Test.YtpdkbhjcpddnpaaDoorGBClock
import Derived.Test.YtpdkbhjcpddnpaaDoorGDSeq
namespace Go.Proofs.YtpdkbhjcpddnpaaDoor
open Go.RowKit
attribute [local go_sem ↓] Go.wp_at_zero Go.wp_at_succ

theorem val_agg {a b : Value} (h : a = b) : Ending.returned a = .returned b := by rw [h]
theorem apiPhasor_size : (Tryd.prog.info? 24).map (·.size) = some 2 := by kernel_rfl
theorem apiWinding_size : (Tryd.prog.info? 52).map (·.size) = some 4 := by kernel_rfl

set_option maxHeartbeats 4000000 in
theorem LinesOf_err (k t s : Int) (r : Bool) (he : windE k t s ≠ 0) (w : World) :
    Calls Tryd.prog 16 #[.agg #[.int .i64 k, .int .i64 t, .int .i64 s, .bool r]] w fun z w' => z = .returned (.tuple #[.agg #[.int .i64 0, .int .i64 0, .int .i64 0, .int .i64 0, .int .i64 0, .int .i64 0, .int .i64 0, .int .i64 0, .int .i64 0], .int .i64 (windE k t s)]) ∧ Below w.heap.size w w' := by
  have HC := Lib.hid (checkWinding_any k t s r)
  have hne : (windE k t s == 0) = false := by simpa using he
  generalize windE k t s = E at *
  clear he
  go_enter Tryd.func16, Tryd.ntmps16
  go_wp2_with (first
    | (go_at_call 32; refine (HC.out _).mono ?_; rintro e w1 ⟨rfl, hb1⟩; have R1 : Blk w1 (w.heap.size + 1) 54 #[.int .i64 0, .int .i64 0, .int .i64 0, .int .i64 0, .int .i64 0, .int .i64 0, .int .i64 0, .int .i64 0, .int .i64 0] := (Blk.newAt (by simp)).past hb1)
    | ((with_reducible refine store_blk (T := 54) (x := .tmp 2) (y := .tmp 9) (vs := #[.int .i64 0, .int .i64 0, .int .i64 0, .int .i64 0, .int .i64 0, .int .i64 0, .int .i64 0, .int .i64 0, .int .i64 0]) R1 ?_ ?_ ?_ ?_ ?_ ?_); (focus rfl); (focus exact apiLines_size); (focus (simp [Value.oneCell']; done)); (focus rfl); (focus rfl); intro WF RF PF))
  have g0 := RF.cellAt 0 rfl
  have g1 := RF.cellAt 1 rfl
  have g2 := RF.cellAt 2 rfl
  have g3 := RF.cellAt 3 rfl
  have g4 := RF.cellAt 4 rfl
  have g5 := RF.cellAt 5 rfl
  have g6 := RF.cellAt 6 rfl
  have g7 := RF.cellAt 7 rfl
  have g8 := RF.cellAt 8 rfl
  exact bodyPost_ret (v := .tuple #[.agg #[.int .i64 0, .int .i64 0, .int .i64 0, .int .i64 0, .int .i64 0, .int .i64 0, .int .i64 0, .int .i64 0, .int .i64 0], .int .i64 E]) (by simp [results, Tryd.results16, go_sem, g0, g1, g2, g3, g4, g5, g6, g7, g8]) rfl ⟨rfl, pp (pt (pa (pa pr)) hb1) PF (by omega)⟩

set_option maxHeartbeats 4000000 in
theorem LinesOf_ok (k t s : Int) (r : Bool) (hu : (Wind.mk k t s r).ok) (L : L3) (hL : linesV ⟨k, t, s, r⟩ = L) (w : World) (hP : PatIn w) :
    Calls Tryd.prog 16 #[.agg #[.int .i64 k, .int .i64 t, .int .i64 s, .bool r]] w fun z w' => z = .returned (.tuple #[.agg #[.int .i64 L.x.a, .int .i64 L.x.b, .int .i64 L.x.c, .int .i64 L.y.a, .int .i64 L.y.b, .int .i64 L.y.c, .int .i64 L.z.a, .int .i64 L.z.b, .int .i64 L.z.c], .int .i64 0]) ∧ Below w.heap.size w w' := by
  have h0 := windE_of hu
  have HC := Lib.hid (checkWinding_any k t s r)
  rw [h0] at HC
  have HL := Lib.hid (lines_any k t s r hu L hL)
  have HP := Lib.hid hP
  clear hu hL hP h0
  go_enter Tryd.func16, Tryd.ntmps16
  go_wp2_with (first
    | (go_at_call 32; refine (HC.out _).mono ?_; rintro e w1 ⟨rfl, hb1⟩; have P1 : Blk w1 w.heap.size 52 #[.int .i64 k, .int .i64 t, .int .i64 s, .bool r] := (Blk.newAt rfl).alloc.past hb1; have R1 : Blk w1 (w.heap.size + 1) 54 #[.int .i64 0, .int .i64 0, .int .i64 0, .int .i64 0, .int .i64 0, .int .i64 0, .int .i64 0, .int .i64 0, .int .i64 0] := (Blk.newAt (by simp)).past hb1; have p0 := P1.cellAt 0 rfl; have p1 := P1.cellAt 1 rfl; have p2 := P1.cellAt 2 rfl; have p3 := P1.cellAt 3 rfl; have pl := P1.lt)
    | (go_at_call 33; refine (HL.out _ (HP.out.below (pt (pa (pa pr)) hb1))).mono ?_; rintro e w2 ⟨rfl, hb2⟩)
    | ((with_reducible refine store_blk (T := 54) (x := .tmp 2) (y := .tmp 12) (vs := #[.int .i64 L.x.a, .int .i64 L.x.b, .int .i64 L.x.c, .int .i64 L.y.a, .int .i64 L.y.b, .int .i64 L.y.c, .int .i64 L.z.a, .int .i64 L.z.b, .int .i64 L.z.c]) (R1.past hb2) ?_ ?_ ?_ ?_ ?_ ?_); (focus rfl); (focus exact apiLines_size); (focus (simp [Value.oneCell']; done)); (focus rfl); (focus rfl); intro WF RF PF))
  have g0 := RF.cellAt 0 rfl
  have g1 := RF.cellAt 1 rfl
  have g2 := RF.cellAt 2 rfl
  have g3 := RF.cellAt 3 rfl
  have g4 := RF.cellAt 4 rfl
  have g5 := RF.cellAt 5 rfl
  have g6 := RF.cellAt 6 rfl
  have g7 := RF.cellAt 7 rfl
  have g8 := RF.cellAt 8 rfl
  exact bodyPost_ret (v := .tuple #[.agg #[.int .i64 L.x.a, .int .i64 L.x.b, .int .i64 L.x.c, .int .i64 L.y.a, .int .i64 L.y.b, .int .i64 L.y.c, .int .i64 L.z.a, .int .i64 L.z.b, .int .i64 L.z.c], .int .i64 0]) (by simp [results, Tryd.results16, go_sem, g0, g1, g2, g3, g4, g5, g6, g7, g8]) rfl ⟨rfl, pp (pt (pt (pa (pa pr)) hb1) hb2) PF (by omega)⟩

theorem lineE_sm {x1 x2 x3 x4 x5 x6 x7 x8 x9 : Int} (h : lineE x1 x2 x3 x4 x5 x6 x7 x8 x9 = 0) : Sm 10000 x1 ∧ Sm 10000 x2 ∧ Sm 10000 x3 ∧ Sm 10000 x4 ∧ Sm 10000 x5 ∧ Sm 10000 x6 ∧ Sm 10000 x7 ∧ Sm 10000 x8 ∧ Sm 10000 x9 := by
  unfold lineE at h
  have h1 : great3 x1 x2 x3 = false := by cases h1 : great3 x1 x2 x3 <;> simp [h1] at h ⊢
  have h2 : great3 x4 x5 x6 = false := by cases h2 : great3 x4 x5 x6 <;> simp [h1, h2] at h ⊢
  have h3 : great3 x7 x8 x9 = false := by cases h3 : great3 x7 x8 x9 <;> simp [h1, h2, h3] at h ⊢
  simp only [great3, withinB, Bool.not_eq_false', Bool.and_eq_true, decide_eq_true_eq] at h1 h2 h3
  unfold Sm
  omega
theorem great3_sm {x y z : Int} (h1 : Sm 10000 x) (h2 : Sm 10000 y) (h3 : Sm 10000 z) : great3 x y z = false := by
  unfold Sm at *
  simp [great3, withinB, h1, h2, h3]
theorem lineE_of {x1 x2 x3 x4 x5 x6 x7 x8 x9 : Int} (h1 : Sm 10000 x1) (h2 : Sm 10000 x2) (h3 : Sm 10000 x3) (h4 : Sm 10000 x4) (h5 : Sm 10000 x5) (h6 : Sm 10000 x6) (h7 : Sm 10000 x7) (h8 : Sm 10000 x8) (h9 : Sm 10000 x9) : lineE x1 x2 x3 x4 x5 x6 x7 x8 x9 = 0 := by
  unfold lineE
  rw [great3_sm h1 h2 h3, great3_sm h4 h5 h6, great3_sm h7 h8 h9]
  rfl

set_option maxHeartbeats 4000000 in
theorem PhasorOf_err (x1 x2 x3 x4 x5 x6 x7 x8 x9 : Int) (he : lineE x1 x2 x3 x4 x5 x6 x7 x8 x9 ≠ 0) (w : World) :
    Calls Tryd.prog 17 #[.agg #[.int .i64 x1, .int .i64 x2, .int .i64 x3, .int .i64 x4, .int .i64 x5, .int .i64 x6, .int .i64 x7, .int .i64 x8, .int .i64 x9]] w fun z w' => z = .returned (.tuple #[.agg #[.int .i64 0, .int .i64 0], .int .i64 (lineE x1 x2 x3 x4 x5 x6 x7 x8 x9)]) ∧ Below w.heap.size w w' := by
  have HC := Lib.hid (checkLines_any x1 x2 x3 x4 x5 x6 x7 x8 x9)
  have hne : (lineE x1 x2 x3 x4 x5 x6 x7 x8 x9 == 0) = false := by simpa using he
  generalize lineE x1 x2 x3 x4 x5 x6 x7 x8 x9 = E at *
  clear he
  go_enter Tryd.func17, Tryd.ntmps17
  go_wp2_with (first
    | (go_at_call 34; refine (HC.out _).mono ?_; rintro e w1 ⟨rfl, hb1⟩; have R1 : Blk w1 (w.heap.size + 1) 24 #[.int .i64 0, .int .i64 0] := (Blk.newAt (by simp)).past hb1)
    | ((with_reducible refine store_blk (T := 24) (x := .tmp 2) (y := .tmp 9) (vs := #[.int .i64 0, .int .i64 0]) R1 ?_ ?_ ?_ ?_ ?_ ?_); (focus rfl); (focus exact apiPhasor_size); (focus (simp [Value.oneCell']; done)); (focus rfl); (focus rfl); intro WF RF PF))
  have g0 := RF.cellAt 0 rfl
  have g1 := RF.cellAt 1 rfl
  exact bodyPost_ret (v := .tuple #[.agg #[.int .i64 0, .int .i64 0], .int .i64 E]) (by simp [results, Tryd.results17, go_sem, g0, g1]) rfl ⟨rfl, pp (pt (pa (pa pr)) hb1) PF (by omega)⟩

set_option maxHeartbeats 4000000 in
theorem PhasorOf_ok (x1 x2 x3 x4 x5 x6 x7 x8 x9 : Int) (he : lineE x1 x2 x3 x4 x5 x6 x7 x8 x9 = 0) (w : World) :
    Calls Tryd.prog 17 #[.agg #[.int .i64 x1, .int .i64 x2, .int .i64 x3, .int .i64 x4, .int .i64 x5, .int .i64 x6, .int .i64 x7, .int .i64 x8, .int .i64 x9]] w fun z w' => z = .returned (.tuple #[.agg #[.int .i64 (x1 - x2), .int .i64 (x3 - x2)], .int .i64 0]) ∧ Below w.heap.size w w' := by
  have HC := Lib.hid (checkLines_any x1 x2 x3 x4 x5 x6 x7 x8 x9)
  obtain ⟨h1, h2, h3, _⟩ := lineE_sm he
  rw [he] at HC
  have HL := Lib.hid (linesPhasor_0 x1 x2 x3 x4 x5 x6 x7 x8 x9 h1 h2 h3)
  clear h1 h2 h3 he
  go_enter Tryd.func17, Tryd.ntmps17
  go_wp2_with (first
    | (go_at_call 34; refine (HC.out _).mono ?_; rintro e w1 ⟨rfl, hb1⟩; have P1 : Blk w1 w.heap.size 54 #[.int .i64 x1, .int .i64 x2, .int .i64 x3, .int .i64 x4, .int .i64 x5, .int .i64 x6, .int .i64 x7, .int .i64 x8, .int .i64 x9] := (Blk.newAt rfl).alloc.past hb1; have R1 : Blk w1 (w.heap.size + 1) 24 #[.int .i64 0, .int .i64 0] := (Blk.newAt (by simp)).past hb1)
    | ((with_reducible refine load_blk (T := 54) (x := .tmp 1) P1 Tryd.underlying54 ?_ ?_ ?_ ?_); (focus rfl); (focus exact apiLines_size); (focus rfl))
    | (go_at_call 35; refine (HL.out _).mono ?_; rintro e w2 ⟨rfl, hb2⟩)
    | ((with_reducible refine store_blk (T := 24) (x := .tmp 2) (y := .tmp 12) (vs := #[.int .i64 (x1 - x2), .int .i64 (x3 - x2)]) (R1.past hb2) ?_ ?_ ?_ ?_ ?_ ?_); (focus rfl); (focus exact apiPhasor_size); (focus (simp [Value.oneCell']; done)); (focus rfl); (focus rfl); intro WF RF PF))
  have g0 := RF.cellAt 0 rfl
  have g1 := RF.cellAt 1 rfl
  exact bodyPost_ret (v := .tuple #[.agg #[.int .i64 (x1 - x2), .int .i64 (x3 - x2)], .int .i64 0]) (by simp [results, Tryd.results17, go_sem, g0, g1]) rfl ⟨rfl, pp (pt (pt (pa (pa pr)) hb1) hb2) PF (by omega)⟩

end Go.Proofs.YtpdkbhjcpddnpaaDoor
