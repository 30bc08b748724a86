/- Contract of renamed lines, for each permutation; the loops are unrolled. Printed by a program (gen_renamed.py). -/
import Derived.Test.YtnhcamokcggnkaaDoorHAStore
import Derived.Test.YtnhcamokcggnkaaDoorG6Lines
import Derived.Test.YtnhcamokcggnkaaDoorARegion
import Derived.LoopN
namespace Go.Proofs.YtnhcamokcggnkaaDoor
open Go.RowKit
attribute [local go_sem ↓] Go.wp_at_zero Go.wp_at_succ
attribute [local go_sem] i3_at0 i3_at1 i3_at2

theorem three_size : (Tryd.prog.info? 36).map (·.size) = some 3 := by kernel_rfl
theorem three_under : Tryd.prog.underlying 36 = some (.array 3 3) := by kernel_rfl
theorem int_size : (Tryd.prog.info? 3).map (·.size) = some 1 := by kernel_rfl

set_option maxHeartbeats 8000000 in
set_option maxRecDepth 100000 in
theorem renamed_012 (x1 x2 x3 x4 x5 x6 x7 x8 x9 : Int) (w : World)
    (n1 : IntKind.i64.wrap (-x1) = -x1)
    (n2 : IntKind.i64.wrap (-x2) = -x2)
    (n3 : IntKind.i64.wrap (-x3) = -x3)
    (n4 : IntKind.i64.wrap (-x4) = -x4)
    (n5 : IntKind.i64.wrap (-x5) = -x5)
    (n6 : IntKind.i64.wrap (-x6) = -x6)
    (n7 : IntKind.i64.wrap (-x7) = -x7)
    (n8 : IntKind.i64.wrap (-x8) = -x8)
    (n9 : IntKind.i64.wrap (-x9) = -x9)
    : Calls Tryd.prog 77 #[.agg #[.int .i64 x1, .int .i64 x2, .int .i64 x3, .int .i64 x4, .int .i64 x5, .int .i64 x6, .int .i64 x7, .int .i64 x8, .int .i64 x9], .agg #[.int .i64 0, .int .i64 1, .int .i64 2]] w fun e w' => e = .returned (.agg #[.int .i64 x1, .int .i64 x2, .int .i64 x3, .int .i64 x4, .int .i64 x5, .int .i64 x6, .int .i64 x7, .int .i64 x8, .int .i64 x9]) ∧ Below w.heap.size w w' := by
  have z0 : IntKind.i64.wrap 0 = 0 := by decide
  have z1 : IntKind.i64.wrap 1 = 1 := by decide
  have z2 : IntKind.i64.wrap 2 = 2 := by decide
  have z3 : IntKind.i64.wrap 3 = 3 := by decide
  have z4 : IntKind.i64.wrap 4 = 4 := by decide
  go_enter Tryd.func77, Tryd.ntmps77
  go_wp2
  have A0 : Blk ((((w.alloc (.cells #[.int .i64 x1, .int .i64 x2, .int .i64 x3, .int .i64 x4, .int .i64 x5, .int .i64 x6, .int .i64 x7, .int .i64 x8, .int .i64 x9] 109)).alloc (.cells #[.int .i64 0, .int .i64 1, .int .i64 2] 36)).alloc (.cells #[.int .i64 0, .int .i64 0, .int .i64 0, .int .i64 0, .int .i64 0, .int .i64 0, .int .i64 0, .int .i64 0, .int .i64 0] 109)).alloc (.cells #[.int .i64 0, .int .i64 0, .int .i64 0, .int .i64 0, .int .i64 0, .int .i64 0, .int .i64 0, .int .i64 0, .int .i64 0] 109)) (w.heap.size) 109 #[.int .i64 x1, .int .i64 x2, .int .i64 x3, .int .i64 x4, .int .i64 x5, .int .i64 x6, .int .i64 x7, .int .i64 x8, .int .i64 x9] := (Blk.newAt rfl).alloc.alloc.alloc
  have P0 : Blk ((((w.alloc (.cells #[.int .i64 x1, .int .i64 x2, .int .i64 x3, .int .i64 x4, .int .i64 x5, .int .i64 x6, .int .i64 x7, .int .i64 x8, .int .i64 x9] 109)).alloc (.cells #[.int .i64 0, .int .i64 1, .int .i64 2] 36)).alloc (.cells #[.int .i64 0, .int .i64 0, .int .i64 0, .int .i64 0, .int .i64 0, .int .i64 0, .int .i64 0, .int .i64 0, .int .i64 0] 109)).alloc (.cells #[.int .i64 0, .int .i64 0, .int .i64 0, .int .i64 0, .int .i64 0, .int .i64 0, .int .i64 0, .int .i64 0, .int .i64 0] 109)) (w.heap.size + 1) 36 #[.int .i64 0, .int .i64 1, .int .i64 2] := (Blk.newAt (by simp)).alloc.alloc
  have R0 : Blk ((((w.alloc (.cells #[.int .i64 x1, .int .i64 x2, .int .i64 x3, .int .i64 x4, .int .i64 x5, .int .i64 x6, .int .i64 x7, .int .i64 x8, .int .i64 x9] 109)).alloc (.cells #[.int .i64 0, .int .i64 1, .int .i64 2] 36)).alloc (.cells #[.int .i64 0, .int .i64 0, .int .i64 0, .int .i64 0, .int .i64 0, .int .i64 0, .int .i64 0, .int .i64 0, .int .i64 0] 109)).alloc (.cells #[.int .i64 0, .int .i64 0, .int .i64 0, .int .i64 0, .int .i64 0, .int .i64 0, .int .i64 0, .int .i64 0, .int .i64 0] 109)) (w.heap.size + 1 + 1) 109 #[.int .i64 0, .int .i64 0, .int .i64 0, .int .i64 0, .int .i64 0, .int .i64 0, .int .i64 0, .int .i64 0, .int .i64 0] := (Blk.newAt (by simp)).alloc
  have O0 : Blk ((((w.alloc (.cells #[.int .i64 x1, .int .i64 x2, .int .i64 x3, .int .i64 x4, .int .i64 x5, .int .i64 x6, .int .i64 x7, .int .i64 x8, .int .i64 x9] 109)).alloc (.cells #[.int .i64 0, .int .i64 1, .int .i64 2] 36)).alloc (.cells #[.int .i64 0, .int .i64 0, .int .i64 0, .int .i64 0, .int .i64 0, .int .i64 0, .int .i64 0, .int .i64 0, .int .i64 0] 109)).alloc (.cells #[.int .i64 0, .int .i64 0, .int .i64 0, .int .i64 0, .int .i64 0, .int .i64 0, .int .i64 0, .int .i64 0, .int .i64 0] 109)) (w.heap.size + 1 + 1 + 1) 109 #[.int .i64 0, .int .i64 0, .int .i64 0, .int .i64 0, .int .i64 0, .int .i64 0, .int .i64 0, .int .i64 0, .int .i64 0] := Blk.newAt (by simp)
  have S0 : Below w.heap.size w ((((w.alloc (.cells #[.int .i64 x1, .int .i64 x2, .int .i64 x3, .int .i64 x4, .int .i64 x5, .int .i64 x6, .int .i64 x7, .int .i64 x8, .int .i64 x9] 109)).alloc (.cells #[.int .i64 0, .int .i64 1, .int .i64 2] 36)).alloc (.cells #[.int .i64 0, .int .i64 0, .int .i64 0, .int .i64 0, .int .i64 0, .int .i64 0, .int .i64 0, .int .i64 0, .int .i64 0] 109)).alloc (.cells #[.int .i64 0, .int .i64 0, .int .i64 0, .int .i64 0, .int .i64 0, .int .i64 0, .int .i64 0, .int .i64 0, .int .i64 0] 109)) := pa (pa (pa (pa pr)))
  generalize ((((w.alloc (.cells #[.int .i64 x1, .int .i64 x2, .int .i64 x3, .int .i64 x4, .int .i64 x5, .int .i64 x6, .int .i64 x7, .int .i64 x8, .int .i64 x9] 109)).alloc (.cells #[.int .i64 0, .int .i64 1, .int .i64 2] 36)).alloc (.cells #[.int .i64 0, .int .i64 0, .int .i64 0, .int .i64 0, .int .i64 0, .int .i64 0, .int .i64 0, .int .i64 0, .int .i64 0] 109)).alloc (.cells #[.int .i64 0, .int .i64 0, .int .i64 0, .int .i64 0, .int .i64 0, .int .i64 0, .int .i64 0, .int .i64 0, .int .i64 0] 109)) = v0 at *
  have p0 := P0.cellAt 0 rfl; have p1 := P0.cellAt 1 rfl; have p2 := P0.cellAt 2 rfl; have pl := P0.lt; have al := A0.lt; have ol := O0.lt
  refine wp_loop_rounds 4 ?_
  rw [rounds_succ]
  go_wp2
  go_quiet (fail)
  have hb1 : Below v0.heap.size v0 (v0.drewN nq) := below_drewN' (Below.refl _ _) nq
  have A1 := A0.past hb1
  have P1 := P0.past hb1
  have R1 := R0.past hb1
  have O1 := O0.past hb1
  have S1 := pt S0 hb1
  clear hb1 A0 P0 R0 O0 S0 p0 p1 p2 pl al ol
  generalize v0.drewN nq = v1 at *
  have p0 := P1.cellAt 0 rfl; have p1 := P1.cellAt 1 rfl; have p2 := P1.cellAt 2 rfl; have pl := P1.lt; have al := A1.lt; have ol := O1.lt
  go_wp2_with (first
    | ((with_reducible refine load_sub (T := 36) (x := .tmp 29) (o := 0) (vs := #[.int .i64 x1, .int .i64 x2, .int .i64 x3]) A1 ?_ ?_ three_under ?_ ?_ ?_); (focus rfl); (focus rfl); (focus rfl); (focus exact three_size))
    | ((with_reducible refine store_sub (T := 36) (x := .tmp 31) (y := .tmp 30) (o := 0) (cs' := #[.int .i64 x1, .int .i64 x2, .int .i64 x3, .int .i64 0, .int .i64 0, .int .i64 0, .int .i64 0, .int .i64 0, .int .i64 0]) (vs := #[.int .i64 x1, .int .i64 x2, .int .i64 x3]) O1 ?_ ?_ ?_ ?_ ?_ ?_ ?_); (focus rfl); (focus rfl); (focus rfl); (focus exact Nat.le_of_ble_eq_true rfl); (focus exact three_size); (focus (simp [Value.oneCell']; done)); intro v2 O2 F2; have A2 := A1.put F2 (by omega); have P2 := P1.put F2 (by omega); have R2 := R1.put F2 (by omega); have S2 := pp S1 F2 (by omega); clear A1 P1 R1 S1 O1 p0 p1 p2 pl al ol; have p0 := P2.cellAt 0 rfl; have p1 := P2.cellAt 1 rfl; have p2 := P2.cellAt 2 rfl; have pl := P2.lt; have al := A2.lt; have ol := O2.lt))
  rw [rounds_succ]
  go_wp2
  go_quiet (fail)
  have hb1 : Below v2.heap.size v2 (v2.drewN nq) := below_drewN' (Below.refl _ _) nq
  have A3 := A2.past hb1
  have P3 := P2.past hb1
  have R3 := R2.past hb1
  have O3 := O2.past hb1
  have S3 := pt S2 hb1
  clear hb1 A2 P2 R2 O2 S2 p0 p1 p2 pl al ol
  generalize v2.drewN nq = v3 at *
  have p0 := P3.cellAt 0 rfl; have p1 := P3.cellAt 1 rfl; have p2 := P3.cellAt 2 rfl; have pl := P3.lt; have al := A3.lt; have ol := O3.lt
  go_wp2_with (first
    | ((with_reducible refine load_sub (T := 36) (x := .tmp 29) (o := 3) (vs := #[.int .i64 x4, .int .i64 x5, .int .i64 x6]) A3 ?_ ?_ three_under ?_ ?_ ?_); (focus rfl); (focus rfl); (focus rfl); (focus exact three_size))
    | ((with_reducible refine store_sub (T := 36) (x := .tmp 31) (y := .tmp 30) (o := 3) (cs' := #[.int .i64 x1, .int .i64 x2, .int .i64 x3, .int .i64 x4, .int .i64 x5, .int .i64 x6, .int .i64 0, .int .i64 0, .int .i64 0]) (vs := #[.int .i64 x4, .int .i64 x5, .int .i64 x6]) O3 ?_ ?_ ?_ ?_ ?_ ?_ ?_); (focus rfl); (focus rfl); (focus rfl); (focus exact Nat.le_of_ble_eq_true rfl); (focus exact three_size); (focus (simp [Value.oneCell']; done)); intro v4 O4 F4; have A4 := A3.put F4 (by omega); have P4 := P3.put F4 (by omega); have R4 := R3.put F4 (by omega); have S4 := pp S3 F4 (by omega); clear A3 P3 R3 S3 O3 p0 p1 p2 pl al ol; have p0 := P4.cellAt 0 rfl; have p1 := P4.cellAt 1 rfl; have p2 := P4.cellAt 2 rfl; have pl := P4.lt; have al := A4.lt; have ol := O4.lt))
  rw [rounds_succ]
  go_wp2
  go_quiet (fail)
  have hb1 : Below v4.heap.size v4 (v4.drewN nq) := below_drewN' (Below.refl _ _) nq
  have A5 := A4.past hb1
  have P5 := P4.past hb1
  have R5 := R4.past hb1
  have O5 := O4.past hb1
  have S5 := pt S4 hb1
  clear hb1 A4 P4 R4 O4 S4 p0 p1 p2 pl al ol
  generalize v4.drewN nq = v5 at *
  have p0 := P5.cellAt 0 rfl; have p1 := P5.cellAt 1 rfl; have p2 := P5.cellAt 2 rfl; have pl := P5.lt; have al := A5.lt; have ol := O5.lt
  go_wp2_with (first
    | ((with_reducible refine load_sub (T := 36) (x := .tmp 29) (o := 6) (vs := #[.int .i64 x7, .int .i64 x8, .int .i64 x9]) A5 ?_ ?_ three_under ?_ ?_ ?_); (focus rfl); (focus rfl); (focus rfl); (focus exact three_size))
    | ((with_reducible refine store_sub (T := 36) (x := .tmp 31) (y := .tmp 30) (o := 6) (cs' := #[.int .i64 x1, .int .i64 x2, .int .i64 x3, .int .i64 x4, .int .i64 x5, .int .i64 x6, .int .i64 x7, .int .i64 x8, .int .i64 x9]) (vs := #[.int .i64 x7, .int .i64 x8, .int .i64 x9]) O5 ?_ ?_ ?_ ?_ ?_ ?_ ?_); (focus rfl); (focus rfl); (focus rfl); (focus exact Nat.le_of_ble_eq_true rfl); (focus exact three_size); (focus (simp [Value.oneCell']; done)); intro v6 O6 F6; have A6 := A5.put F6 (by omega); have P6 := P5.put F6 (by omega); have R6 := R5.put F6 (by omega); have S6 := pp S5 F6 (by omega); clear A5 P5 R5 S5 O5 p0 p1 p2 pl al ol; have p0 := P6.cellAt 0 rfl; have p1 := P6.cellAt 1 rfl; have p2 := P6.cellAt 2 rfl; have pl := P6.lt; have al := A6.lt; have ol := O6.lt))
  rw [rounds_succ]
  go_wp2_with (first
    | ((with_reducible refine load_blk (T := 109) (x := .tmp 5) O6 Tryd.underlying109 ?_ ?_ ?_ ?_); (focus rfl); (focus exact lines_size); (focus rfl))
    | ((with_reducible refine store_blk (T := 109) (x := .tmp 4) (y := .tmp 47) (vs := #[.int .i64 x1, .int .i64 x2, .int .i64 x3, .int .i64 x4, .int .i64 x5, .int .i64 x6, .int .i64 x7, .int .i64 x8, .int .i64 x9]) R6 ?_ ?_ ?_ ?_ ?_ ?_); (focus rfl); (focus exact lines_size); (focus (simp [Value.oneCell']; done)); (focus rfl); (focus rfl); intro WF RF PF))
  have g0 := RF.cellAt 0 rfl
  have g1 := RF.cellAt 1 rfl
  have g2 := RF.cellAt 2 rfl
  have g3 := RF.cellAt 3 rfl
  have g4 := RF.cellAt 4 rfl
  have g5 := RF.cellAt 5 rfl
  have g6 := RF.cellAt 6 rfl
  have g7 := RF.cellAt 7 rfl
  have g8 := RF.cellAt 8 rfl
  exact bodyPost_ret (v := .agg #[.int .i64 x1, .int .i64 x2, .int .i64 x3, .int .i64 x4, .int .i64 x5, .int .i64 x6, .int .i64 x7, .int .i64 x8, .int .i64 x9]) (by simp [results, Tryd.results77, go_sem, g0, g1, g2, g3, g4, g5, g6, g7, g8]) rfl ⟨rfl, pp S6 PF (by omega)⟩

set_option maxHeartbeats 8000000 in
set_option maxRecDepth 100000 in
theorem renamed_021 (x1 x2 x3 x4 x5 x6 x7 x8 x9 : Int) (w : World)
    (n1 : IntKind.i64.wrap (-x1) = -x1)
    (n2 : IntKind.i64.wrap (-x2) = -x2)
    (n3 : IntKind.i64.wrap (-x3) = -x3)
    (n4 : IntKind.i64.wrap (-x4) = -x4)
    (n5 : IntKind.i64.wrap (-x5) = -x5)
    (n6 : IntKind.i64.wrap (-x6) = -x6)
    (n7 : IntKind.i64.wrap (-x7) = -x7)
    (n8 : IntKind.i64.wrap (-x8) = -x8)
    (n9 : IntKind.i64.wrap (-x9) = -x9)
    : Calls Tryd.prog 77 #[.agg #[.int .i64 x1, .int .i64 x2, .int .i64 x3, .int .i64 x4, .int .i64 x5, .int .i64 x6, .int .i64 x7, .int .i64 x8, .int .i64 x9], .agg #[.int .i64 0, .int .i64 2, .int .i64 1]] w fun e w' => e = .returned (.agg #[.int .i64 (-x7), .int .i64 (-x8), .int .i64 (-x9), .int .i64 (-x4), .int .i64 (-x5), .int .i64 (-x6), .int .i64 (-x1), .int .i64 (-x2), .int .i64 (-x3)]) ∧ Below w.heap.size w w' := by
  have z0 : IntKind.i64.wrap 0 = 0 := by decide
  have z1 : IntKind.i64.wrap 1 = 1 := by decide
  have z2 : IntKind.i64.wrap 2 = 2 := by decide
  have z3 : IntKind.i64.wrap 3 = 3 := by decide
  have z4 : IntKind.i64.wrap 4 = 4 := by decide
  go_enter Tryd.func77, Tryd.ntmps77
  go_wp2
  have A0 : Blk ((((w.alloc (.cells #[.int .i64 x1, .int .i64 x2, .int .i64 x3, .int .i64 x4, .int .i64 x5, .int .i64 x6, .int .i64 x7, .int .i64 x8, .int .i64 x9] 109)).alloc (.cells #[.int .i64 0, .int .i64 2, .int .i64 1] 36)).alloc (.cells #[.int .i64 0, .int .i64 0, .int .i64 0, .int .i64 0, .int .i64 0, .int .i64 0, .int .i64 0, .int .i64 0, .int .i64 0] 109)).alloc (.cells #[.int .i64 0, .int .i64 0, .int .i64 0, .int .i64 0, .int .i64 0, .int .i64 0, .int .i64 0, .int .i64 0, .int .i64 0] 109)) (w.heap.size) 109 #[.int .i64 x1, .int .i64 x2, .int .i64 x3, .int .i64 x4, .int .i64 x5, .int .i64 x6, .int .i64 x7, .int .i64 x8, .int .i64 x9] := (Blk.newAt rfl).alloc.alloc.alloc
  have P0 : Blk ((((w.alloc (.cells #[.int .i64 x1, .int .i64 x2, .int .i64 x3, .int .i64 x4, .int .i64 x5, .int .i64 x6, .int .i64 x7, .int .i64 x8, .int .i64 x9] 109)).alloc (.cells #[.int .i64 0, .int .i64 2, .int .i64 1] 36)).alloc (.cells #[.int .i64 0, .int .i64 0, .int .i64 0, .int .i64 0, .int .i64 0, .int .i64 0, .int .i64 0, .int .i64 0, .int .i64 0] 109)).alloc (.cells #[.int .i64 0, .int .i64 0, .int .i64 0, .int .i64 0, .int .i64 0, .int .i64 0, .int .i64 0, .int .i64 0, .int .i64 0] 109)) (w.heap.size + 1) 36 #[.int .i64 0, .int .i64 2, .int .i64 1] := (Blk.newAt (by simp)).alloc.alloc
  have R0 : Blk ((((w.alloc (.cells #[.int .i64 x1, .int .i64 x2, .int .i64 x3, .int .i64 x4, .int .i64 x5, .int .i64 x6, .int .i64 x7, .int .i64 x8, .int .i64 x9] 109)).alloc (.cells #[.int .i64 0, .int .i64 2, .int .i64 1] 36)).alloc (.cells #[.int .i64 0, .int .i64 0, .int .i64 0, .int .i64 0, .int .i64 0, .int .i64 0, .int .i64 0, .int .i64 0, .int .i64 0] 109)).alloc (.cells #[.int .i64 0, .int .i64 0, .int .i64 0, .int .i64 0, .int .i64 0, .int .i64 0, .int .i64 0, .int .i64 0, .int .i64 0] 109)) (w.heap.size + 1 + 1) 109 #[.int .i64 0, .int .i64 0, .int .i64 0, .int .i64 0, .int .i64 0, .int .i64 0, .int .i64 0, .int .i64 0, .int .i64 0] := (Blk.newAt (by simp)).alloc
  have O0 : Blk ((((w.alloc (.cells #[.int .i64 x1, .int .i64 x2, .int .i64 x3, .int .i64 x4, .int .i64 x5, .int .i64 x6, .int .i64 x7, .int .i64 x8, .int .i64 x9] 109)).alloc (.cells #[.int .i64 0, .int .i64 2, .int .i64 1] 36)).alloc (.cells #[.int .i64 0, .int .i64 0, .int .i64 0, .int .i64 0, .int .i64 0, .int .i64 0, .int .i64 0, .int .i64 0, .int .i64 0] 109)).alloc (.cells #[.int .i64 0, .int .i64 0, .int .i64 0, .int .i64 0, .int .i64 0, .int .i64 0, .int .i64 0, .int .i64 0, .int .i64 0] 109)) (w.heap.size + 1 + 1 + 1) 109 #[.int .i64 0, .int .i64 0, .int .i64 0, .int .i64 0, .int .i64 0, .int .i64 0, .int .i64 0, .int .i64 0, .int .i64 0] := Blk.newAt (by simp)
  have S0 : Below w.heap.size w ((((w.alloc (.cells #[.int .i64 x1, .int .i64 x2, .int .i64 x3, .int .i64 x4, .int .i64 x5, .int .i64 x6, .int .i64 x7, .int .i64 x8, .int .i64 x9] 109)).alloc (.cells #[.int .i64 0, .int .i64 2, .int .i64 1] 36)).alloc (.cells #[.int .i64 0, .int .i64 0, .int .i64 0, .int .i64 0, .int .i64 0, .int .i64 0, .int .i64 0, .int .i64 0, .int .i64 0] 109)).alloc (.cells #[.int .i64 0, .int .i64 0, .int .i64 0, .int .i64 0, .int .i64 0, .int .i64 0, .int .i64 0, .int .i64 0, .int .i64 0] 109)) := pa (pa (pa (pa pr)))
  generalize ((((w.alloc (.cells #[.int .i64 x1, .int .i64 x2, .int .i64 x3, .int .i64 x4, .int .i64 x5, .int .i64 x6, .int .i64 x7, .int .i64 x8, .int .i64 x9] 109)).alloc (.cells #[.int .i64 0, .int .i64 2, .int .i64 1] 36)).alloc (.cells #[.int .i64 0, .int .i64 0, .int .i64 0, .int .i64 0, .int .i64 0, .int .i64 0, .int .i64 0, .int .i64 0, .int .i64 0] 109)).alloc (.cells #[.int .i64 0, .int .i64 0, .int .i64 0, .int .i64 0, .int .i64 0, .int .i64 0, .int .i64 0, .int .i64 0, .int .i64 0] 109)) = v0 at *
  have p0 := P0.cellAt 0 rfl; have p1 := P0.cellAt 1 rfl; have p2 := P0.cellAt 2 rfl; have pl := P0.lt; have al := A0.lt; have ol := O0.lt
  refine wp_loop_rounds 4 ?_
  rw [rounds_succ]
  go_wp2
  go_quiet (fail)
  have hb1 : Below v0.heap.size v0 (v0.drewN nq) := below_drewN' (Below.refl _ _) nq
  have A1 := A0.past hb1
  have P1 := P0.past hb1
  have R1 := R0.past hb1
  have O1 := O0.past hb1
  have S1 := pt S0 hb1
  clear hb1 A0 P0 R0 O0 S0 p0 p1 p2 pl al ol
  generalize v0.drewN nq = v1 at *
  have p0 := P1.cellAt 0 rfl; have p1 := P1.cellAt 1 rfl; have p2 := P1.cellAt 2 rfl; have pl := P1.lt; have al := A1.lt; have ol := O1.lt
  go_wp2_with (first
    | ((with_reducible refine load_sub (T := 36) (x := .tmp 33) (o := 6) (vs := #[.int .i64 x7, .int .i64 x8, .int .i64 x9]) A1 ?_ ?_ three_under ?_ ?_ ?_); (focus rfl); (focus rfl); (focus rfl); (focus exact three_size)))
  refine wp_loop_rounds 4 ?_
  rw [rounds_succ]
  go_wp2_with (first
    | ((with_reducible refine store_sub (T := 3) (x := .tmp 44) (y := .tmp 42) (o := 0) (cs' := #[.int .i64 (-x7), .int .i64 0, .int .i64 0, .int .i64 0, .int .i64 0, .int .i64 0, .int .i64 0, .int .i64 0, .int .i64 0]) (vs := #[.int .i64 (-x7)]) O1 ?_ ?_ ?_ ?_ ?_ ?_ ?_); (focus rfl); (focus rfl); (focus rfl); (focus exact Nat.le_of_ble_eq_true rfl); (focus exact int_size); (focus (simp [Value.oneCell']; done)); intro v2 O2 F2; have A2 := A1.put F2 (by omega); have P2 := P1.put F2 (by omega); have R2 := R1.put F2 (by omega); have S2 := pp S1 F2 (by omega); clear A1 P1 R1 S1 O1 p0 p1 p2 pl al ol; have p0 := P2.cellAt 0 rfl; have p1 := P2.cellAt 1 rfl; have p2 := P2.cellAt 2 rfl; have pl := P2.lt; have al := A2.lt; have ol := O2.lt))
  rw [rounds_succ]
  go_wp2_with (first
    | ((with_reducible refine store_sub (T := 3) (x := .tmp 44) (y := .tmp 42) (o := 1) (cs' := #[.int .i64 (-x7), .int .i64 (-x8), .int .i64 0, .int .i64 0, .int .i64 0, .int .i64 0, .int .i64 0, .int .i64 0, .int .i64 0]) (vs := #[.int .i64 (-x8)]) O2 ?_ ?_ ?_ ?_ ?_ ?_ ?_); (focus rfl); (focus rfl); (focus rfl); (focus exact Nat.le_of_ble_eq_true rfl); (focus exact int_size); (focus (simp [Value.oneCell']; done)); intro v3 O3 F3; have A3 := A2.put F3 (by omega); have P3 := P2.put F3 (by omega); have R3 := R2.put F3 (by omega); have S3 := pp S2 F3 (by omega); clear A2 P2 R2 S2 O2 p0 p1 p2 pl al ol; have p0 := P3.cellAt 0 rfl; have p1 := P3.cellAt 1 rfl; have p2 := P3.cellAt 2 rfl; have pl := P3.lt; have al := A3.lt; have ol := O3.lt))
  rw [rounds_succ]
  go_wp2_with (first
    | ((with_reducible refine store_sub (T := 3) (x := .tmp 44) (y := .tmp 42) (o := 2) (cs' := #[.int .i64 (-x7), .int .i64 (-x8), .int .i64 (-x9), .int .i64 0, .int .i64 0, .int .i64 0, .int .i64 0, .int .i64 0, .int .i64 0]) (vs := #[.int .i64 (-x9)]) O3 ?_ ?_ ?_ ?_ ?_ ?_ ?_); (focus rfl); (focus rfl); (focus rfl); (focus exact Nat.le_of_ble_eq_true rfl); (focus exact int_size); (focus (simp [Value.oneCell']; done)); intro v4 O4 F4; have A4 := A3.put F4 (by omega); have P4 := P3.put F4 (by omega); have R4 := R3.put F4 (by omega); have S4 := pp S3 F4 (by omega); clear A3 P3 R3 S3 O3 p0 p1 p2 pl al ol; have p0 := P4.cellAt 0 rfl; have p1 := P4.cellAt 1 rfl; have p2 := P4.cellAt 2 rfl; have pl := P4.lt; have al := A4.lt; have ol := O4.lt))
  rw [rounds_succ]
  go_wp2
  rw [rounds_succ]
  go_wp2
  go_quiet (fail)
  have hb1 : Below v4.heap.size v4 (v4.drewN nq) := below_drewN' (Below.refl _ _) nq
  have A5 := A4.past hb1
  have P5 := P4.past hb1
  have R5 := R4.past hb1
  have O5 := O4.past hb1
  have S5 := pt S4 hb1
  clear hb1 A4 P4 R4 O4 S4 p0 p1 p2 pl al ol
  generalize v4.drewN nq = v5 at *
  have p0 := P5.cellAt 0 rfl; have p1 := P5.cellAt 1 rfl; have p2 := P5.cellAt 2 rfl; have pl := P5.lt; have al := A5.lt; have ol := O5.lt
  go_wp2_with (first
    | ((with_reducible refine load_sub (T := 36) (x := .tmp 33) (o := 3) (vs := #[.int .i64 x4, .int .i64 x5, .int .i64 x6]) A5 ?_ ?_ three_under ?_ ?_ ?_); (focus rfl); (focus rfl); (focus rfl); (focus exact three_size)))
  refine wp_loop_rounds 4 ?_
  rw [rounds_succ]
  go_wp2_with (first
    | ((with_reducible refine store_sub (T := 3) (x := .tmp 44) (y := .tmp 42) (o := 3) (cs' := #[.int .i64 (-x7), .int .i64 (-x8), .int .i64 (-x9), .int .i64 (-x4), .int .i64 0, .int .i64 0, .int .i64 0, .int .i64 0, .int .i64 0]) (vs := #[.int .i64 (-x4)]) O5 ?_ ?_ ?_ ?_ ?_ ?_ ?_); (focus rfl); (focus rfl); (focus rfl); (focus exact Nat.le_of_ble_eq_true rfl); (focus exact int_size); (focus (simp [Value.oneCell']; done)); intro v6 O6 F6; have A6 := A5.put F6 (by omega); have P6 := P5.put F6 (by omega); have R6 := R5.put F6 (by omega); have S6 := pp S5 F6 (by omega); clear A5 P5 R5 S5 O5 p0 p1 p2 pl al ol; have p0 := P6.cellAt 0 rfl; have p1 := P6.cellAt 1 rfl; have p2 := P6.cellAt 2 rfl; have pl := P6.lt; have al := A6.lt; have ol := O6.lt))
  rw [rounds_succ]
  go_wp2_with (first
    | ((with_reducible refine store_sub (T := 3) (x := .tmp 44) (y := .tmp 42) (o := 4) (cs' := #[.int .i64 (-x7), .int .i64 (-x8), .int .i64 (-x9), .int .i64 (-x4), .int .i64 (-x5), .int .i64 0, .int .i64 0, .int .i64 0, .int .i64 0]) (vs := #[.int .i64 (-x5)]) O6 ?_ ?_ ?_ ?_ ?_ ?_ ?_); (focus rfl); (focus rfl); (focus rfl); (focus exact Nat.le_of_ble_eq_true rfl); (focus exact int_size); (focus (simp [Value.oneCell']; done)); intro v7 O7 F7; have A7 := A6.put F7 (by omega); have P7 := P6.put F7 (by omega); have R7 := R6.put F7 (by omega); have S7 := pp S6 F7 (by omega); clear A6 P6 R6 S6 O6 p0 p1 p2 pl al ol; have p0 := P7.cellAt 0 rfl; have p1 := P7.cellAt 1 rfl; have p2 := P7.cellAt 2 rfl; have pl := P7.lt; have al := A7.lt; have ol := O7.lt))
  rw [rounds_succ]
  go_wp2_with (first
    | ((with_reducible refine store_sub (T := 3) (x := .tmp 44) (y := .tmp 42) (o := 5) (cs' := #[.int .i64 (-x7), .int .i64 (-x8), .int .i64 (-x9), .int .i64 (-x4), .int .i64 (-x5), .int .i64 (-x6), .int .i64 0, .int .i64 0, .int .i64 0]) (vs := #[.int .i64 (-x6)]) O7 ?_ ?_ ?_ ?_ ?_ ?_ ?_); (focus rfl); (focus rfl); (focus rfl); (focus exact Nat.le_of_ble_eq_true rfl); (focus exact int_size); (focus (simp [Value.oneCell']; done)); intro v8 O8 F8; have A8 := A7.put F8 (by omega); have P8 := P7.put F8 (by omega); have R8 := R7.put F8 (by omega); have S8 := pp S7 F8 (by omega); clear A7 P7 R7 S7 O7 p0 p1 p2 pl al ol; have p0 := P8.cellAt 0 rfl; have p1 := P8.cellAt 1 rfl; have p2 := P8.cellAt 2 rfl; have pl := P8.lt; have al := A8.lt; have ol := O8.lt))
  rw [rounds_succ]
  go_wp2
  rw [rounds_succ]
  go_wp2
  go_quiet (fail)
  have hb1 : Below v8.heap.size v8 (v8.drewN nq) := below_drewN' (Below.refl _ _) nq
  have A9 := A8.past hb1
  have P9 := P8.past hb1
  have R9 := R8.past hb1
  have O9 := O8.past hb1
  have S9 := pt S8 hb1
  clear hb1 A8 P8 R8 O8 S8 p0 p1 p2 pl al ol
  generalize v8.drewN nq = v9 at *
  have p0 := P9.cellAt 0 rfl; have p1 := P9.cellAt 1 rfl; have p2 := P9.cellAt 2 rfl; have pl := P9.lt; have al := A9.lt; have ol := O9.lt
  go_wp2_with (first
    | ((with_reducible refine load_sub (T := 36) (x := .tmp 33) (o := 0) (vs := #[.int .i64 x1, .int .i64 x2, .int .i64 x3]) A9 ?_ ?_ three_under ?_ ?_ ?_); (focus rfl); (focus rfl); (focus rfl); (focus exact three_size)))
  refine wp_loop_rounds 4 ?_
  rw [rounds_succ]
  go_wp2_with (first
    | ((with_reducible refine store_sub (T := 3) (x := .tmp 44) (y := .tmp 42) (o := 6) (cs' := #[.int .i64 (-x7), .int .i64 (-x8), .int .i64 (-x9), .int .i64 (-x4), .int .i64 (-x5), .int .i64 (-x6), .int .i64 (-x1), .int .i64 0, .int .i64 0]) (vs := #[.int .i64 (-x1)]) O9 ?_ ?_ ?_ ?_ ?_ ?_ ?_); (focus rfl); (focus rfl); (focus rfl); (focus exact Nat.le_of_ble_eq_true rfl); (focus exact int_size); (focus (simp [Value.oneCell']; done)); intro v10 O10 F10; have A10 := A9.put F10 (by omega); have P10 := P9.put F10 (by omega); have R10 := R9.put F10 (by omega); have S10 := pp S9 F10 (by omega); clear A9 P9 R9 S9 O9 p0 p1 p2 pl al ol; have p0 := P10.cellAt 0 rfl; have p1 := P10.cellAt 1 rfl; have p2 := P10.cellAt 2 rfl; have pl := P10.lt; have al := A10.lt; have ol := O10.lt))
  rw [rounds_succ]
  go_wp2_with (first
    | ((with_reducible refine store_sub (T := 3) (x := .tmp 44) (y := .tmp 42) (o := 7) (cs' := #[.int .i64 (-x7), .int .i64 (-x8), .int .i64 (-x9), .int .i64 (-x4), .int .i64 (-x5), .int .i64 (-x6), .int .i64 (-x1), .int .i64 (-x2), .int .i64 0]) (vs := #[.int .i64 (-x2)]) O10 ?_ ?_ ?_ ?_ ?_ ?_ ?_); (focus rfl); (focus rfl); (focus rfl); (focus exact Nat.le_of_ble_eq_true rfl); (focus exact int_size); (focus (simp [Value.oneCell']; done)); intro v11 O11 F11; have A11 := A10.put F11 (by omega); have P11 := P10.put F11 (by omega); have R11 := R10.put F11 (by omega); have S11 := pp S10 F11 (by omega); clear A10 P10 R10 S10 O10 p0 p1 p2 pl al ol; have p0 := P11.cellAt 0 rfl; have p1 := P11.cellAt 1 rfl; have p2 := P11.cellAt 2 rfl; have pl := P11.lt; have al := A11.lt; have ol := O11.lt))
  rw [rounds_succ]
  go_wp2_with (first
    | ((with_reducible refine store_sub (T := 3) (x := .tmp 44) (y := .tmp 42) (o := 8) (cs' := #[.int .i64 (-x7), .int .i64 (-x8), .int .i64 (-x9), .int .i64 (-x4), .int .i64 (-x5), .int .i64 (-x6), .int .i64 (-x1), .int .i64 (-x2), .int .i64 (-x3)]) (vs := #[.int .i64 (-x3)]) O11 ?_ ?_ ?_ ?_ ?_ ?_ ?_); (focus rfl); (focus rfl); (focus rfl); (focus exact Nat.le_of_ble_eq_true rfl); (focus exact int_size); (focus (simp [Value.oneCell']; done)); intro v12 O12 F12; have A12 := A11.put F12 (by omega); have P12 := P11.put F12 (by omega); have R12 := R11.put F12 (by omega); have S12 := pp S11 F12 (by omega); clear A11 P11 R11 S11 O11 p0 p1 p2 pl al ol; have p0 := P12.cellAt 0 rfl; have p1 := P12.cellAt 1 rfl; have p2 := P12.cellAt 2 rfl; have pl := P12.lt; have al := A12.lt; have ol := O12.lt))
  rw [rounds_succ]
  go_wp2
  rw [rounds_succ]
  go_wp2_with (first
    | ((with_reducible refine load_blk (T := 109) (x := .tmp 5) O12 Tryd.underlying109 ?_ ?_ ?_ ?_); (focus rfl); (focus exact lines_size); (focus rfl))
    | ((with_reducible refine store_blk (T := 109) (x := .tmp 4) (y := .tmp 47) (vs := #[.int .i64 (-x7), .int .i64 (-x8), .int .i64 (-x9), .int .i64 (-x4), .int .i64 (-x5), .int .i64 (-x6), .int .i64 (-x1), .int .i64 (-x2), .int .i64 (-x3)]) R12 ?_ ?_ ?_ ?_ ?_ ?_); (focus rfl); (focus exact lines_size); (focus (simp [Value.oneCell']; done)); (focus rfl); (focus rfl); intro WF RF PF))
  have g0 := RF.cellAt 0 rfl
  have g1 := RF.cellAt 1 rfl
  have g2 := RF.cellAt 2 rfl
  have g3 := RF.cellAt 3 rfl
  have g4 := RF.cellAt 4 rfl
  have g5 := RF.cellAt 5 rfl
  have g6 := RF.cellAt 6 rfl
  have g7 := RF.cellAt 7 rfl
  have g8 := RF.cellAt 8 rfl
  exact bodyPost_ret (v := .agg #[.int .i64 (-x7), .int .i64 (-x8), .int .i64 (-x9), .int .i64 (-x4), .int .i64 (-x5), .int .i64 (-x6), .int .i64 (-x1), .int .i64 (-x2), .int .i64 (-x3)]) (by simp [results, Tryd.results77, go_sem, g0, g1, g2, g3, g4, g5, g6, g7, g8]) rfl ⟨rfl, pp S12 PF (by omega)⟩

set_option maxHeartbeats 8000000 in
set_option maxRecDepth 100000 in
theorem renamed_102 (x1 x2 x3 x4 x5 x6 x7 x8 x9 : Int) (w : World)
    (n1 : IntKind.i64.wrap (-x1) = -x1)
    (n2 : IntKind.i64.wrap (-x2) = -x2)
    (n3 : IntKind.i64.wrap (-x3) = -x3)
    (n4 : IntKind.i64.wrap (-x4) = -x4)
    (n5 : IntKind.i64.wrap (-x5) = -x5)
    (n6 : IntKind.i64.wrap (-x6) = -x6)
    (n7 : IntKind.i64.wrap (-x7) = -x7)
    (n8 : IntKind.i64.wrap (-x8) = -x8)
    (n9 : IntKind.i64.wrap (-x9) = -x9)
    : Calls Tryd.prog 77 #[.agg #[.int .i64 x1, .int .i64 x2, .int .i64 x3, .int .i64 x4, .int .i64 x5, .int .i64 x6, .int .i64 x7, .int .i64 x8, .int .i64 x9], .agg #[.int .i64 1, .int .i64 0, .int .i64 2]] w fun e w' => e = .returned (.agg #[.int .i64 (-x1), .int .i64 (-x2), .int .i64 (-x3), .int .i64 (-x7), .int .i64 (-x8), .int .i64 (-x9), .int .i64 (-x4), .int .i64 (-x5), .int .i64 (-x6)]) ∧ Below w.heap.size w w' := by
  have z0 : IntKind.i64.wrap 0 = 0 := by decide
  have z1 : IntKind.i64.wrap 1 = 1 := by decide
  have z2 : IntKind.i64.wrap 2 = 2 := by decide
  have z3 : IntKind.i64.wrap 3 = 3 := by decide
  have z4 : IntKind.i64.wrap 4 = 4 := by decide
  go_enter Tryd.func77, Tryd.ntmps77
  go_wp2
  have A0 : Blk ((((w.alloc (.cells #[.int .i64 x1, .int .i64 x2, .int .i64 x3, .int .i64 x4, .int .i64 x5, .int .i64 x6, .int .i64 x7, .int .i64 x8, .int .i64 x9] 109)).alloc (.cells #[.int .i64 1, .int .i64 0, .int .i64 2] 36)).alloc (.cells #[.int .i64 0, .int .i64 0, .int .i64 0, .int .i64 0, .int .i64 0, .int .i64 0, .int .i64 0, .int .i64 0, .int .i64 0] 109)).alloc (.cells #[.int .i64 0, .int .i64 0, .int .i64 0, .int .i64 0, .int .i64 0, .int .i64 0, .int .i64 0, .int .i64 0, .int .i64 0] 109)) (w.heap.size) 109 #[.int .i64 x1, .int .i64 x2, .int .i64 x3, .int .i64 x4, .int .i64 x5, .int .i64 x6, .int .i64 x7, .int .i64 x8, .int .i64 x9] := (Blk.newAt rfl).alloc.alloc.alloc
  have P0 : Blk ((((w.alloc (.cells #[.int .i64 x1, .int .i64 x2, .int .i64 x3, .int .i64 x4, .int .i64 x5, .int .i64 x6, .int .i64 x7, .int .i64 x8, .int .i64 x9] 109)).alloc (.cells #[.int .i64 1, .int .i64 0, .int .i64 2] 36)).alloc (.cells #[.int .i64 0, .int .i64 0, .int .i64 0, .int .i64 0, .int .i64 0, .int .i64 0, .int .i64 0, .int .i64 0, .int .i64 0] 109)).alloc (.cells #[.int .i64 0, .int .i64 0, .int .i64 0, .int .i64 0, .int .i64 0, .int .i64 0, .int .i64 0, .int .i64 0, .int .i64 0] 109)) (w.heap.size + 1) 36 #[.int .i64 1, .int .i64 0, .int .i64 2] := (Blk.newAt (by simp)).alloc.alloc
  have R0 : Blk ((((w.alloc (.cells #[.int .i64 x1, .int .i64 x2, .int .i64 x3, .int .i64 x4, .int .i64 x5, .int .i64 x6, .int .i64 x7, .int .i64 x8, .int .i64 x9] 109)).alloc (.cells #[.int .i64 1, .int .i64 0, .int .i64 2] 36)).alloc (.cells #[.int .i64 0, .int .i64 0, .int .i64 0, .int .i64 0, .int .i64 0, .int .i64 0, .int .i64 0, .int .i64 0, .int .i64 0] 109)).alloc (.cells #[.int .i64 0, .int .i64 0, .int .i64 0, .int .i64 0, .int .i64 0, .int .i64 0, .int .i64 0, .int .i64 0, .int .i64 0] 109)) (w.heap.size + 1 + 1) 109 #[.int .i64 0, .int .i64 0, .int .i64 0, .int .i64 0, .int .i64 0, .int .i64 0, .int .i64 0, .int .i64 0, .int .i64 0] := (Blk.newAt (by simp)).alloc
  have O0 : Blk ((((w.alloc (.cells #[.int .i64 x1, .int .i64 x2, .int .i64 x3, .int .i64 x4, .int .i64 x5, .int .i64 x6, .int .i64 x7, .int .i64 x8, .int .i64 x9] 109)).alloc (.cells #[.int .i64 1, .int .i64 0, .int .i64 2] 36)).alloc (.cells #[.int .i64 0, .int .i64 0, .int .i64 0, .int .i64 0, .int .i64 0, .int .i64 0, .int .i64 0, .int .i64 0, .int .i64 0] 109)).alloc (.cells #[.int .i64 0, .int .i64 0, .int .i64 0, .int .i64 0, .int .i64 0, .int .i64 0, .int .i64 0, .int .i64 0, .int .i64 0] 109)) (w.heap.size + 1 + 1 + 1) 109 #[.int .i64 0, .int .i64 0, .int .i64 0, .int .i64 0, .int .i64 0, .int .i64 0, .int .i64 0, .int .i64 0, .int .i64 0] := Blk.newAt (by simp)
  have S0 : Below w.heap.size w ((((w.alloc (.cells #[.int .i64 x1, .int .i64 x2, .int .i64 x3, .int .i64 x4, .int .i64 x5, .int .i64 x6, .int .i64 x7, .int .i64 x8, .int .i64 x9] 109)).alloc (.cells #[.int .i64 1, .int .i64 0, .int .i64 2] 36)).alloc (.cells #[.int .i64 0, .int .i64 0, .int .i64 0, .int .i64 0, .int .i64 0, .int .i64 0, .int .i64 0, .int .i64 0, .int .i64 0] 109)).alloc (.cells #[.int .i64 0, .int .i64 0, .int .i64 0, .int .i64 0, .int .i64 0, .int .i64 0, .int .i64 0, .int .i64 0, .int .i64 0] 109)) := pa (pa (pa (pa pr)))
  generalize ((((w.alloc (.cells #[.int .i64 x1, .int .i64 x2, .int .i64 x3, .int .i64 x4, .int .i64 x5, .int .i64 x6, .int .i64 x7, .int .i64 x8, .int .i64 x9] 109)).alloc (.cells #[.int .i64 1, .int .i64 0, .int .i64 2] 36)).alloc (.cells #[.int .i64 0, .int .i64 0, .int .i64 0, .int .i64 0, .int .i64 0, .int .i64 0, .int .i64 0, .int .i64 0, .int .i64 0] 109)).alloc (.cells #[.int .i64 0, .int .i64 0, .int .i64 0, .int .i64 0, .int .i64 0, .int .i64 0, .int .i64 0, .int .i64 0, .int .i64 0] 109)) = v0 at *
  have p0 := P0.cellAt 0 rfl; have p1 := P0.cellAt 1 rfl; have p2 := P0.cellAt 2 rfl; have pl := P0.lt; have al := A0.lt; have ol := O0.lt
  refine wp_loop_rounds 4 ?_
  rw [rounds_succ]
  go_wp2
  go_quiet (fail)
  have hb1 : Below v0.heap.size v0 (v0.drewN nq) := below_drewN' (Below.refl _ _) nq
  have A1 := A0.past hb1
  have P1 := P0.past hb1
  have R1 := R0.past hb1
  have O1 := O0.past hb1
  have S1 := pt S0 hb1
  clear hb1 A0 P0 R0 O0 S0 p0 p1 p2 pl al ol
  generalize v0.drewN nq = v1 at *
  have p0 := P1.cellAt 0 rfl; have p1 := P1.cellAt 1 rfl; have p2 := P1.cellAt 2 rfl; have pl := P1.lt; have al := A1.lt; have ol := O1.lt
  go_wp2_with (first
    | ((with_reducible refine load_sub (T := 36) (x := .tmp 33) (o := 0) (vs := #[.int .i64 x1, .int .i64 x2, .int .i64 x3]) A1 ?_ ?_ three_under ?_ ?_ ?_); (focus rfl); (focus rfl); (focus rfl); (focus exact three_size)))
  refine wp_loop_rounds 4 ?_
  rw [rounds_succ]
  go_wp2_with (first
    | ((with_reducible refine store_sub (T := 3) (x := .tmp 44) (y := .tmp 42) (o := 0) (cs' := #[.int .i64 (-x1), .int .i64 0, .int .i64 0, .int .i64 0, .int .i64 0, .int .i64 0, .int .i64 0, .int .i64 0, .int .i64 0]) (vs := #[.int .i64 (-x1)]) O1 ?_ ?_ ?_ ?_ ?_ ?_ ?_); (focus rfl); (focus rfl); (focus rfl); (focus exact Nat.le_of_ble_eq_true rfl); (focus exact int_size); (focus (simp [Value.oneCell']; done)); intro v2 O2 F2; have A2 := A1.put F2 (by omega); have P2 := P1.put F2 (by omega); have R2 := R1.put F2 (by omega); have S2 := pp S1 F2 (by omega); clear A1 P1 R1 S1 O1 p0 p1 p2 pl al ol; have p0 := P2.cellAt 0 rfl; have p1 := P2.cellAt 1 rfl; have p2 := P2.cellAt 2 rfl; have pl := P2.lt; have al := A2.lt; have ol := O2.lt))
  rw [rounds_succ]
  go_wp2_with (first
    | ((with_reducible refine store_sub (T := 3) (x := .tmp 44) (y := .tmp 42) (o := 1) (cs' := #[.int .i64 (-x1), .int .i64 (-x2), .int .i64 0, .int .i64 0, .int .i64 0, .int .i64 0, .int .i64 0, .int .i64 0, .int .i64 0]) (vs := #[.int .i64 (-x2)]) O2 ?_ ?_ ?_ ?_ ?_ ?_ ?_); (focus rfl); (focus rfl); (focus rfl); (focus exact Nat.le_of_ble_eq_true rfl); (focus exact int_size); (focus (simp [Value.oneCell']; done)); intro v3 O3 F3; have A3 := A2.put F3 (by omega); have P3 := P2.put F3 (by omega); have R3 := R2.put F3 (by omega); have S3 := pp S2 F3 (by omega); clear A2 P2 R2 S2 O2 p0 p1 p2 pl al ol; have p0 := P3.cellAt 0 rfl; have p1 := P3.cellAt 1 rfl; have p2 := P3.cellAt 2 rfl; have pl := P3.lt; have al := A3.lt; have ol := O3.lt))
  rw [rounds_succ]
  go_wp2_with (first
    | ((with_reducible refine store_sub (T := 3) (x := .tmp 44) (y := .tmp 42) (o := 2) (cs' := #[.int .i64 (-x1), .int .i64 (-x2), .int .i64 (-x3), .int .i64 0, .int .i64 0, .int .i64 0, .int .i64 0, .int .i64 0, .int .i64 0]) (vs := #[.int .i64 (-x3)]) O3 ?_ ?_ ?_ ?_ ?_ ?_ ?_); (focus rfl); (focus rfl); (focus rfl); (focus exact Nat.le_of_ble_eq_true rfl); (focus exact int_size); (focus (simp [Value.oneCell']; done)); intro v4 O4 F4; have A4 := A3.put F4 (by omega); have P4 := P3.put F4 (by omega); have R4 := R3.put F4 (by omega); have S4 := pp S3 F4 (by omega); clear A3 P3 R3 S3 O3 p0 p1 p2 pl al ol; have p0 := P4.cellAt 0 rfl; have p1 := P4.cellAt 1 rfl; have p2 := P4.cellAt 2 rfl; have pl := P4.lt; have al := A4.lt; have ol := O4.lt))
  rw [rounds_succ]
  go_wp2
  rw [rounds_succ]
  go_wp2
  go_quiet (fail)
  have hb1 : Below v4.heap.size v4 (v4.drewN nq) := below_drewN' (Below.refl _ _) nq
  have A5 := A4.past hb1
  have P5 := P4.past hb1
  have R5 := R4.past hb1
  have O5 := O4.past hb1
  have S5 := pt S4 hb1
  clear hb1 A4 P4 R4 O4 S4 p0 p1 p2 pl al ol
  generalize v4.drewN nq = v5 at *
  have p0 := P5.cellAt 0 rfl; have p1 := P5.cellAt 1 rfl; have p2 := P5.cellAt 2 rfl; have pl := P5.lt; have al := A5.lt; have ol := O5.lt
  go_wp2_with (first
    | ((with_reducible refine load_sub (T := 36) (x := .tmp 33) (o := 6) (vs := #[.int .i64 x7, .int .i64 x8, .int .i64 x9]) A5 ?_ ?_ three_under ?_ ?_ ?_); (focus rfl); (focus rfl); (focus rfl); (focus exact three_size)))
  refine wp_loop_rounds 4 ?_
  rw [rounds_succ]
  go_wp2_with (first
    | ((with_reducible refine store_sub (T := 3) (x := .tmp 44) (y := .tmp 42) (o := 3) (cs' := #[.int .i64 (-x1), .int .i64 (-x2), .int .i64 (-x3), .int .i64 (-x7), .int .i64 0, .int .i64 0, .int .i64 0, .int .i64 0, .int .i64 0]) (vs := #[.int .i64 (-x7)]) O5 ?_ ?_ ?_ ?_ ?_ ?_ ?_); (focus rfl); (focus rfl); (focus rfl); (focus exact Nat.le_of_ble_eq_true rfl); (focus exact int_size); (focus (simp [Value.oneCell']; done)); intro v6 O6 F6; have A6 := A5.put F6 (by omega); have P6 := P5.put F6 (by omega); have R6 := R5.put F6 (by omega); have S6 := pp S5 F6 (by omega); clear A5 P5 R5 S5 O5 p0 p1 p2 pl al ol; have p0 := P6.cellAt 0 rfl; have p1 := P6.cellAt 1 rfl; have p2 := P6.cellAt 2 rfl; have pl := P6.lt; have al := A6.lt; have ol := O6.lt))
  rw [rounds_succ]
  go_wp2_with (first
    | ((with_reducible refine store_sub (T := 3) (x := .tmp 44) (y := .tmp 42) (o := 4) (cs' := #[.int .i64 (-x1), .int .i64 (-x2), .int .i64 (-x3), .int .i64 (-x7), .int .i64 (-x8), .int .i64 0, .int .i64 0, .int .i64 0, .int .i64 0]) (vs := #[.int .i64 (-x8)]) O6 ?_ ?_ ?_ ?_ ?_ ?_ ?_); (focus rfl); (focus rfl); (focus rfl); (focus exact Nat.le_of_ble_eq_true rfl); (focus exact int_size); (focus (simp [Value.oneCell']; done)); intro v7 O7 F7; have A7 := A6.put F7 (by omega); have P7 := P6.put F7 (by omega); have R7 := R6.put F7 (by omega); have S7 := pp S6 F7 (by omega); clear A6 P6 R6 S6 O6 p0 p1 p2 pl al ol; have p0 := P7.cellAt 0 rfl; have p1 := P7.cellAt 1 rfl; have p2 := P7.cellAt 2 rfl; have pl := P7.lt; have al := A7.lt; have ol := O7.lt))
  rw [rounds_succ]
  go_wp2_with (first
    | ((with_reducible refine store_sub (T := 3) (x := .tmp 44) (y := .tmp 42) (o := 5) (cs' := #[.int .i64 (-x1), .int .i64 (-x2), .int .i64 (-x3), .int .i64 (-x7), .int .i64 (-x8), .int .i64 (-x9), .int .i64 0, .int .i64 0, .int .i64 0]) (vs := #[.int .i64 (-x9)]) O7 ?_ ?_ ?_ ?_ ?_ ?_ ?_); (focus rfl); (focus rfl); (focus rfl); (focus exact Nat.le_of_ble_eq_true rfl); (focus exact int_size); (focus (simp [Value.oneCell']; done)); intro v8 O8 F8; have A8 := A7.put F8 (by omega); have P8 := P7.put F8 (by omega); have R8 := R7.put F8 (by omega); have S8 := pp S7 F8 (by omega); clear A7 P7 R7 S7 O7 p0 p1 p2 pl al ol; have p0 := P8.cellAt 0 rfl; have p1 := P8.cellAt 1 rfl; have p2 := P8.cellAt 2 rfl; have pl := P8.lt; have al := A8.lt; have ol := O8.lt))
  rw [rounds_succ]
  go_wp2
  rw [rounds_succ]
  go_wp2
  go_quiet (fail)
  have hb1 : Below v8.heap.size v8 (v8.drewN nq) := below_drewN' (Below.refl _ _) nq
  have A9 := A8.past hb1
  have P9 := P8.past hb1
  have R9 := R8.past hb1
  have O9 := O8.past hb1
  have S9 := pt S8 hb1
  clear hb1 A8 P8 R8 O8 S8 p0 p1 p2 pl al ol
  generalize v8.drewN nq = v9 at *
  have p0 := P9.cellAt 0 rfl; have p1 := P9.cellAt 1 rfl; have p2 := P9.cellAt 2 rfl; have pl := P9.lt; have al := A9.lt; have ol := O9.lt
  go_wp2_with (first
    | ((with_reducible refine load_sub (T := 36) (x := .tmp 33) (o := 3) (vs := #[.int .i64 x4, .int .i64 x5, .int .i64 x6]) A9 ?_ ?_ three_under ?_ ?_ ?_); (focus rfl); (focus rfl); (focus rfl); (focus exact three_size)))
  refine wp_loop_rounds 4 ?_
  rw [rounds_succ]
  go_wp2_with (first
    | ((with_reducible refine store_sub (T := 3) (x := .tmp 44) (y := .tmp 42) (o := 6) (cs' := #[.int .i64 (-x1), .int .i64 (-x2), .int .i64 (-x3), .int .i64 (-x7), .int .i64 (-x8), .int .i64 (-x9), .int .i64 (-x4), .int .i64 0, .int .i64 0]) (vs := #[.int .i64 (-x4)]) O9 ?_ ?_ ?_ ?_ ?_ ?_ ?_); (focus rfl); (focus rfl); (focus rfl); (focus exact Nat.le_of_ble_eq_true rfl); (focus exact int_size); (focus (simp [Value.oneCell']; done)); intro v10 O10 F10; have A10 := A9.put F10 (by omega); have P10 := P9.put F10 (by omega); have R10 := R9.put F10 (by omega); have S10 := pp S9 F10 (by omega); clear A9 P9 R9 S9 O9 p0 p1 p2 pl al ol; have p0 := P10.cellAt 0 rfl; have p1 := P10.cellAt 1 rfl; have p2 := P10.cellAt 2 rfl; have pl := P10.lt; have al := A10.lt; have ol := O10.lt))
  rw [rounds_succ]
  go_wp2_with (first
    | ((with_reducible refine store_sub (T := 3) (x := .tmp 44) (y := .tmp 42) (o := 7) (cs' := #[.int .i64 (-x1), .int .i64 (-x2), .int .i64 (-x3), .int .i64 (-x7), .int .i64 (-x8), .int .i64 (-x9), .int .i64 (-x4), .int .i64 (-x5), .int .i64 0]) (vs := #[.int .i64 (-x5)]) O10 ?_ ?_ ?_ ?_ ?_ ?_ ?_); (focus rfl); (focus rfl); (focus rfl); (focus exact Nat.le_of_ble_eq_true rfl); (focus exact int_size); (focus (simp [Value.oneCell']; done)); intro v11 O11 F11; have A11 := A10.put F11 (by omega); have P11 := P10.put F11 (by omega); have R11 := R10.put F11 (by omega); have S11 := pp S10 F11 (by omega); clear A10 P10 R10 S10 O10 p0 p1 p2 pl al ol; have p0 := P11.cellAt 0 rfl; have p1 := P11.cellAt 1 rfl; have p2 := P11.cellAt 2 rfl; have pl := P11.lt; have al := A11.lt; have ol := O11.lt))
  rw [rounds_succ]
  go_wp2_with (first
    | ((with_reducible refine store_sub (T := 3) (x := .tmp 44) (y := .tmp 42) (o := 8) (cs' := #[.int .i64 (-x1), .int .i64 (-x2), .int .i64 (-x3), .int .i64 (-x7), .int .i64 (-x8), .int .i64 (-x9), .int .i64 (-x4), .int .i64 (-x5), .int .i64 (-x6)]) (vs := #[.int .i64 (-x6)]) O11 ?_ ?_ ?_ ?_ ?_ ?_ ?_); (focus rfl); (focus rfl); (focus rfl); (focus exact Nat.le_of_ble_eq_true rfl); (focus exact int_size); (focus (simp [Value.oneCell']; done)); intro v12 O12 F12; have A12 := A11.put F12 (by omega); have P12 := P11.put F12 (by omega); have R12 := R11.put F12 (by omega); have S12 := pp S11 F12 (by omega); clear A11 P11 R11 S11 O11 p0 p1 p2 pl al ol; have p0 := P12.cellAt 0 rfl; have p1 := P12.cellAt 1 rfl; have p2 := P12.cellAt 2 rfl; have pl := P12.lt; have al := A12.lt; have ol := O12.lt))
  rw [rounds_succ]
  go_wp2
  rw [rounds_succ]
  go_wp2_with (first
    | ((with_reducible refine load_blk (T := 109) (x := .tmp 5) O12 Tryd.underlying109 ?_ ?_ ?_ ?_); (focus rfl); (focus exact lines_size); (focus rfl))
    | ((with_reducible refine store_blk (T := 109) (x := .tmp 4) (y := .tmp 47) (vs := #[.int .i64 (-x1), .int .i64 (-x2), .int .i64 (-x3), .int .i64 (-x7), .int .i64 (-x8), .int .i64 (-x9), .int .i64 (-x4), .int .i64 (-x5), .int .i64 (-x6)]) R12 ?_ ?_ ?_ ?_ ?_ ?_); (focus rfl); (focus exact lines_size); (focus (simp [Value.oneCell']; done)); (focus rfl); (focus rfl); intro WF RF PF))
  have g0 := RF.cellAt 0 rfl
  have g1 := RF.cellAt 1 rfl
  have g2 := RF.cellAt 2 rfl
  have g3 := RF.cellAt 3 rfl
  have g4 := RF.cellAt 4 rfl
  have g5 := RF.cellAt 5 rfl
  have g6 := RF.cellAt 6 rfl
  have g7 := RF.cellAt 7 rfl
  have g8 := RF.cellAt 8 rfl
  exact bodyPost_ret (v := .agg #[.int .i64 (-x1), .int .i64 (-x2), .int .i64 (-x3), .int .i64 (-x7), .int .i64 (-x8), .int .i64 (-x9), .int .i64 (-x4), .int .i64 (-x5), .int .i64 (-x6)]) (by simp [results, Tryd.results77, go_sem, g0, g1, g2, g3, g4, g5, g6, g7, g8]) rfl ⟨rfl, pp S12 PF (by omega)⟩

set_option maxHeartbeats 8000000 in
set_option maxRecDepth 100000 in
theorem renamed_120 (x1 x2 x3 x4 x5 x6 x7 x8 x9 : Int) (w : World)
    (n1 : IntKind.i64.wrap (-x1) = -x1)
    (n2 : IntKind.i64.wrap (-x2) = -x2)
    (n3 : IntKind.i64.wrap (-x3) = -x3)
    (n4 : IntKind.i64.wrap (-x4) = -x4)
    (n5 : IntKind.i64.wrap (-x5) = -x5)
    (n6 : IntKind.i64.wrap (-x6) = -x6)
    (n7 : IntKind.i64.wrap (-x7) = -x7)
    (n8 : IntKind.i64.wrap (-x8) = -x8)
    (n9 : IntKind.i64.wrap (-x9) = -x9)
    : Calls Tryd.prog 77 #[.agg #[.int .i64 x1, .int .i64 x2, .int .i64 x3, .int .i64 x4, .int .i64 x5, .int .i64 x6, .int .i64 x7, .int .i64 x8, .int .i64 x9], .agg #[.int .i64 1, .int .i64 2, .int .i64 0]] w fun e w' => e = .returned (.agg #[.int .i64 x4, .int .i64 x5, .int .i64 x6, .int .i64 x7, .int .i64 x8, .int .i64 x9, .int .i64 x1, .int .i64 x2, .int .i64 x3]) ∧ Below w.heap.size w w' := by
  have z0 : IntKind.i64.wrap 0 = 0 := by decide
  have z1 : IntKind.i64.wrap 1 = 1 := by decide
  have z2 : IntKind.i64.wrap 2 = 2 := by decide
  have z3 : IntKind.i64.wrap 3 = 3 := by decide
  have z4 : IntKind.i64.wrap 4 = 4 := by decide
  go_enter Tryd.func77, Tryd.ntmps77
  go_wp2
  have A0 : Blk ((((w.alloc (.cells #[.int .i64 x1, .int .i64 x2, .int .i64 x3, .int .i64 x4, .int .i64 x5, .int .i64 x6, .int .i64 x7, .int .i64 x8, .int .i64 x9] 109)).alloc (.cells #[.int .i64 1, .int .i64 2, .int .i64 0] 36)).alloc (.cells #[.int .i64 0, .int .i64 0, .int .i64 0, .int .i64 0, .int .i64 0, .int .i64 0, .int .i64 0, .int .i64 0, .int .i64 0] 109)).alloc (.cells #[.int .i64 0, .int .i64 0, .int .i64 0, .int .i64 0, .int .i64 0, .int .i64 0, .int .i64 0, .int .i64 0, .int .i64 0] 109)) (w.heap.size) 109 #[.int .i64 x1, .int .i64 x2, .int .i64 x3, .int .i64 x4, .int .i64 x5, .int .i64 x6, .int .i64 x7, .int .i64 x8, .int .i64 x9] := (Blk.newAt rfl).alloc.alloc.alloc
  have P0 : Blk ((((w.alloc (.cells #[.int .i64 x1, .int .i64 x2, .int .i64 x3, .int .i64 x4, .int .i64 x5, .int .i64 x6, .int .i64 x7, .int .i64 x8, .int .i64 x9] 109)).alloc (.cells #[.int .i64 1, .int .i64 2, .int .i64 0] 36)).alloc (.cells #[.int .i64 0, .int .i64 0, .int .i64 0, .int .i64 0, .int .i64 0, .int .i64 0, .int .i64 0, .int .i64 0, .int .i64 0] 109)).alloc (.cells #[.int .i64 0, .int .i64 0, .int .i64 0, .int .i64 0, .int .i64 0, .int .i64 0, .int .i64 0, .int .i64 0, .int .i64 0] 109)) (w.heap.size + 1) 36 #[.int .i64 1, .int .i64 2, .int .i64 0] := (Blk.newAt (by simp)).alloc.alloc
  have R0 : Blk ((((w.alloc (.cells #[.int .i64 x1, .int .i64 x2, .int .i64 x3, .int .i64 x4, .int .i64 x5, .int .i64 x6, .int .i64 x7, .int .i64 x8, .int .i64 x9] 109)).alloc (.cells #[.int .i64 1, .int .i64 2, .int .i64 0] 36)).alloc (.cells #[.int .i64 0, .int .i64 0, .int .i64 0, .int .i64 0, .int .i64 0, .int .i64 0, .int .i64 0, .int .i64 0, .int .i64 0] 109)).alloc (.cells #[.int .i64 0, .int .i64 0, .int .i64 0, .int .i64 0, .int .i64 0, .int .i64 0, .int .i64 0, .int .i64 0, .int .i64 0] 109)) (w.heap.size + 1 + 1) 109 #[.int .i64 0, .int .i64 0, .int .i64 0, .int .i64 0, .int .i64 0, .int .i64 0, .int .i64 0, .int .i64 0, .int .i64 0] := (Blk.newAt (by simp)).alloc
  have O0 : Blk ((((w.alloc (.cells #[.int .i64 x1, .int .i64 x2, .int .i64 x3, .int .i64 x4, .int .i64 x5, .int .i64 x6, .int .i64 x7, .int .i64 x8, .int .i64 x9] 109)).alloc (.cells #[.int .i64 1, .int .i64 2, .int .i64 0] 36)).alloc (.cells #[.int .i64 0, .int .i64 0, .int .i64 0, .int .i64 0, .int .i64 0, .int .i64 0, .int .i64 0, .int .i64 0, .int .i64 0] 109)).alloc (.cells #[.int .i64 0, .int .i64 0, .int .i64 0, .int .i64 0, .int .i64 0, .int .i64 0, .int .i64 0, .int .i64 0, .int .i64 0] 109)) (w.heap.size + 1 + 1 + 1) 109 #[.int .i64 0, .int .i64 0, .int .i64 0, .int .i64 0, .int .i64 0, .int .i64 0, .int .i64 0, .int .i64 0, .int .i64 0] := Blk.newAt (by simp)
  have S0 : Below w.heap.size w ((((w.alloc (.cells #[.int .i64 x1, .int .i64 x2, .int .i64 x3, .int .i64 x4, .int .i64 x5, .int .i64 x6, .int .i64 x7, .int .i64 x8, .int .i64 x9] 109)).alloc (.cells #[.int .i64 1, .int .i64 2, .int .i64 0] 36)).alloc (.cells #[.int .i64 0, .int .i64 0, .int .i64 0, .int .i64 0, .int .i64 0, .int .i64 0, .int .i64 0, .int .i64 0, .int .i64 0] 109)).alloc (.cells #[.int .i64 0, .int .i64 0, .int .i64 0, .int .i64 0, .int .i64 0, .int .i64 0, .int .i64 0, .int .i64 0, .int .i64 0] 109)) := pa (pa (pa (pa pr)))
  generalize ((((w.alloc (.cells #[.int .i64 x1, .int .i64 x2, .int .i64 x3, .int .i64 x4, .int .i64 x5, .int .i64 x6, .int .i64 x7, .int .i64 x8, .int .i64 x9] 109)).alloc (.cells #[.int .i64 1, .int .i64 2, .int .i64 0] 36)).alloc (.cells #[.int .i64 0, .int .i64 0, .int .i64 0, .int .i64 0, .int .i64 0, .int .i64 0, .int .i64 0, .int .i64 0, .int .i64 0] 109)).alloc (.cells #[.int .i64 0, .int .i64 0, .int .i64 0, .int .i64 0, .int .i64 0, .int .i64 0, .int .i64 0, .int .i64 0, .int .i64 0] 109)) = v0 at *
  have p0 := P0.cellAt 0 rfl; have p1 := P0.cellAt 1 rfl; have p2 := P0.cellAt 2 rfl; have pl := P0.lt; have al := A0.lt; have ol := O0.lt
  refine wp_loop_rounds 4 ?_
  rw [rounds_succ]
  go_wp2
  go_quiet (fail)
  have hb1 : Below v0.heap.size v0 (v0.drewN nq) := below_drewN' (Below.refl _ _) nq
  have A1 := A0.past hb1
  have P1 := P0.past hb1
  have R1 := R0.past hb1
  have O1 := O0.past hb1
  have S1 := pt S0 hb1
  clear hb1 A0 P0 R0 O0 S0 p0 p1 p2 pl al ol
  generalize v0.drewN nq = v1 at *
  have p0 := P1.cellAt 0 rfl; have p1 := P1.cellAt 1 rfl; have p2 := P1.cellAt 2 rfl; have pl := P1.lt; have al := A1.lt; have ol := O1.lt
  go_wp2_with (first
    | ((with_reducible refine load_sub (T := 36) (x := .tmp 29) (o := 3) (vs := #[.int .i64 x4, .int .i64 x5, .int .i64 x6]) A1 ?_ ?_ three_under ?_ ?_ ?_); (focus rfl); (focus rfl); (focus rfl); (focus exact three_size))
    | ((with_reducible refine store_sub (T := 36) (x := .tmp 31) (y := .tmp 30) (o := 0) (cs' := #[.int .i64 x4, .int .i64 x5, .int .i64 x6, .int .i64 0, .int .i64 0, .int .i64 0, .int .i64 0, .int .i64 0, .int .i64 0]) (vs := #[.int .i64 x4, .int .i64 x5, .int .i64 x6]) O1 ?_ ?_ ?_ ?_ ?_ ?_ ?_); (focus rfl); (focus rfl); (focus rfl); (focus exact Nat.le_of_ble_eq_true rfl); (focus exact three_size); (focus (simp [Value.oneCell']; done)); intro v2 O2 F2; have A2 := A1.put F2 (by omega); have P2 := P1.put F2 (by omega); have R2 := R1.put F2 (by omega); have S2 := pp S1 F2 (by omega); clear A1 P1 R1 S1 O1 p0 p1 p2 pl al ol; have p0 := P2.cellAt 0 rfl; have p1 := P2.cellAt 1 rfl; have p2 := P2.cellAt 2 rfl; have pl := P2.lt; have al := A2.lt; have ol := O2.lt))
  rw [rounds_succ]
  go_wp2
  go_quiet (fail)
  have hb1 : Below v2.heap.size v2 (v2.drewN nq) := below_drewN' (Below.refl _ _) nq
  have A3 := A2.past hb1
  have P3 := P2.past hb1
  have R3 := R2.past hb1
  have O3 := O2.past hb1
  have S3 := pt S2 hb1
  clear hb1 A2 P2 R2 O2 S2 p0 p1 p2 pl al ol
  generalize v2.drewN nq = v3 at *
  have p0 := P3.cellAt 0 rfl; have p1 := P3.cellAt 1 rfl; have p2 := P3.cellAt 2 rfl; have pl := P3.lt; have al := A3.lt; have ol := O3.lt
  go_wp2_with (first
    | ((with_reducible refine load_sub (T := 36) (x := .tmp 29) (o := 6) (vs := #[.int .i64 x7, .int .i64 x8, .int .i64 x9]) A3 ?_ ?_ three_under ?_ ?_ ?_); (focus rfl); (focus rfl); (focus rfl); (focus exact three_size))
    | ((with_reducible refine store_sub (T := 36) (x := .tmp 31) (y := .tmp 30) (o := 3) (cs' := #[.int .i64 x4, .int .i64 x5, .int .i64 x6, .int .i64 x7, .int .i64 x8, .int .i64 x9, .int .i64 0, .int .i64 0, .int .i64 0]) (vs := #[.int .i64 x7, .int .i64 x8, .int .i64 x9]) O3 ?_ ?_ ?_ ?_ ?_ ?_ ?_); (focus rfl); (focus rfl); (focus rfl); (focus exact Nat.le_of_ble_eq_true rfl); (focus exact three_size); (focus (simp [Value.oneCell']; done)); intro v4 O4 F4; have A4 := A3.put F4 (by omega); have P4 := P3.put F4 (by omega); have R4 := R3.put F4 (by omega); have S4 := pp S3 F4 (by omega); clear A3 P3 R3 S3 O3 p0 p1 p2 pl al ol; have p0 := P4.cellAt 0 rfl; have p1 := P4.cellAt 1 rfl; have p2 := P4.cellAt 2 rfl; have pl := P4.lt; have al := A4.lt; have ol := O4.lt))
  rw [rounds_succ]
  go_wp2
  go_quiet (fail)
  have hb1 : Below v4.heap.size v4 (v4.drewN nq) := below_drewN' (Below.refl _ _) nq
  have A5 := A4.past hb1
  have P5 := P4.past hb1
  have R5 := R4.past hb1
  have O5 := O4.past hb1
  have S5 := pt S4 hb1
  clear hb1 A4 P4 R4 O4 S4 p0 p1 p2 pl al ol
  generalize v4.drewN nq = v5 at *
  have p0 := P5.cellAt 0 rfl; have p1 := P5.cellAt 1 rfl; have p2 := P5.cellAt 2 rfl; have pl := P5.lt; have al := A5.lt; have ol := O5.lt
  go_wp2_with (first
    | ((with_reducible refine load_sub (T := 36) (x := .tmp 29) (o := 0) (vs := #[.int .i64 x1, .int .i64 x2, .int .i64 x3]) A5 ?_ ?_ three_under ?_ ?_ ?_); (focus rfl); (focus rfl); (focus rfl); (focus exact three_size))
    | ((with_reducible refine store_sub (T := 36) (x := .tmp 31) (y := .tmp 30) (o := 6) (cs' := #[.int .i64 x4, .int .i64 x5, .int .i64 x6, .int .i64 x7, .int .i64 x8, .int .i64 x9, .int .i64 x1, .int .i64 x2, .int .i64 x3]) (vs := #[.int .i64 x1, .int .i64 x2, .int .i64 x3]) O5 ?_ ?_ ?_ ?_ ?_ ?_ ?_); (focus rfl); (focus rfl); (focus rfl); (focus exact Nat.le_of_ble_eq_true rfl); (focus exact three_size); (focus (simp [Value.oneCell']; done)); intro v6 O6 F6; have A6 := A5.put F6 (by omega); have P6 := P5.put F6 (by omega); have R6 := R5.put F6 (by omega); have S6 := pp S5 F6 (by omega); clear A5 P5 R5 S5 O5 p0 p1 p2 pl al ol; have p0 := P6.cellAt 0 rfl; have p1 := P6.cellAt 1 rfl; have p2 := P6.cellAt 2 rfl; have pl := P6.lt; have al := A6.lt; have ol := O6.lt))
  rw [rounds_succ]
  go_wp2_with (first
    | ((with_reducible refine load_blk (T := 109) (x := .tmp 5) O6 Tryd.underlying109 ?_ ?_ ?_ ?_); (focus rfl); (focus exact lines_size); (focus rfl))
    | ((with_reducible refine store_blk (T := 109) (x := .tmp 4) (y := .tmp 47) (vs := #[.int .i64 x4, .int .i64 x5, .int .i64 x6, .int .i64 x7, .int .i64 x8, .int .i64 x9, .int .i64 x1, .int .i64 x2, .int .i64 x3]) R6 ?_ ?_ ?_ ?_ ?_ ?_); (focus rfl); (focus exact lines_size); (focus (simp [Value.oneCell']; done)); (focus rfl); (focus rfl); intro WF RF PF))
  have g0 := RF.cellAt 0 rfl
  have g1 := RF.cellAt 1 rfl
  have g2 := RF.cellAt 2 rfl
  have g3 := RF.cellAt 3 rfl
  have g4 := RF.cellAt 4 rfl
  have g5 := RF.cellAt 5 rfl
  have g6 := RF.cellAt 6 rfl
  have g7 := RF.cellAt 7 rfl
  have g8 := RF.cellAt 8 rfl
  exact bodyPost_ret (v := .agg #[.int .i64 x4, .int .i64 x5, .int .i64 x6, .int .i64 x7, .int .i64 x8, .int .i64 x9, .int .i64 x1, .int .i64 x2, .int .i64 x3]) (by simp [results, Tryd.results77, go_sem, g0, g1, g2, g3, g4, g5, g6, g7, g8]) rfl ⟨rfl, pp S6 PF (by omega)⟩

set_option maxHeartbeats 8000000 in
set_option maxRecDepth 100000 in
theorem renamed_201 (x1 x2 x3 x4 x5 x6 x7 x8 x9 : Int) (w : World)
    (n1 : IntKind.i64.wrap (-x1) = -x1)
    (n2 : IntKind.i64.wrap (-x2) = -x2)
    (n3 : IntKind.i64.wrap (-x3) = -x3)
    (n4 : IntKind.i64.wrap (-x4) = -x4)
    (n5 : IntKind.i64.wrap (-x5) = -x5)
    (n6 : IntKind.i64.wrap (-x6) = -x6)
    (n7 : IntKind.i64.wrap (-x7) = -x7)
    (n8 : IntKind.i64.wrap (-x8) = -x8)
    (n9 : IntKind.i64.wrap (-x9) = -x9)
    : Calls Tryd.prog 77 #[.agg #[.int .i64 x1, .int .i64 x2, .int .i64 x3, .int .i64 x4, .int .i64 x5, .int .i64 x6, .int .i64 x7, .int .i64 x8, .int .i64 x9], .agg #[.int .i64 2, .int .i64 0, .int .i64 1]] w fun e w' => e = .returned (.agg #[.int .i64 x7, .int .i64 x8, .int .i64 x9, .int .i64 x1, .int .i64 x2, .int .i64 x3, .int .i64 x4, .int .i64 x5, .int .i64 x6]) ∧ Below w.heap.size w w' := by
  have z0 : IntKind.i64.wrap 0 = 0 := by decide
  have z1 : IntKind.i64.wrap 1 = 1 := by decide
  have z2 : IntKind.i64.wrap 2 = 2 := by decide
  have z3 : IntKind.i64.wrap 3 = 3 := by decide
  have z4 : IntKind.i64.wrap 4 = 4 := by decide
  go_enter Tryd.func77, Tryd.ntmps77
  go_wp2
  have A0 : Blk ((((w.alloc (.cells #[.int .i64 x1, .int .i64 x2, .int .i64 x3, .int .i64 x4, .int .i64 x5, .int .i64 x6, .int .i64 x7, .int .i64 x8, .int .i64 x9] 109)).alloc (.cells #[.int .i64 2, .int .i64 0, .int .i64 1] 36)).alloc (.cells #[.int .i64 0, .int .i64 0, .int .i64 0, .int .i64 0, .int .i64 0, .int .i64 0, .int .i64 0, .int .i64 0, .int .i64 0] 109)).alloc (.cells #[.int .i64 0, .int .i64 0, .int .i64 0, .int .i64 0, .int .i64 0, .int .i64 0, .int .i64 0, .int .i64 0, .int .i64 0] 109)) (w.heap.size) 109 #[.int .i64 x1, .int .i64 x2, .int .i64 x3, .int .i64 x4, .int .i64 x5, .int .i64 x6, .int .i64 x7, .int .i64 x8, .int .i64 x9] := (Blk.newAt rfl).alloc.alloc.alloc
  have P0 : Blk ((((w.alloc (.cells #[.int .i64 x1, .int .i64 x2, .int .i64 x3, .int .i64 x4, .int .i64 x5, .int .i64 x6, .int .i64 x7, .int .i64 x8, .int .i64 x9] 109)).alloc (.cells #[.int .i64 2, .int .i64 0, .int .i64 1] 36)).alloc (.cells #[.int .i64 0, .int .i64 0, .int .i64 0, .int .i64 0, .int .i64 0, .int .i64 0, .int .i64 0, .int .i64 0, .int .i64 0] 109)).alloc (.cells #[.int .i64 0, .int .i64 0, .int .i64 0, .int .i64 0, .int .i64 0, .int .i64 0, .int .i64 0, .int .i64 0, .int .i64 0] 109)) (w.heap.size + 1) 36 #[.int .i64 2, .int .i64 0, .int .i64 1] := (Blk.newAt (by simp)).alloc.alloc
  have R0 : Blk ((((w.alloc (.cells #[.int .i64 x1, .int .i64 x2, .int .i64 x3, .int .i64 x4, .int .i64 x5, .int .i64 x6, .int .i64 x7, .int .i64 x8, .int .i64 x9] 109)).alloc (.cells #[.int .i64 2, .int .i64 0, .int .i64 1] 36)).alloc (.cells #[.int .i64 0, .int .i64 0, .int .i64 0, .int .i64 0, .int .i64 0, .int .i64 0, .int .i64 0, .int .i64 0, .int .i64 0] 109)).alloc (.cells #[.int .i64 0, .int .i64 0, .int .i64 0, .int .i64 0, .int .i64 0, .int .i64 0, .int .i64 0, .int .i64 0, .int .i64 0] 109)) (w.heap.size + 1 + 1) 109 #[.int .i64 0, .int .i64 0, .int .i64 0, .int .i64 0, .int .i64 0, .int .i64 0, .int .i64 0, .int .i64 0, .int .i64 0] := (Blk.newAt (by simp)).alloc
  have O0 : Blk ((((w.alloc (.cells #[.int .i64 x1, .int .i64 x2, .int .i64 x3, .int .i64 x4, .int .i64 x5, .int .i64 x6, .int .i64 x7, .int .i64 x8, .int .i64 x9] 109)).alloc (.cells #[.int .i64 2, .int .i64 0, .int .i64 1] 36)).alloc (.cells #[.int .i64 0, .int .i64 0, .int .i64 0, .int .i64 0, .int .i64 0, .int .i64 0, .int .i64 0, .int .i64 0, .int .i64 0] 109)).alloc (.cells #[.int .i64 0, .int .i64 0, .int .i64 0, .int .i64 0, .int .i64 0, .int .i64 0, .int .i64 0, .int .i64 0, .int .i64 0] 109)) (w.heap.size + 1 + 1 + 1) 109 #[.int .i64 0, .int .i64 0, .int .i64 0, .int .i64 0, .int .i64 0, .int .i64 0, .int .i64 0, .int .i64 0, .int .i64 0] := Blk.newAt (by simp)
  have S0 : Below w.heap.size w ((((w.alloc (.cells #[.int .i64 x1, .int .i64 x2, .int .i64 x3, .int .i64 x4, .int .i64 x5, .int .i64 x6, .int .i64 x7, .int .i64 x8, .int .i64 x9] 109)).alloc (.cells #[.int .i64 2, .int .i64 0, .int .i64 1] 36)).alloc (.cells #[.int .i64 0, .int .i64 0, .int .i64 0, .int .i64 0, .int .i64 0, .int .i64 0, .int .i64 0, .int .i64 0, .int .i64 0] 109)).alloc (.cells #[.int .i64 0, .int .i64 0, .int .i64 0, .int .i64 0, .int .i64 0, .int .i64 0, .int .i64 0, .int .i64 0, .int .i64 0] 109)) := pa (pa (pa (pa pr)))
  generalize ((((w.alloc (.cells #[.int .i64 x1, .int .i64 x2, .int .i64 x3, .int .i64 x4, .int .i64 x5, .int .i64 x6, .int .i64 x7, .int .i64 x8, .int .i64 x9] 109)).alloc (.cells #[.int .i64 2, .int .i64 0, .int .i64 1] 36)).alloc (.cells #[.int .i64 0, .int .i64 0, .int .i64 0, .int .i64 0, .int .i64 0, .int .i64 0, .int .i64 0, .int .i64 0, .int .i64 0] 109)).alloc (.cells #[.int .i64 0, .int .i64 0, .int .i64 0, .int .i64 0, .int .i64 0, .int .i64 0, .int .i64 0, .int .i64 0, .int .i64 0] 109)) = v0 at *
  have p0 := P0.cellAt 0 rfl; have p1 := P0.cellAt 1 rfl; have p2 := P0.cellAt 2 rfl; have pl := P0.lt; have al := A0.lt; have ol := O0.lt
  refine wp_loop_rounds 4 ?_
  rw [rounds_succ]
  go_wp2
  go_quiet (fail)
  have hb1 : Below v0.heap.size v0 (v0.drewN nq) := below_drewN' (Below.refl _ _) nq
  have A1 := A0.past hb1
  have P1 := P0.past hb1
  have R1 := R0.past hb1
  have O1 := O0.past hb1
  have S1 := pt S0 hb1
  clear hb1 A0 P0 R0 O0 S0 p0 p1 p2 pl al ol
  generalize v0.drewN nq = v1 at *
  have p0 := P1.cellAt 0 rfl; have p1 := P1.cellAt 1 rfl; have p2 := P1.cellAt 2 rfl; have pl := P1.lt; have al := A1.lt; have ol := O1.lt
  go_wp2_with (first
    | ((with_reducible refine load_sub (T := 36) (x := .tmp 29) (o := 6) (vs := #[.int .i64 x7, .int .i64 x8, .int .i64 x9]) A1 ?_ ?_ three_under ?_ ?_ ?_); (focus rfl); (focus rfl); (focus rfl); (focus exact three_size))
    | ((with_reducible refine store_sub (T := 36) (x := .tmp 31) (y := .tmp 30) (o := 0) (cs' := #[.int .i64 x7, .int .i64 x8, .int .i64 x9, .int .i64 0, .int .i64 0, .int .i64 0, .int .i64 0, .int .i64 0, .int .i64 0]) (vs := #[.int .i64 x7, .int .i64 x8, .int .i64 x9]) O1 ?_ ?_ ?_ ?_ ?_ ?_ ?_); (focus rfl); (focus rfl); (focus rfl); (focus exact Nat.le_of_ble_eq_true rfl); (focus exact three_size); (focus (simp [Value.oneCell']; done)); intro v2 O2 F2; have A2 := A1.put F2 (by omega); have P2 := P1.put F2 (by omega); have R2 := R1.put F2 (by omega); have S2 := pp S1 F2 (by omega); clear A1 P1 R1 S1 O1 p0 p1 p2 pl al ol; have p0 := P2.cellAt 0 rfl; have p1 := P2.cellAt 1 rfl; have p2 := P2.cellAt 2 rfl; have pl := P2.lt; have al := A2.lt; have ol := O2.lt))
  rw [rounds_succ]
  go_wp2
  go_quiet (fail)
  have hb1 : Below v2.heap.size v2 (v2.drewN nq) := below_drewN' (Below.refl _ _) nq
  have A3 := A2.past hb1
  have P3 := P2.past hb1
  have R3 := R2.past hb1
  have O3 := O2.past hb1
  have S3 := pt S2 hb1
  clear hb1 A2 P2 R2 O2 S2 p0 p1 p2 pl al ol
  generalize v2.drewN nq = v3 at *
  have p0 := P3.cellAt 0 rfl; have p1 := P3.cellAt 1 rfl; have p2 := P3.cellAt 2 rfl; have pl := P3.lt; have al := A3.lt; have ol := O3.lt
  go_wp2_with (first
    | ((with_reducible refine load_sub (T := 36) (x := .tmp 29) (o := 0) (vs := #[.int .i64 x1, .int .i64 x2, .int .i64 x3]) A3 ?_ ?_ three_under ?_ ?_ ?_); (focus rfl); (focus rfl); (focus rfl); (focus exact three_size))
    | ((with_reducible refine store_sub (T := 36) (x := .tmp 31) (y := .tmp 30) (o := 3) (cs' := #[.int .i64 x7, .int .i64 x8, .int .i64 x9, .int .i64 x1, .int .i64 x2, .int .i64 x3, .int .i64 0, .int .i64 0, .int .i64 0]) (vs := #[.int .i64 x1, .int .i64 x2, .int .i64 x3]) O3 ?_ ?_ ?_ ?_ ?_ ?_ ?_); (focus rfl); (focus rfl); (focus rfl); (focus exact Nat.le_of_ble_eq_true rfl); (focus exact three_size); (focus (simp [Value.oneCell']; done)); intro v4 O4 F4; have A4 := A3.put F4 (by omega); have P4 := P3.put F4 (by omega); have R4 := R3.put F4 (by omega); have S4 := pp S3 F4 (by omega); clear A3 P3 R3 S3 O3 p0 p1 p2 pl al ol; have p0 := P4.cellAt 0 rfl; have p1 := P4.cellAt 1 rfl; have p2 := P4.cellAt 2 rfl; have pl := P4.lt; have al := A4.lt; have ol := O4.lt))
  rw [rounds_succ]
  go_wp2
  go_quiet (fail)
  have hb1 : Below v4.heap.size v4 (v4.drewN nq) := below_drewN' (Below.refl _ _) nq
  have A5 := A4.past hb1
  have P5 := P4.past hb1
  have R5 := R4.past hb1
  have O5 := O4.past hb1
  have S5 := pt S4 hb1
  clear hb1 A4 P4 R4 O4 S4 p0 p1 p2 pl al ol
  generalize v4.drewN nq = v5 at *
  have p0 := P5.cellAt 0 rfl; have p1 := P5.cellAt 1 rfl; have p2 := P5.cellAt 2 rfl; have pl := P5.lt; have al := A5.lt; have ol := O5.lt
  go_wp2_with (first
    | ((with_reducible refine load_sub (T := 36) (x := .tmp 29) (o := 3) (vs := #[.int .i64 x4, .int .i64 x5, .int .i64 x6]) A5 ?_ ?_ three_under ?_ ?_ ?_); (focus rfl); (focus rfl); (focus rfl); (focus exact three_size))
    | ((with_reducible refine store_sub (T := 36) (x := .tmp 31) (y := .tmp 30) (o := 6) (cs' := #[.int .i64 x7, .int .i64 x8, .int .i64 x9, .int .i64 x1, .int .i64 x2, .int .i64 x3, .int .i64 x4, .int .i64 x5, .int .i64 x6]) (vs := #[.int .i64 x4, .int .i64 x5, .int .i64 x6]) O5 ?_ ?_ ?_ ?_ ?_ ?_ ?_); (focus rfl); (focus rfl); (focus rfl); (focus exact Nat.le_of_ble_eq_true rfl); (focus exact three_size); (focus (simp [Value.oneCell']; done)); intro v6 O6 F6; have A6 := A5.put F6 (by omega); have P6 := P5.put F6 (by omega); have R6 := R5.put F6 (by omega); have S6 := pp S5 F6 (by omega); clear A5 P5 R5 S5 O5 p0 p1 p2 pl al ol; have p0 := P6.cellAt 0 rfl; have p1 := P6.cellAt 1 rfl; have p2 := P6.cellAt 2 rfl; have pl := P6.lt; have al := A6.lt; have ol := O6.lt))
  rw [rounds_succ]
  go_wp2_with (first
    | ((with_reducible refine load_blk (T := 109) (x := .tmp 5) O6 Tryd.underlying109 ?_ ?_ ?_ ?_); (focus rfl); (focus exact lines_size); (focus rfl))
    | ((with_reducible refine store_blk (T := 109) (x := .tmp 4) (y := .tmp 47) (vs := #[.int .i64 x7, .int .i64 x8, .int .i64 x9, .int .i64 x1, .int .i64 x2, .int .i64 x3, .int .i64 x4, .int .i64 x5, .int .i64 x6]) R6 ?_ ?_ ?_ ?_ ?_ ?_); (focus rfl); (focus exact lines_size); (focus (simp [Value.oneCell']; done)); (focus rfl); (focus rfl); intro WF RF PF))
  have g0 := RF.cellAt 0 rfl
  have g1 := RF.cellAt 1 rfl
  have g2 := RF.cellAt 2 rfl
  have g3 := RF.cellAt 3 rfl
  have g4 := RF.cellAt 4 rfl
  have g5 := RF.cellAt 5 rfl
  have g6 := RF.cellAt 6 rfl
  have g7 := RF.cellAt 7 rfl
  have g8 := RF.cellAt 8 rfl
  exact bodyPost_ret (v := .agg #[.int .i64 x7, .int .i64 x8, .int .i64 x9, .int .i64 x1, .int .i64 x2, .int .i64 x3, .int .i64 x4, .int .i64 x5, .int .i64 x6]) (by simp [results, Tryd.results77, go_sem, g0, g1, g2, g3, g4, g5, g6, g7, g8]) rfl ⟨rfl, pp S6 PF (by omega)⟩

set_option maxHeartbeats 8000000 in
set_option maxRecDepth 100000 in
theorem renamed_210 (x1 x2 x3 x4 x5 x6 x7 x8 x9 : Int) (w : World)
    (n1 : IntKind.i64.wrap (-x1) = -x1)
    (n2 : IntKind.i64.wrap (-x2) = -x2)
    (n3 : IntKind.i64.wrap (-x3) = -x3)
    (n4 : IntKind.i64.wrap (-x4) = -x4)
    (n5 : IntKind.i64.wrap (-x5) = -x5)
    (n6 : IntKind.i64.wrap (-x6) = -x6)
    (n7 : IntKind.i64.wrap (-x7) = -x7)
    (n8 : IntKind.i64.wrap (-x8) = -x8)
    (n9 : IntKind.i64.wrap (-x9) = -x9)
    : Calls Tryd.prog 77 #[.agg #[.int .i64 x1, .int .i64 x2, .int .i64 x3, .int .i64 x4, .int .i64 x5, .int .i64 x6, .int .i64 x7, .int .i64 x8, .int .i64 x9], .agg #[.int .i64 2, .int .i64 1, .int .i64 0]] w fun e w' => e = .returned (.agg #[.int .i64 (-x4), .int .i64 (-x5), .int .i64 (-x6), .int .i64 (-x1), .int .i64 (-x2), .int .i64 (-x3), .int .i64 (-x7), .int .i64 (-x8), .int .i64 (-x9)]) ∧ Below w.heap.size w w' := by
  have z0 : IntKind.i64.wrap 0 = 0 := by decide
  have z1 : IntKind.i64.wrap 1 = 1 := by decide
  have z2 : IntKind.i64.wrap 2 = 2 := by decide
  have z3 : IntKind.i64.wrap 3 = 3 := by decide
  have z4 : IntKind.i64.wrap 4 = 4 := by decide
  go_enter Tryd.func77, Tryd.ntmps77
  go_wp2
  have A0 : Blk ((((w.alloc (.cells #[.int .i64 x1, .int .i64 x2, .int .i64 x3, .int .i64 x4, .int .i64 x5, .int .i64 x6, .int .i64 x7, .int .i64 x8, .int .i64 x9] 109)).alloc (.cells #[.int .i64 2, .int .i64 1, .int .i64 0] 36)).alloc (.cells #[.int .i64 0, .int .i64 0, .int .i64 0, .int .i64 0, .int .i64 0, .int .i64 0, .int .i64 0, .int .i64 0, .int .i64 0] 109)).alloc (.cells #[.int .i64 0, .int .i64 0, .int .i64 0, .int .i64 0, .int .i64 0, .int .i64 0, .int .i64 0, .int .i64 0, .int .i64 0] 109)) (w.heap.size) 109 #[.int .i64 x1, .int .i64 x2, .int .i64 x3, .int .i64 x4, .int .i64 x5, .int .i64 x6, .int .i64 x7, .int .i64 x8, .int .i64 x9] := (Blk.newAt rfl).alloc.alloc.alloc
  have P0 : Blk ((((w.alloc (.cells #[.int .i64 x1, .int .i64 x2, .int .i64 x3, .int .i64 x4, .int .i64 x5, .int .i64 x6, .int .i64 x7, .int .i64 x8, .int .i64 x9] 109)).alloc (.cells #[.int .i64 2, .int .i64 1, .int .i64 0] 36)).alloc (.cells #[.int .i64 0, .int .i64 0, .int .i64 0, .int .i64 0, .int .i64 0, .int .i64 0, .int .i64 0, .int .i64 0, .int .i64 0] 109)).alloc (.cells #[.int .i64 0, .int .i64 0, .int .i64 0, .int .i64 0, .int .i64 0, .int .i64 0, .int .i64 0, .int .i64 0, .int .i64 0] 109)) (w.heap.size + 1) 36 #[.int .i64 2, .int .i64 1, .int .i64 0] := (Blk.newAt (by simp)).alloc.alloc
  have R0 : Blk ((((w.alloc (.cells #[.int .i64 x1, .int .i64 x2, .int .i64 x3, .int .i64 x4, .int .i64 x5, .int .i64 x6, .int .i64 x7, .int .i64 x8, .int .i64 x9] 109)).alloc (.cells #[.int .i64 2, .int .i64 1, .int .i64 0] 36)).alloc (.cells #[.int .i64 0, .int .i64 0, .int .i64 0, .int .i64 0, .int .i64 0, .int .i64 0, .int .i64 0, .int .i64 0, .int .i64 0] 109)).alloc (.cells #[.int .i64 0, .int .i64 0, .int .i64 0, .int .i64 0, .int .i64 0, .int .i64 0, .int .i64 0, .int .i64 0, .int .i64 0] 109)) (w.heap.size + 1 + 1) 109 #[.int .i64 0, .int .i64 0, .int .i64 0, .int .i64 0, .int .i64 0, .int .i64 0, .int .i64 0, .int .i64 0, .int .i64 0] := (Blk.newAt (by simp)).alloc
  have O0 : Blk ((((w.alloc (.cells #[.int .i64 x1, .int .i64 x2, .int .i64 x3, .int .i64 x4, .int .i64 x5, .int .i64 x6, .int .i64 x7, .int .i64 x8, .int .i64 x9] 109)).alloc (.cells #[.int .i64 2, .int .i64 1, .int .i64 0] 36)).alloc (.cells #[.int .i64 0, .int .i64 0, .int .i64 0, .int .i64 0, .int .i64 0, .int .i64 0, .int .i64 0, .int .i64 0, .int .i64 0] 109)).alloc (.cells #[.int .i64 0, .int .i64 0, .int .i64 0, .int .i64 0, .int .i64 0, .int .i64 0, .int .i64 0, .int .i64 0, .int .i64 0] 109)) (w.heap.size + 1 + 1 + 1) 109 #[.int .i64 0, .int .i64 0, .int .i64 0, .int .i64 0, .int .i64 0, .int .i64 0, .int .i64 0, .int .i64 0, .int .i64 0] := Blk.newAt (by simp)
  have S0 : Below w.heap.size w ((((w.alloc (.cells #[.int .i64 x1, .int .i64 x2, .int .i64 x3, .int .i64 x4, .int .i64 x5, .int .i64 x6, .int .i64 x7, .int .i64 x8, .int .i64 x9] 109)).alloc (.cells #[.int .i64 2, .int .i64 1, .int .i64 0] 36)).alloc (.cells #[.int .i64 0, .int .i64 0, .int .i64 0, .int .i64 0, .int .i64 0, .int .i64 0, .int .i64 0, .int .i64 0, .int .i64 0] 109)).alloc (.cells #[.int .i64 0, .int .i64 0, .int .i64 0, .int .i64 0, .int .i64 0, .int .i64 0, .int .i64 0, .int .i64 0, .int .i64 0] 109)) := pa (pa (pa (pa pr)))
  generalize ((((w.alloc (.cells #[.int .i64 x1, .int .i64 x2, .int .i64 x3, .int .i64 x4, .int .i64 x5, .int .i64 x6, .int .i64 x7, .int .i64 x8, .int .i64 x9] 109)).alloc (.cells #[.int .i64 2, .int .i64 1, .int .i64 0] 36)).alloc (.cells #[.int .i64 0, .int .i64 0, .int .i64 0, .int .i64 0, .int .i64 0, .int .i64 0, .int .i64 0, .int .i64 0, .int .i64 0] 109)).alloc (.cells #[.int .i64 0, .int .i64 0, .int .i64 0, .int .i64 0, .int .i64 0, .int .i64 0, .int .i64 0, .int .i64 0, .int .i64 0] 109)) = v0 at *
  have p0 := P0.cellAt 0 rfl; have p1 := P0.cellAt 1 rfl; have p2 := P0.cellAt 2 rfl; have pl := P0.lt; have al := A0.lt; have ol := O0.lt
  refine wp_loop_rounds 4 ?_
  rw [rounds_succ]
  go_wp2
  go_quiet (fail)
  have hb1 : Below v0.heap.size v0 (v0.drewN nq) := below_drewN' (Below.refl _ _) nq
  have A1 := A0.past hb1
  have P1 := P0.past hb1
  have R1 := R0.past hb1
  have O1 := O0.past hb1
  have S1 := pt S0 hb1
  clear hb1 A0 P0 R0 O0 S0 p0 p1 p2 pl al ol
  generalize v0.drewN nq = v1 at *
  have p0 := P1.cellAt 0 rfl; have p1 := P1.cellAt 1 rfl; have p2 := P1.cellAt 2 rfl; have pl := P1.lt; have al := A1.lt; have ol := O1.lt
  go_wp2_with (first
    | ((with_reducible refine load_sub (T := 36) (x := .tmp 33) (o := 3) (vs := #[.int .i64 x4, .int .i64 x5, .int .i64 x6]) A1 ?_ ?_ three_under ?_ ?_ ?_); (focus rfl); (focus rfl); (focus rfl); (focus exact three_size)))
  refine wp_loop_rounds 4 ?_
  rw [rounds_succ]
  go_wp2_with (first
    | ((with_reducible refine store_sub (T := 3) (x := .tmp 44) (y := .tmp 42) (o := 0) (cs' := #[.int .i64 (-x4), .int .i64 0, .int .i64 0, .int .i64 0, .int .i64 0, .int .i64 0, .int .i64 0, .int .i64 0, .int .i64 0]) (vs := #[.int .i64 (-x4)]) O1 ?_ ?_ ?_ ?_ ?_ ?_ ?_); (focus rfl); (focus rfl); (focus rfl); (focus exact Nat.le_of_ble_eq_true rfl); (focus exact int_size); (focus (simp [Value.oneCell']; done)); intro v2 O2 F2; have A2 := A1.put F2 (by omega); have P2 := P1.put F2 (by omega); have R2 := R1.put F2 (by omega); have S2 := pp S1 F2 (by omega); clear A1 P1 R1 S1 O1 p0 p1 p2 pl al ol; have p0 := P2.cellAt 0 rfl; have p1 := P2.cellAt 1 rfl; have p2 := P2.cellAt 2 rfl; have pl := P2.lt; have al := A2.lt; have ol := O2.lt))
  rw [rounds_succ]
  go_wp2_with (first
    | ((with_reducible refine store_sub (T := 3) (x := .tmp 44) (y := .tmp 42) (o := 1) (cs' := #[.int .i64 (-x4), .int .i64 (-x5), .int .i64 0, .int .i64 0, .int .i64 0, .int .i64 0, .int .i64 0, .int .i64 0, .int .i64 0]) (vs := #[.int .i64 (-x5)]) O2 ?_ ?_ ?_ ?_ ?_ ?_ ?_); (focus rfl); (focus rfl); (focus rfl); (focus exact Nat.le_of_ble_eq_true rfl); (focus exact int_size); (focus (simp [Value.oneCell']; done)); intro v3 O3 F3; have A3 := A2.put F3 (by omega); have P3 := P2.put F3 (by omega); have R3 := R2.put F3 (by omega); have S3 := pp S2 F3 (by omega); clear A2 P2 R2 S2 O2 p0 p1 p2 pl al ol; have p0 := P3.cellAt 0 rfl; have p1 := P3.cellAt 1 rfl; have p2 := P3.cellAt 2 rfl; have pl := P3.lt; have al := A3.lt; have ol := O3.lt))
  rw [rounds_succ]
  go_wp2_with (first
    | ((with_reducible refine store_sub (T := 3) (x := .tmp 44) (y := .tmp 42) (o := 2) (cs' := #[.int .i64 (-x4), .int .i64 (-x5), .int .i64 (-x6), .int .i64 0, .int .i64 0, .int .i64 0, .int .i64 0, .int .i64 0, .int .i64 0]) (vs := #[.int .i64 (-x6)]) O3 ?_ ?_ ?_ ?_ ?_ ?_ ?_); (focus rfl); (focus rfl); (focus rfl); (focus exact Nat.le_of_ble_eq_true rfl); (focus exact int_size); (focus (simp [Value.oneCell']; done)); intro v4 O4 F4; have A4 := A3.put F4 (by omega); have P4 := P3.put F4 (by omega); have R4 := R3.put F4 (by omega); have S4 := pp S3 F4 (by omega); clear A3 P3 R3 S3 O3 p0 p1 p2 pl al ol; have p0 := P4.cellAt 0 rfl; have p1 := P4.cellAt 1 rfl; have p2 := P4.cellAt 2 rfl; have pl := P4.lt; have al := A4.lt; have ol := O4.lt))
  rw [rounds_succ]
  go_wp2
  rw [rounds_succ]
  go_wp2
  go_quiet (fail)
  have hb1 : Below v4.heap.size v4 (v4.drewN nq) := below_drewN' (Below.refl _ _) nq
  have A5 := A4.past hb1
  have P5 := P4.past hb1
  have R5 := R4.past hb1
  have O5 := O4.past hb1
  have S5 := pt S4 hb1
  clear hb1 A4 P4 R4 O4 S4 p0 p1 p2 pl al ol
  generalize v4.drewN nq = v5 at *
  have p0 := P5.cellAt 0 rfl; have p1 := P5.cellAt 1 rfl; have p2 := P5.cellAt 2 rfl; have pl := P5.lt; have al := A5.lt; have ol := O5.lt
  go_wp2_with (first
    | ((with_reducible refine load_sub (T := 36) (x := .tmp 33) (o := 0) (vs := #[.int .i64 x1, .int .i64 x2, .int .i64 x3]) A5 ?_ ?_ three_under ?_ ?_ ?_); (focus rfl); (focus rfl); (focus rfl); (focus exact three_size)))
  refine wp_loop_rounds 4 ?_
  rw [rounds_succ]
  go_wp2_with (first
    | ((with_reducible refine store_sub (T := 3) (x := .tmp 44) (y := .tmp 42) (o := 3) (cs' := #[.int .i64 (-x4), .int .i64 (-x5), .int .i64 (-x6), .int .i64 (-x1), .int .i64 0, .int .i64 0, .int .i64 0, .int .i64 0, .int .i64 0]) (vs := #[.int .i64 (-x1)]) O5 ?_ ?_ ?_ ?_ ?_ ?_ ?_); (focus rfl); (focus rfl); (focus rfl); (focus exact Nat.le_of_ble_eq_true rfl); (focus exact int_size); (focus (simp [Value.oneCell']; done)); intro v6 O6 F6; have A6 := A5.put F6 (by omega); have P6 := P5.put F6 (by omega); have R6 := R5.put F6 (by omega); have S6 := pp S5 F6 (by omega); clear A5 P5 R5 S5 O5 p0 p1 p2 pl al ol; have p0 := P6.cellAt 0 rfl; have p1 := P6.cellAt 1 rfl; have p2 := P6.cellAt 2 rfl; have pl := P6.lt; have al := A6.lt; have ol := O6.lt))
  rw [rounds_succ]
  go_wp2_with (first
    | ((with_reducible refine store_sub (T := 3) (x := .tmp 44) (y := .tmp 42) (o := 4) (cs' := #[.int .i64 (-x4), .int .i64 (-x5), .int .i64 (-x6), .int .i64 (-x1), .int .i64 (-x2), .int .i64 0, .int .i64 0, .int .i64 0, .int .i64 0]) (vs := #[.int .i64 (-x2)]) O6 ?_ ?_ ?_ ?_ ?_ ?_ ?_); (focus rfl); (focus rfl); (focus rfl); (focus exact Nat.le_of_ble_eq_true rfl); (focus exact int_size); (focus (simp [Value.oneCell']; done)); intro v7 O7 F7; have A7 := A6.put F7 (by omega); have P7 := P6.put F7 (by omega); have R7 := R6.put F7 (by omega); have S7 := pp S6 F7 (by omega); clear A6 P6 R6 S6 O6 p0 p1 p2 pl al ol; have p0 := P7.cellAt 0 rfl; have p1 := P7.cellAt 1 rfl; have p2 := P7.cellAt 2 rfl; have pl := P7.lt; have al := A7.lt; have ol := O7.lt))
  rw [rounds_succ]
  go_wp2_with (first
    | ((with_reducible refine store_sub (T := 3) (x := .tmp 44) (y := .tmp 42) (o := 5) (cs' := #[.int .i64 (-x4), .int .i64 (-x5), .int .i64 (-x6), .int .i64 (-x1), .int .i64 (-x2), .int .i64 (-x3), .int .i64 0, .int .i64 0, .int .i64 0]) (vs := #[.int .i64 (-x3)]) O7 ?_ ?_ ?_ ?_ ?_ ?_ ?_); (focus rfl); (focus rfl); (focus rfl); (focus exact Nat.le_of_ble_eq_true rfl); (focus exact int_size); (focus (simp [Value.oneCell']; done)); intro v8 O8 F8; have A8 := A7.put F8 (by omega); have P8 := P7.put F8 (by omega); have R8 := R7.put F8 (by omega); have S8 := pp S7 F8 (by omega); clear A7 P7 R7 S7 O7 p0 p1 p2 pl al ol; have p0 := P8.cellAt 0 rfl; have p1 := P8.cellAt 1 rfl; have p2 := P8.cellAt 2 rfl; have pl := P8.lt; have al := A8.lt; have ol := O8.lt))
  rw [rounds_succ]
  go_wp2
  rw [rounds_succ]
  go_wp2
  go_quiet (fail)
  have hb1 : Below v8.heap.size v8 (v8.drewN nq) := below_drewN' (Below.refl _ _) nq
  have A9 := A8.past hb1
  have P9 := P8.past hb1
  have R9 := R8.past hb1
  have O9 := O8.past hb1
  have S9 := pt S8 hb1
  clear hb1 A8 P8 R8 O8 S8 p0 p1 p2 pl al ol
  generalize v8.drewN nq = v9 at *
  have p0 := P9.cellAt 0 rfl; have p1 := P9.cellAt 1 rfl; have p2 := P9.cellAt 2 rfl; have pl := P9.lt; have al := A9.lt; have ol := O9.lt
  go_wp2_with (first
    | ((with_reducible refine load_sub (T := 36) (x := .tmp 33) (o := 6) (vs := #[.int .i64 x7, .int .i64 x8, .int .i64 x9]) A9 ?_ ?_ three_under ?_ ?_ ?_); (focus rfl); (focus rfl); (focus rfl); (focus exact three_size)))
  refine wp_loop_rounds 4 ?_
  rw [rounds_succ]
  go_wp2_with (first
    | ((with_reducible refine store_sub (T := 3) (x := .tmp 44) (y := .tmp 42) (o := 6) (cs' := #[.int .i64 (-x4), .int .i64 (-x5), .int .i64 (-x6), .int .i64 (-x1), .int .i64 (-x2), .int .i64 (-x3), .int .i64 (-x7), .int .i64 0, .int .i64 0]) (vs := #[.int .i64 (-x7)]) O9 ?_ ?_ ?_ ?_ ?_ ?_ ?_); (focus rfl); (focus rfl); (focus rfl); (focus exact Nat.le_of_ble_eq_true rfl); (focus exact int_size); (focus (simp [Value.oneCell']; done)); intro v10 O10 F10; have A10 := A9.put F10 (by omega); have P10 := P9.put F10 (by omega); have R10 := R9.put F10 (by omega); have S10 := pp S9 F10 (by omega); clear A9 P9 R9 S9 O9 p0 p1 p2 pl al ol; have p0 := P10.cellAt 0 rfl; have p1 := P10.cellAt 1 rfl; have p2 := P10.cellAt 2 rfl; have pl := P10.lt; have al := A10.lt; have ol := O10.lt))
  rw [rounds_succ]
  go_wp2_with (first
    | ((with_reducible refine store_sub (T := 3) (x := .tmp 44) (y := .tmp 42) (o := 7) (cs' := #[.int .i64 (-x4), .int .i64 (-x5), .int .i64 (-x6), .int .i64 (-x1), .int .i64 (-x2), .int .i64 (-x3), .int .i64 (-x7), .int .i64 (-x8), .int .i64 0]) (vs := #[.int .i64 (-x8)]) O10 ?_ ?_ ?_ ?_ ?_ ?_ ?_); (focus rfl); (focus rfl); (focus rfl); (focus exact Nat.le_of_ble_eq_true rfl); (focus exact int_size); (focus (simp [Value.oneCell']; done)); intro v11 O11 F11; have A11 := A10.put F11 (by omega); have P11 := P10.put F11 (by omega); have R11 := R10.put F11 (by omega); have S11 := pp S10 F11 (by omega); clear A10 P10 R10 S10 O10 p0 p1 p2 pl al ol; have p0 := P11.cellAt 0 rfl; have p1 := P11.cellAt 1 rfl; have p2 := P11.cellAt 2 rfl; have pl := P11.lt; have al := A11.lt; have ol := O11.lt))
  rw [rounds_succ]
  go_wp2_with (first
    | ((with_reducible refine store_sub (T := 3) (x := .tmp 44) (y := .tmp 42) (o := 8) (cs' := #[.int .i64 (-x4), .int .i64 (-x5), .int .i64 (-x6), .int .i64 (-x1), .int .i64 (-x2), .int .i64 (-x3), .int .i64 (-x7), .int .i64 (-x8), .int .i64 (-x9)]) (vs := #[.int .i64 (-x9)]) O11 ?_ ?_ ?_ ?_ ?_ ?_ ?_); (focus rfl); (focus rfl); (focus rfl); (focus exact Nat.le_of_ble_eq_true rfl); (focus exact int_size); (focus (simp [Value.oneCell']; done)); intro v12 O12 F12; have A12 := A11.put F12 (by omega); have P12 := P11.put F12 (by omega); have R12 := R11.put F12 (by omega); have S12 := pp S11 F12 (by omega); clear A11 P11 R11 S11 O11 p0 p1 p2 pl al ol; have p0 := P12.cellAt 0 rfl; have p1 := P12.cellAt 1 rfl; have p2 := P12.cellAt 2 rfl; have pl := P12.lt; have al := A12.lt; have ol := O12.lt))
  rw [rounds_succ]
  go_wp2
  rw [rounds_succ]
  go_wp2_with (first
    | ((with_reducible refine load_blk (T := 109) (x := .tmp 5) O12 Tryd.underlying109 ?_ ?_ ?_ ?_); (focus rfl); (focus exact lines_size); (focus rfl))
    | ((with_reducible refine store_blk (T := 109) (x := .tmp 4) (y := .tmp 47) (vs := #[.int .i64 (-x4), .int .i64 (-x5), .int .i64 (-x6), .int .i64 (-x1), .int .i64 (-x2), .int .i64 (-x3), .int .i64 (-x7), .int .i64 (-x8), .int .i64 (-x9)]) R12 ?_ ?_ ?_ ?_ ?_ ?_); (focus rfl); (focus exact lines_size); (focus (simp [Value.oneCell']; done)); (focus rfl); (focus rfl); intro WF RF PF))
  have g0 := RF.cellAt 0 rfl
  have g1 := RF.cellAt 1 rfl
  have g2 := RF.cellAt 2 rfl
  have g3 := RF.cellAt 3 rfl
  have g4 := RF.cellAt 4 rfl
  have g5 := RF.cellAt 5 rfl
  have g6 := RF.cellAt 6 rfl
  have g7 := RF.cellAt 7 rfl
  have g8 := RF.cellAt 8 rfl
  exact bodyPost_ret (v := .agg #[.int .i64 (-x4), .int .i64 (-x5), .int .i64 (-x6), .int .i64 (-x1), .int .i64 (-x2), .int .i64 (-x3), .int .i64 (-x7), .int .i64 (-x8), .int .i64 (-x9)]) (by simp [results, Tryd.results77, go_sem, g0, g1, g2, g3, g4, g5, g6, g7, g8]) rfl ⟨rfl, pp S12 PF (by omega)⟩

end Go.Proofs.YtnhcamokcggnkaaDoor
