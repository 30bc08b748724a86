/- Contract of renamed lines, for each permutation; the loops are unrolled. Printed by a program (gen_renamed.py).
append onto a row of the call's own, whatever the source (nil, empty or not); rows that read as numbers. (Turned from the page of words for memory.) No condition.
A range over a function whose iterator hands over memory of its own: the round is told what holds of what it is handed (Pr) in the world in which it begins. Turned from the library's law for a range over a function, at the wide fence. No condition.
Contracts: the iterator over all permutations; whether terminals are renamed by one.
A range over a function whose round begins with a box for what is handed (turned from ARange's law): the box lies at the heap's end in which the round began. No condition.
Contract of group.isPermutation.
Contract of group.Renamed. -/
import Derived.Test.YtnhcamokcggnkaaGreatDoorHAStore
import Derived.Test.YtnhcamokcggnkaaGreatDoorG6Lines
import Derived.Test.YtnhcamokcggnkaaGreatDoorARegion
import Derived.LoopN
import Derived.Test.YtnhcamokcggnkaaGreatDoorAArith
import Derived.Maps.AppendAt
import Derived.Deep.AppendLies
import Derived.OwnWalk
import Derived.RangeFuncNested
import Derived.RangeFuncBound
import Derived.RangeFuncCalls
import Derived.RangeFuncLeaves
import Derived.Shelf.Abstract
import Derived.Shelf.RegionOpen
import Derived.OwnWalkIn
import Derived.TacticsInMore
import Derived.LoopNIn
import Derived.LoopIn
import Derived.Test.YtnhcamokcggnkaaGreatDoorG1Match
import Derived.DeepKeys
import Derived.Test.YtnhcamokcggnkaaGreatDoorGEExp

section
namespace Go.Proofs.YtnhcamokcggnkaaGreatDoor
open Go.RowKit
attribute [local go_sem ↓] Go.wp_at_zero Go.wp_at_succ
attribute [local go_sem] i3_at0 i3_at1 i3_at2

theorem three_size : (Tryz.prog.info? 68).map (·.size) = some 3 := by kernel_rfl
theorem three_under : Tryz.prog.underlying 68 = some (.array 3 3) := by kernel_rfl
theorem int_size : (Tryz.prog.info? 3).map (·.size) = some 1 := by kernel_rfl

set_option maxHeartbeats 8000000 in
set_option maxRecDepth 100000 in
theorem renamed_012 (x1 x2 x3 x4 x5 x6 x7 x8 x9 : Int) (w : World)
    (n1 : IntKind.i64.wrap (-x1) = -x1)
    (n2 : IntKind.i64.wrap (-x2) = -x2)
    (n3 : IntKind.i64.wrap (-x3) = -x3)
    (n4 : IntKind.i64.wrap (-x4) = -x4)
    (n5 : IntKind.i64.wrap (-x5) = -x5)
    (n6 : IntKind.i64.wrap (-x6) = -x6)
    (n7 : IntKind.i64.wrap (-x7) = -x7)
    (n8 : IntKind.i64.wrap (-x8) = -x8)
    (n9 : IntKind.i64.wrap (-x9) = -x9)
    : Calls Tryz.prog 85 #[.agg #[.int .i64 x1, .int .i64 x2, .int .i64 x3, .int .i64 x4, .int .i64 x5, .int .i64 x6, .int .i64 x7, .int .i64 x8, .int .i64 x9], .agg #[.int .i64 0, .int .i64 1, .int .i64 2]] w fun e w' => e = .returned (.agg #[.int .i64 x1, .int .i64 x2, .int .i64 x3, .int .i64 x4, .int .i64 x5, .int .i64 x6, .int .i64 x7, .int .i64 x8, .int .i64 x9]) ∧ Below w.heap.size w w' := by
  have z0 : IntKind.i64.wrap 0 = 0 := by decide
  have z1 : IntKind.i64.wrap 1 = 1 := by decide
  have z2 : IntKind.i64.wrap 2 = 2 := by decide
  have z3 : IntKind.i64.wrap 3 = 3 := by decide
  have z4 : IntKind.i64.wrap 4 = 4 := by decide
  go_enter Tryz.func85, Tryz.ntmps85
  go_wp2
  have A0 : Blk ((((w.alloc (.cells #[.int .i64 x1, .int .i64 x2, .int .i64 x3, .int .i64 x4, .int .i64 x5, .int .i64 x6, .int .i64 x7, .int .i64 x8, .int .i64 x9] 149)).alloc (.cells #[.int .i64 0, .int .i64 1, .int .i64 2] 68)).alloc (.cells #[.int .i64 0, .int .i64 0, .int .i64 0, .int .i64 0, .int .i64 0, .int .i64 0, .int .i64 0, .int .i64 0, .int .i64 0] 149)).alloc (.cells #[.int .i64 0, .int .i64 0, .int .i64 0, .int .i64 0, .int .i64 0, .int .i64 0, .int .i64 0, .int .i64 0, .int .i64 0] 149)) (w.heap.size) 149 #[.int .i64 x1, .int .i64 x2, .int .i64 x3, .int .i64 x4, .int .i64 x5, .int .i64 x6, .int .i64 x7, .int .i64 x8, .int .i64 x9] := (Blk.newAt rfl).alloc.alloc.alloc
  have P0 : Blk ((((w.alloc (.cells #[.int .i64 x1, .int .i64 x2, .int .i64 x3, .int .i64 x4, .int .i64 x5, .int .i64 x6, .int .i64 x7, .int .i64 x8, .int .i64 x9] 149)).alloc (.cells #[.int .i64 0, .int .i64 1, .int .i64 2] 68)).alloc (.cells #[.int .i64 0, .int .i64 0, .int .i64 0, .int .i64 0, .int .i64 0, .int .i64 0, .int .i64 0, .int .i64 0, .int .i64 0] 149)).alloc (.cells #[.int .i64 0, .int .i64 0, .int .i64 0, .int .i64 0, .int .i64 0, .int .i64 0, .int .i64 0, .int .i64 0, .int .i64 0] 149)) (w.heap.size + 1) 68 #[.int .i64 0, .int .i64 1, .int .i64 2] := (Blk.newAt (by simp)).alloc.alloc
  have R0 : Blk ((((w.alloc (.cells #[.int .i64 x1, .int .i64 x2, .int .i64 x3, .int .i64 x4, .int .i64 x5, .int .i64 x6, .int .i64 x7, .int .i64 x8, .int .i64 x9] 149)).alloc (.cells #[.int .i64 0, .int .i64 1, .int .i64 2] 68)).alloc (.cells #[.int .i64 0, .int .i64 0, .int .i64 0, .int .i64 0, .int .i64 0, .int .i64 0, .int .i64 0, .int .i64 0, .int .i64 0] 149)).alloc (.cells #[.int .i64 0, .int .i64 0, .int .i64 0, .int .i64 0, .int .i64 0, .int .i64 0, .int .i64 0, .int .i64 0, .int .i64 0] 149)) (w.heap.size + 1 + 1) 149 #[.int .i64 0, .int .i64 0, .int .i64 0, .int .i64 0, .int .i64 0, .int .i64 0, .int .i64 0, .int .i64 0, .int .i64 0] := (Blk.newAt (by simp)).alloc
  have O0 : Blk ((((w.alloc (.cells #[.int .i64 x1, .int .i64 x2, .int .i64 x3, .int .i64 x4, .int .i64 x5, .int .i64 x6, .int .i64 x7, .int .i64 x8, .int .i64 x9] 149)).alloc (.cells #[.int .i64 0, .int .i64 1, .int .i64 2] 68)).alloc (.cells #[.int .i64 0, .int .i64 0, .int .i64 0, .int .i64 0, .int .i64 0, .int .i64 0, .int .i64 0, .int .i64 0, .int .i64 0] 149)).alloc (.cells #[.int .i64 0, .int .i64 0, .int .i64 0, .int .i64 0, .int .i64 0, .int .i64 0, .int .i64 0, .int .i64 0, .int .i64 0] 149)) (w.heap.size + 1 + 1 + 1) 149 #[.int .i64 0, .int .i64 0, .int .i64 0, .int .i64 0, .int .i64 0, .int .i64 0, .int .i64 0, .int .i64 0, .int .i64 0] := Blk.newAt (by simp)
  have S0 : Below w.heap.size w ((((w.alloc (.cells #[.int .i64 x1, .int .i64 x2, .int .i64 x3, .int .i64 x4, .int .i64 x5, .int .i64 x6, .int .i64 x7, .int .i64 x8, .int .i64 x9] 149)).alloc (.cells #[.int .i64 0, .int .i64 1, .int .i64 2] 68)).alloc (.cells #[.int .i64 0, .int .i64 0, .int .i64 0, .int .i64 0, .int .i64 0, .int .i64 0, .int .i64 0, .int .i64 0, .int .i64 0] 149)).alloc (.cells #[.int .i64 0, .int .i64 0, .int .i64 0, .int .i64 0, .int .i64 0, .int .i64 0, .int .i64 0, .int .i64 0, .int .i64 0] 149)) := pa (pa (pa (pa pr)))
  generalize ((((w.alloc (.cells #[.int .i64 x1, .int .i64 x2, .int .i64 x3, .int .i64 x4, .int .i64 x5, .int .i64 x6, .int .i64 x7, .int .i64 x8, .int .i64 x9] 149)).alloc (.cells #[.int .i64 0, .int .i64 1, .int .i64 2] 68)).alloc (.cells #[.int .i64 0, .int .i64 0, .int .i64 0, .int .i64 0, .int .i64 0, .int .i64 0, .int .i64 0, .int .i64 0, .int .i64 0] 149)).alloc (.cells #[.int .i64 0, .int .i64 0, .int .i64 0, .int .i64 0, .int .i64 0, .int .i64 0, .int .i64 0, .int .i64 0, .int .i64 0] 149)) = v0 at *
  have p0 := P0.cellAt 0 rfl; have p1 := P0.cellAt 1 rfl; have p2 := P0.cellAt 2 rfl; have pl := P0.lt; have al := A0.lt; have ol := O0.lt
  refine wp_loop_rounds 4 ?_
  rw [rounds_succ]
  go_wp2
  go_quiet (fail)
  have hb1 : Below v0.heap.size v0 (v0.drewN nq) := below_drewN' (Below.refl _ _) nq
  have A1 := A0.past hb1
  have P1 := P0.past hb1
  have R1 := R0.past hb1
  have O1 := O0.past hb1
  have S1 := pt S0 hb1
  clear hb1 A0 P0 R0 O0 S0 p0 p1 p2 pl al ol
  generalize v0.drewN nq = v1 at *
  have p0 := P1.cellAt 0 rfl; have p1 := P1.cellAt 1 rfl; have p2 := P1.cellAt 2 rfl; have pl := P1.lt; have al := A1.lt; have ol := O1.lt
  go_wp2_with (first
    | ((with_reducible refine load_sub (T := 68) (x := .tmp 29) (o := 0) (vs := #[.int .i64 x1, .int .i64 x2, .int .i64 x3]) A1 ?_ ?_ three_under ?_ ?_ ?_); (focus rfl); (focus rfl); (focus rfl); (focus exact three_size))
    | ((with_reducible refine store_sub (T := 68) (x := .tmp 31) (y := .tmp 30) (o := 0) (cs' := #[.int .i64 x1, .int .i64 x2, .int .i64 x3, .int .i64 0, .int .i64 0, .int .i64 0, .int .i64 0, .int .i64 0, .int .i64 0]) (vs := #[.int .i64 x1, .int .i64 x2, .int .i64 x3]) O1 ?_ ?_ ?_ ?_ ?_ ?_ ?_); (focus rfl); (focus rfl); (focus rfl); (focus exact Nat.le_of_ble_eq_true rfl); (focus exact three_size); (focus (simp [Value.oneCell']; done)); intro v2 O2 F2; have A2 := A1.put F2 (by omega); have P2 := P1.put F2 (by omega); have R2 := R1.put F2 (by omega); have S2 := pp S1 F2 (by omega); clear A1 P1 R1 S1 O1 p0 p1 p2 pl al ol; have p0 := P2.cellAt 0 rfl; have p1 := P2.cellAt 1 rfl; have p2 := P2.cellAt 2 rfl; have pl := P2.lt; have al := A2.lt; have ol := O2.lt))
  rw [rounds_succ]
  go_wp2
  go_quiet (fail)
  have hb1 : Below v2.heap.size v2 (v2.drewN nq) := below_drewN' (Below.refl _ _) nq
  have A3 := A2.past hb1
  have P3 := P2.past hb1
  have R3 := R2.past hb1
  have O3 := O2.past hb1
  have S3 := pt S2 hb1
  clear hb1 A2 P2 R2 O2 S2 p0 p1 p2 pl al ol
  generalize v2.drewN nq = v3 at *
  have p0 := P3.cellAt 0 rfl; have p1 := P3.cellAt 1 rfl; have p2 := P3.cellAt 2 rfl; have pl := P3.lt; have al := A3.lt; have ol := O3.lt
  go_wp2_with (first
    | ((with_reducible refine load_sub (T := 68) (x := .tmp 29) (o := 3) (vs := #[.int .i64 x4, .int .i64 x5, .int .i64 x6]) A3 ?_ ?_ three_under ?_ ?_ ?_); (focus rfl); (focus rfl); (focus rfl); (focus exact three_size))
    | ((with_reducible refine store_sub (T := 68) (x := .tmp 31) (y := .tmp 30) (o := 3) (cs' := #[.int .i64 x1, .int .i64 x2, .int .i64 x3, .int .i64 x4, .int .i64 x5, .int .i64 x6, .int .i64 0, .int .i64 0, .int .i64 0]) (vs := #[.int .i64 x4, .int .i64 x5, .int .i64 x6]) O3 ?_ ?_ ?_ ?_ ?_ ?_ ?_); (focus rfl); (focus rfl); (focus rfl); (focus exact Nat.le_of_ble_eq_true rfl); (focus exact three_size); (focus (simp [Value.oneCell']; done)); intro v4 O4 F4; have A4 := A3.put F4 (by omega); have P4 := P3.put F4 (by omega); have R4 := R3.put F4 (by omega); have S4 := pp S3 F4 (by omega); clear A3 P3 R3 S3 O3 p0 p1 p2 pl al ol; have p0 := P4.cellAt 0 rfl; have p1 := P4.cellAt 1 rfl; have p2 := P4.cellAt 2 rfl; have pl := P4.lt; have al := A4.lt; have ol := O4.lt))
  rw [rounds_succ]
  go_wp2
  go_quiet (fail)
  have hb1 : Below v4.heap.size v4 (v4.drewN nq) := below_drewN' (Below.refl _ _) nq
  have A5 := A4.past hb1
  have P5 := P4.past hb1
  have R5 := R4.past hb1
  have O5 := O4.past hb1
  have S5 := pt S4 hb1
  clear hb1 A4 P4 R4 O4 S4 p0 p1 p2 pl al ol
  generalize v4.drewN nq = v5 at *
  have p0 := P5.cellAt 0 rfl; have p1 := P5.cellAt 1 rfl; have p2 := P5.cellAt 2 rfl; have pl := P5.lt; have al := A5.lt; have ol := O5.lt
  go_wp2_with (first
    | ((with_reducible refine load_sub (T := 68) (x := .tmp 29) (o := 6) (vs := #[.int .i64 x7, .int .i64 x8, .int .i64 x9]) A5 ?_ ?_ three_under ?_ ?_ ?_); (focus rfl); (focus rfl); (focus rfl); (focus exact three_size))
    | ((with_reducible refine store_sub (T := 68) (x := .tmp 31) (y := .tmp 30) (o := 6) (cs' := #[.int .i64 x1, .int .i64 x2, .int .i64 x3, .int .i64 x4, .int .i64 x5, .int .i64 x6, .int .i64 x7, .int .i64 x8, .int .i64 x9]) (vs := #[.int .i64 x7, .int .i64 x8, .int .i64 x9]) O5 ?_ ?_ ?_ ?_ ?_ ?_ ?_); (focus rfl); (focus rfl); (focus rfl); (focus exact Nat.le_of_ble_eq_true rfl); (focus exact three_size); (focus (simp [Value.oneCell']; done)); intro v6 O6 F6; have A6 := A5.put F6 (by omega); have P6 := P5.put F6 (by omega); have R6 := R5.put F6 (by omega); have S6 := pp S5 F6 (by omega); clear A5 P5 R5 S5 O5 p0 p1 p2 pl al ol; have p0 := P6.cellAt 0 rfl; have p1 := P6.cellAt 1 rfl; have p2 := P6.cellAt 2 rfl; have pl := P6.lt; have al := A6.lt; have ol := O6.lt))
  rw [rounds_succ]
  go_wp2_with (first
    | ((with_reducible refine load_blk (T := 149) (x := .tmp 5) O6 Tryz.underlying149 ?_ ?_ ?_ ?_); (focus rfl); (focus exact lines_size); (focus rfl))
    | ((with_reducible refine store_blk (T := 149) (x := .tmp 4) (y := .tmp 47) (vs := #[.int .i64 x1, .int .i64 x2, .int .i64 x3, .int .i64 x4, .int .i64 x5, .int .i64 x6, .int .i64 x7, .int .i64 x8, .int .i64 x9]) R6 ?_ ?_ ?_ ?_ ?_ ?_); (focus rfl); (focus exact lines_size); (focus (simp [Value.oneCell']; done)); (focus rfl); (focus rfl); intro WF RF PF))
  have g0 := RF.cellAt 0 rfl
  have g1 := RF.cellAt 1 rfl
  have g2 := RF.cellAt 2 rfl
  have g3 := RF.cellAt 3 rfl
  have g4 := RF.cellAt 4 rfl
  have g5 := RF.cellAt 5 rfl
  have g6 := RF.cellAt 6 rfl
  have g7 := RF.cellAt 7 rfl
  have g8 := RF.cellAt 8 rfl
  exact bodyPost_ret (v := .agg #[.int .i64 x1, .int .i64 x2, .int .i64 x3, .int .i64 x4, .int .i64 x5, .int .i64 x6, .int .i64 x7, .int .i64 x8, .int .i64 x9]) (by simp [results, Tryz.results85, go_sem, g0, g1, g2, g3, g4, g5, g6, g7, g8]) rfl ⟨rfl, pp S6 PF (by omega)⟩

set_option maxHeartbeats 8000000 in
set_option maxRecDepth 100000 in
theorem renamed_021 (x1 x2 x3 x4 x5 x6 x7 x8 x9 : Int) (w : World)
    (n1 : IntKind.i64.wrap (-x1) = -x1)
    (n2 : IntKind.i64.wrap (-x2) = -x2)
    (n3 : IntKind.i64.wrap (-x3) = -x3)
    (n4 : IntKind.i64.wrap (-x4) = -x4)
    (n5 : IntKind.i64.wrap (-x5) = -x5)
    (n6 : IntKind.i64.wrap (-x6) = -x6)
    (n7 : IntKind.i64.wrap (-x7) = -x7)
    (n8 : IntKind.i64.wrap (-x8) = -x8)
    (n9 : IntKind.i64.wrap (-x9) = -x9)
    : Calls Tryz.prog 85 #[.agg #[.int .i64 x1, .int .i64 x2, .int .i64 x3, .int .i64 x4, .int .i64 x5, .int .i64 x6, .int .i64 x7, .int .i64 x8, .int .i64 x9], .agg #[.int .i64 0, .int .i64 2, .int .i64 1]] w fun e w' => e = .returned (.agg #[.int .i64 (-x7), .int .i64 (-x8), .int .i64 (-x9), .int .i64 (-x4), .int .i64 (-x5), .int .i64 (-x6), .int .i64 (-x1), .int .i64 (-x2), .int .i64 (-x3)]) ∧ Below w.heap.size w w' := by
  have z0 : IntKind.i64.wrap 0 = 0 := by decide
  have z1 : IntKind.i64.wrap 1 = 1 := by decide
  have z2 : IntKind.i64.wrap 2 = 2 := by decide
  have z3 : IntKind.i64.wrap 3 = 3 := by decide
  have z4 : IntKind.i64.wrap 4 = 4 := by decide
  go_enter Tryz.func85, Tryz.ntmps85
  go_wp2
  have A0 : Blk ((((w.alloc (.cells #[.int .i64 x1, .int .i64 x2, .int .i64 x3, .int .i64 x4, .int .i64 x5, .int .i64 x6, .int .i64 x7, .int .i64 x8, .int .i64 x9] 149)).alloc (.cells #[.int .i64 0, .int .i64 2, .int .i64 1] 68)).alloc (.cells #[.int .i64 0, .int .i64 0, .int .i64 0, .int .i64 0, .int .i64 0, .int .i64 0, .int .i64 0, .int .i64 0, .int .i64 0] 149)).alloc (.cells #[.int .i64 0, .int .i64 0, .int .i64 0, .int .i64 0, .int .i64 0, .int .i64 0, .int .i64 0, .int .i64 0, .int .i64 0] 149)) (w.heap.size) 149 #[.int .i64 x1, .int .i64 x2, .int .i64 x3, .int .i64 x4, .int .i64 x5, .int .i64 x6, .int .i64 x7, .int .i64 x8, .int .i64 x9] := (Blk.newAt rfl).alloc.alloc.alloc
  have P0 : Blk ((((w.alloc (.cells #[.int .i64 x1, .int .i64 x2, .int .i64 x3, .int .i64 x4, .int .i64 x5, .int .i64 x6, .int .i64 x7, .int .i64 x8, .int .i64 x9] 149)).alloc (.cells #[.int .i64 0, .int .i64 2, .int .i64 1] 68)).alloc (.cells #[.int .i64 0, .int .i64 0, .int .i64 0, .int .i64 0, .int .i64 0, .int .i64 0, .int .i64 0, .int .i64 0, .int .i64 0] 149)).alloc (.cells #[.int .i64 0, .int .i64 0, .int .i64 0, .int .i64 0, .int .i64 0, .int .i64 0, .int .i64 0, .int .i64 0, .int .i64 0] 149)) (w.heap.size + 1) 68 #[.int .i64 0, .int .i64 2, .int .i64 1] := (Blk.newAt (by simp)).alloc.alloc
  have R0 : Blk ((((w.alloc (.cells #[.int .i64 x1, .int .i64 x2, .int .i64 x3, .int .i64 x4, .int .i64 x5, .int .i64 x6, .int .i64 x7, .int .i64 x8, .int .i64 x9] 149)).alloc (.cells #[.int .i64 0, .int .i64 2, .int .i64 1] 68)).alloc (.cells #[.int .i64 0, .int .i64 0, .int .i64 0, .int .i64 0, .int .i64 0, .int .i64 0, .int .i64 0, .int .i64 0, .int .i64 0] 149)).alloc (.cells #[.int .i64 0, .int .i64 0, .int .i64 0, .int .i64 0, .int .i64 0, .int .i64 0, .int .i64 0, .int .i64 0, .int .i64 0] 149)) (w.heap.size + 1 + 1) 149 #[.int .i64 0, .int .i64 0, .int .i64 0, .int .i64 0, .int .i64 0, .int .i64 0, .int .i64 0, .int .i64 0, .int .i64 0] := (Blk.newAt (by simp)).alloc
  have O0 : Blk ((((w.alloc (.cells #[.int .i64 x1, .int .i64 x2, .int .i64 x3, .int .i64 x4, .int .i64 x5, .int .i64 x6, .int .i64 x7, .int .i64 x8, .int .i64 x9] 149)).alloc (.cells #[.int .i64 0, .int .i64 2, .int .i64 1] 68)).alloc (.cells #[.int .i64 0, .int .i64 0, .int .i64 0, .int .i64 0, .int .i64 0, .int .i64 0, .int .i64 0, .int .i64 0, .int .i64 0] 149)).alloc (.cells #[.int .i64 0, .int .i64 0, .int .i64 0, .int .i64 0, .int .i64 0, .int .i64 0, .int .i64 0, .int .i64 0, .int .i64 0] 149)) (w.heap.size + 1 + 1 + 1) 149 #[.int .i64 0, .int .i64 0, .int .i64 0, .int .i64 0, .int .i64 0, .int .i64 0, .int .i64 0, .int .i64 0, .int .i64 0] := Blk.newAt (by simp)
  have S0 : Below w.heap.size w ((((w.alloc (.cells #[.int .i64 x1, .int .i64 x2, .int .i64 x3, .int .i64 x4, .int .i64 x5, .int .i64 x6, .int .i64 x7, .int .i64 x8, .int .i64 x9] 149)).alloc (.cells #[.int .i64 0, .int .i64 2, .int .i64 1] 68)).alloc (.cells #[.int .i64 0, .int .i64 0, .int .i64 0, .int .i64 0, .int .i64 0, .int .i64 0, .int .i64 0, .int .i64 0, .int .i64 0] 149)).alloc (.cells #[.int .i64 0, .int .i64 0, .int .i64 0, .int .i64 0, .int .i64 0, .int .i64 0, .int .i64 0, .int .i64 0, .int .i64 0] 149)) := pa (pa (pa (pa pr)))
  generalize ((((w.alloc (.cells #[.int .i64 x1, .int .i64 x2, .int .i64 x3, .int .i64 x4, .int .i64 x5, .int .i64 x6, .int .i64 x7, .int .i64 x8, .int .i64 x9] 149)).alloc (.cells #[.int .i64 0, .int .i64 2, .int .i64 1] 68)).alloc (.cells #[.int .i64 0, .int .i64 0, .int .i64 0, .int .i64 0, .int .i64 0, .int .i64 0, .int .i64 0, .int .i64 0, .int .i64 0] 149)).alloc (.cells #[.int .i64 0, .int .i64 0, .int .i64 0, .int .i64 0, .int .i64 0, .int .i64 0, .int .i64 0, .int .i64 0, .int .i64 0] 149)) = v0 at *
  have p0 := P0.cellAt 0 rfl; have p1 := P0.cellAt 1 rfl; have p2 := P0.cellAt 2 rfl; have pl := P0.lt; have al := A0.lt; have ol := O0.lt
  refine wp_loop_rounds 4 ?_
  rw [rounds_succ]
  go_wp2
  go_quiet (fail)
  have hb1 : Below v0.heap.size v0 (v0.drewN nq) := below_drewN' (Below.refl _ _) nq
  have A1 := A0.past hb1
  have P1 := P0.past hb1
  have R1 := R0.past hb1
  have O1 := O0.past hb1
  have S1 := pt S0 hb1
  clear hb1 A0 P0 R0 O0 S0 p0 p1 p2 pl al ol
  generalize v0.drewN nq = v1 at *
  have p0 := P1.cellAt 0 rfl; have p1 := P1.cellAt 1 rfl; have p2 := P1.cellAt 2 rfl; have pl := P1.lt; have al := A1.lt; have ol := O1.lt
  go_wp2_with (first
    | ((with_reducible refine load_sub (T := 68) (x := .tmp 33) (o := 6) (vs := #[.int .i64 x7, .int .i64 x8, .int .i64 x9]) A1 ?_ ?_ three_under ?_ ?_ ?_); (focus rfl); (focus rfl); (focus rfl); (focus exact three_size)))
  refine wp_loop_rounds 4 ?_
  rw [rounds_succ]
  go_wp2_with (first
    | ((with_reducible refine store_sub (T := 3) (x := .tmp 44) (y := .tmp 42) (o := 0) (cs' := #[.int .i64 (-x7), .int .i64 0, .int .i64 0, .int .i64 0, .int .i64 0, .int .i64 0, .int .i64 0, .int .i64 0, .int .i64 0]) (vs := #[.int .i64 (-x7)]) O1 ?_ ?_ ?_ ?_ ?_ ?_ ?_); (focus rfl); (focus rfl); (focus rfl); (focus exact Nat.le_of_ble_eq_true rfl); (focus exact int_size); (focus (simp [Value.oneCell']; done)); intro v2 O2 F2; have A2 := A1.put F2 (by omega); have P2 := P1.put F2 (by omega); have R2 := R1.put F2 (by omega); have S2 := pp S1 F2 (by omega); clear A1 P1 R1 S1 O1 p0 p1 p2 pl al ol; have p0 := P2.cellAt 0 rfl; have p1 := P2.cellAt 1 rfl; have p2 := P2.cellAt 2 rfl; have pl := P2.lt; have al := A2.lt; have ol := O2.lt))
  rw [rounds_succ]
  go_wp2_with (first
    | ((with_reducible refine store_sub (T := 3) (x := .tmp 44) (y := .tmp 42) (o := 1) (cs' := #[.int .i64 (-x7), .int .i64 (-x8), .int .i64 0, .int .i64 0, .int .i64 0, .int .i64 0, .int .i64 0, .int .i64 0, .int .i64 0]) (vs := #[.int .i64 (-x8)]) O2 ?_ ?_ ?_ ?_ ?_ ?_ ?_); (focus rfl); (focus rfl); (focus rfl); (focus exact Nat.le_of_ble_eq_true rfl); (focus exact int_size); (focus (simp [Value.oneCell']; done)); intro v3 O3 F3; have A3 := A2.put F3 (by omega); have P3 := P2.put F3 (by omega); have R3 := R2.put F3 (by omega); have S3 := pp S2 F3 (by omega); clear A2 P2 R2 S2 O2 p0 p1 p2 pl al ol; have p0 := P3.cellAt 0 rfl; have p1 := P3.cellAt 1 rfl; have p2 := P3.cellAt 2 rfl; have pl := P3.lt; have al := A3.lt; have ol := O3.lt))
  rw [rounds_succ]
  go_wp2_with (first
    | ((with_reducible refine store_sub (T := 3) (x := .tmp 44) (y := .tmp 42) (o := 2) (cs' := #[.int .i64 (-x7), .int .i64 (-x8), .int .i64 (-x9), .int .i64 0, .int .i64 0, .int .i64 0, .int .i64 0, .int .i64 0, .int .i64 0]) (vs := #[.int .i64 (-x9)]) O3 ?_ ?_ ?_ ?_ ?_ ?_ ?_); (focus rfl); (focus rfl); (focus rfl); (focus exact Nat.le_of_ble_eq_true rfl); (focus exact int_size); (focus (simp [Value.oneCell']; done)); intro v4 O4 F4; have A4 := A3.put F4 (by omega); have P4 := P3.put F4 (by omega); have R4 := R3.put F4 (by omega); have S4 := pp S3 F4 (by omega); clear A3 P3 R3 S3 O3 p0 p1 p2 pl al ol; have p0 := P4.cellAt 0 rfl; have p1 := P4.cellAt 1 rfl; have p2 := P4.cellAt 2 rfl; have pl := P4.lt; have al := A4.lt; have ol := O4.lt))
  rw [rounds_succ]
  go_wp2
  rw [rounds_succ]
  go_wp2
  go_quiet (fail)
  have hb1 : Below v4.heap.size v4 (v4.drewN nq) := below_drewN' (Below.refl _ _) nq
  have A5 := A4.past hb1
  have P5 := P4.past hb1
  have R5 := R4.past hb1
  have O5 := O4.past hb1
  have S5 := pt S4 hb1
  clear hb1 A4 P4 R4 O4 S4 p0 p1 p2 pl al ol
  generalize v4.drewN nq = v5 at *
  have p0 := P5.cellAt 0 rfl; have p1 := P5.cellAt 1 rfl; have p2 := P5.cellAt 2 rfl; have pl := P5.lt; have al := A5.lt; have ol := O5.lt
  go_wp2_with (first
    | ((with_reducible refine load_sub (T := 68) (x := .tmp 33) (o := 3) (vs := #[.int .i64 x4, .int .i64 x5, .int .i64 x6]) A5 ?_ ?_ three_under ?_ ?_ ?_); (focus rfl); (focus rfl); (focus rfl); (focus exact three_size)))
  refine wp_loop_rounds 4 ?_
  rw [rounds_succ]
  go_wp2_with (first
    | ((with_reducible refine store_sub (T := 3) (x := .tmp 44) (y := .tmp 42) (o := 3) (cs' := #[.int .i64 (-x7), .int .i64 (-x8), .int .i64 (-x9), .int .i64 (-x4), .int .i64 0, .int .i64 0, .int .i64 0, .int .i64 0, .int .i64 0]) (vs := #[.int .i64 (-x4)]) O5 ?_ ?_ ?_ ?_ ?_ ?_ ?_); (focus rfl); (focus rfl); (focus rfl); (focus exact Nat.le_of_ble_eq_true rfl); (focus exact int_size); (focus (simp [Value.oneCell']; done)); intro v6 O6 F6; have A6 := A5.put F6 (by omega); have P6 := P5.put F6 (by omega); have R6 := R5.put F6 (by omega); have S6 := pp S5 F6 (by omega); clear A5 P5 R5 S5 O5 p0 p1 p2 pl al ol; have p0 := P6.cellAt 0 rfl; have p1 := P6.cellAt 1 rfl; have p2 := P6.cellAt 2 rfl; have pl := P6.lt; have al := A6.lt; have ol := O6.lt))
  rw [rounds_succ]
  go_wp2_with (first
    | ((with_reducible refine store_sub (T := 3) (x := .tmp 44) (y := .tmp 42) (o := 4) (cs' := #[.int .i64 (-x7), .int .i64 (-x8), .int .i64 (-x9), .int .i64 (-x4), .int .i64 (-x5), .int .i64 0, .int .i64 0, .int .i64 0, .int .i64 0]) (vs := #[.int .i64 (-x5)]) O6 ?_ ?_ ?_ ?_ ?_ ?_ ?_); (focus rfl); (focus rfl); (focus rfl); (focus exact Nat.le_of_ble_eq_true rfl); (focus exact int_size); (focus (simp [Value.oneCell']; done)); intro v7 O7 F7; have A7 := A6.put F7 (by omega); have P7 := P6.put F7 (by omega); have R7 := R6.put F7 (by omega); have S7 := pp S6 F7 (by omega); clear A6 P6 R6 S6 O6 p0 p1 p2 pl al ol; have p0 := P7.cellAt 0 rfl; have p1 := P7.cellAt 1 rfl; have p2 := P7.cellAt 2 rfl; have pl := P7.lt; have al := A7.lt; have ol := O7.lt))
  rw [rounds_succ]
  go_wp2_with (first
    | ((with_reducible refine store_sub (T := 3) (x := .tmp 44) (y := .tmp 42) (o := 5) (cs' := #[.int .i64 (-x7), .int .i64 (-x8), .int .i64 (-x9), .int .i64 (-x4), .int .i64 (-x5), .int .i64 (-x6), .int .i64 0, .int .i64 0, .int .i64 0]) (vs := #[.int .i64 (-x6)]) O7 ?_ ?_ ?_ ?_ ?_ ?_ ?_); (focus rfl); (focus rfl); (focus rfl); (focus exact Nat.le_of_ble_eq_true rfl); (focus exact int_size); (focus (simp [Value.oneCell']; done)); intro v8 O8 F8; have A8 := A7.put F8 (by omega); have P8 := P7.put F8 (by omega); have R8 := R7.put F8 (by omega); have S8 := pp S7 F8 (by omega); clear A7 P7 R7 S7 O7 p0 p1 p2 pl al ol; have p0 := P8.cellAt 0 rfl; have p1 := P8.cellAt 1 rfl; have p2 := P8.cellAt 2 rfl; have pl := P8.lt; have al := A8.lt; have ol := O8.lt))
  rw [rounds_succ]
  go_wp2
  rw [rounds_succ]
  go_wp2
  go_quiet (fail)
  have hb1 : Below v8.heap.size v8 (v8.drewN nq) := below_drewN' (Below.refl _ _) nq
  have A9 := A8.past hb1
  have P9 := P8.past hb1
  have R9 := R8.past hb1
  have O9 := O8.past hb1
  have S9 := pt S8 hb1
  clear hb1 A8 P8 R8 O8 S8 p0 p1 p2 pl al ol
  generalize v8.drewN nq = v9 at *
  have p0 := P9.cellAt 0 rfl; have p1 := P9.cellAt 1 rfl; have p2 := P9.cellAt 2 rfl; have pl := P9.lt; have al := A9.lt; have ol := O9.lt
  go_wp2_with (first
    | ((with_reducible refine load_sub (T := 68) (x := .tmp 33) (o := 0) (vs := #[.int .i64 x1, .int .i64 x2, .int .i64 x3]) A9 ?_ ?_ three_under ?_ ?_ ?_); (focus rfl); (focus rfl); (focus rfl); (focus exact three_size)))
  refine wp_loop_rounds 4 ?_
  rw [rounds_succ]
  go_wp2_with (first
    | ((with_reducible refine store_sub (T := 3) (x := .tmp 44) (y := .tmp 42) (o := 6) (cs' := #[.int .i64 (-x7), .int .i64 (-x8), .int .i64 (-x9), .int .i64 (-x4), .int .i64 (-x5), .int .i64 (-x6), .int .i64 (-x1), .int .i64 0, .int .i64 0]) (vs := #[.int .i64 (-x1)]) O9 ?_ ?_ ?_ ?_ ?_ ?_ ?_); (focus rfl); (focus rfl); (focus rfl); (focus exact Nat.le_of_ble_eq_true rfl); (focus exact int_size); (focus (simp [Value.oneCell']; done)); intro v10 O10 F10; have A10 := A9.put F10 (by omega); have P10 := P9.put F10 (by omega); have R10 := R9.put F10 (by omega); have S10 := pp S9 F10 (by omega); clear A9 P9 R9 S9 O9 p0 p1 p2 pl al ol; have p0 := P10.cellAt 0 rfl; have p1 := P10.cellAt 1 rfl; have p2 := P10.cellAt 2 rfl; have pl := P10.lt; have al := A10.lt; have ol := O10.lt))
  rw [rounds_succ]
  go_wp2_with (first
    | ((with_reducible refine store_sub (T := 3) (x := .tmp 44) (y := .tmp 42) (o := 7) (cs' := #[.int .i64 (-x7), .int .i64 (-x8), .int .i64 (-x9), .int .i64 (-x4), .int .i64 (-x5), .int .i64 (-x6), .int .i64 (-x1), .int .i64 (-x2), .int .i64 0]) (vs := #[.int .i64 (-x2)]) O10 ?_ ?_ ?_ ?_ ?_ ?_ ?_); (focus rfl); (focus rfl); (focus rfl); (focus exact Nat.le_of_ble_eq_true rfl); (focus exact int_size); (focus (simp [Value.oneCell']; done)); intro v11 O11 F11; have A11 := A10.put F11 (by omega); have P11 := P10.put F11 (by omega); have R11 := R10.put F11 (by omega); have S11 := pp S10 F11 (by omega); clear A10 P10 R10 S10 O10 p0 p1 p2 pl al ol; have p0 := P11.cellAt 0 rfl; have p1 := P11.cellAt 1 rfl; have p2 := P11.cellAt 2 rfl; have pl := P11.lt; have al := A11.lt; have ol := O11.lt))
  rw [rounds_succ]
  go_wp2_with (first
    | ((with_reducible refine store_sub (T := 3) (x := .tmp 44) (y := .tmp 42) (o := 8) (cs' := #[.int .i64 (-x7), .int .i64 (-x8), .int .i64 (-x9), .int .i64 (-x4), .int .i64 (-x5), .int .i64 (-x6), .int .i64 (-x1), .int .i64 (-x2), .int .i64 (-x3)]) (vs := #[.int .i64 (-x3)]) O11 ?_ ?_ ?_ ?_ ?_ ?_ ?_); (focus rfl); (focus rfl); (focus rfl); (focus exact Nat.le_of_ble_eq_true rfl); (focus exact int_size); (focus (simp [Value.oneCell']; done)); intro v12 O12 F12; have A12 := A11.put F12 (by omega); have P12 := P11.put F12 (by omega); have R12 := R11.put F12 (by omega); have S12 := pp S11 F12 (by omega); clear A11 P11 R11 S11 O11 p0 p1 p2 pl al ol; have p0 := P12.cellAt 0 rfl; have p1 := P12.cellAt 1 rfl; have p2 := P12.cellAt 2 rfl; have pl := P12.lt; have al := A12.lt; have ol := O12.lt))
  rw [rounds_succ]
  go_wp2
  rw [rounds_succ]
  go_wp2_with (first
    | ((with_reducible refine load_blk (T := 149) (x := .tmp 5) O12 Tryz.underlying149 ?_ ?_ ?_ ?_); (focus rfl); (focus exact lines_size); (focus rfl))
    | ((with_reducible refine store_blk (T := 149) (x := .tmp 4) (y := .tmp 47) (vs := #[.int .i64 (-x7), .int .i64 (-x8), .int .i64 (-x9), .int .i64 (-x4), .int .i64 (-x5), .int .i64 (-x6), .int .i64 (-x1), .int .i64 (-x2), .int .i64 (-x3)]) R12 ?_ ?_ ?_ ?_ ?_ ?_); (focus rfl); (focus exact lines_size); (focus (simp [Value.oneCell']; done)); (focus rfl); (focus rfl); intro WF RF PF))
  have g0 := RF.cellAt 0 rfl
  have g1 := RF.cellAt 1 rfl
  have g2 := RF.cellAt 2 rfl
  have g3 := RF.cellAt 3 rfl
  have g4 := RF.cellAt 4 rfl
  have g5 := RF.cellAt 5 rfl
  have g6 := RF.cellAt 6 rfl
  have g7 := RF.cellAt 7 rfl
  have g8 := RF.cellAt 8 rfl
  exact bodyPost_ret (v := .agg #[.int .i64 (-x7), .int .i64 (-x8), .int .i64 (-x9), .int .i64 (-x4), .int .i64 (-x5), .int .i64 (-x6), .int .i64 (-x1), .int .i64 (-x2), .int .i64 (-x3)]) (by simp [results, Tryz.results85, go_sem, g0, g1, g2, g3, g4, g5, g6, g7, g8]) rfl ⟨rfl, pp S12 PF (by omega)⟩

set_option maxHeartbeats 8000000 in
set_option maxRecDepth 100000 in
theorem renamed_102 (x1 x2 x3 x4 x5 x6 x7 x8 x9 : Int) (w : World)
    (n1 : IntKind.i64.wrap (-x1) = -x1)
    (n2 : IntKind.i64.wrap (-x2) = -x2)
    (n3 : IntKind.i64.wrap (-x3) = -x3)
    (n4 : IntKind.i64.wrap (-x4) = -x4)
    (n5 : IntKind.i64.wrap (-x5) = -x5)
    (n6 : IntKind.i64.wrap (-x6) = -x6)
    (n7 : IntKind.i64.wrap (-x7) = -x7)
    (n8 : IntKind.i64.wrap (-x8) = -x8)
    (n9 : IntKind.i64.wrap (-x9) = -x9)
    : Calls Tryz.prog 85 #[.agg #[.int .i64 x1, .int .i64 x2, .int .i64 x3, .int .i64 x4, .int .i64 x5, .int .i64 x6, .int .i64 x7, .int .i64 x8, .int .i64 x9], .agg #[.int .i64 1, .int .i64 0, .int .i64 2]] w fun e w' => e = .returned (.agg #[.int .i64 (-x1), .int .i64 (-x2), .int .i64 (-x3), .int .i64 (-x7), .int .i64 (-x8), .int .i64 (-x9), .int .i64 (-x4), .int .i64 (-x5), .int .i64 (-x6)]) ∧ Below w.heap.size w w' := by
  have z0 : IntKind.i64.wrap 0 = 0 := by decide
  have z1 : IntKind.i64.wrap 1 = 1 := by decide
  have z2 : IntKind.i64.wrap 2 = 2 := by decide
  have z3 : IntKind.i64.wrap 3 = 3 := by decide
  have z4 : IntKind.i64.wrap 4 = 4 := by decide
  go_enter Tryz.func85, Tryz.ntmps85
  go_wp2
  have A0 : Blk ((((w.alloc (.cells #[.int .i64 x1, .int .i64 x2, .int .i64 x3, .int .i64 x4, .int .i64 x5, .int .i64 x6, .int .i64 x7, .int .i64 x8, .int .i64 x9] 149)).alloc (.cells #[.int .i64 1, .int .i64 0, .int .i64 2] 68)).alloc (.cells #[.int .i64 0, .int .i64 0, .int .i64 0, .int .i64 0, .int .i64 0, .int .i64 0, .int .i64 0, .int .i64 0, .int .i64 0] 149)).alloc (.cells #[.int .i64 0, .int .i64 0, .int .i64 0, .int .i64 0, .int .i64 0, .int .i64 0, .int .i64 0, .int .i64 0, .int .i64 0] 149)) (w.heap.size) 149 #[.int .i64 x1, .int .i64 x2, .int .i64 x3, .int .i64 x4, .int .i64 x5, .int .i64 x6, .int .i64 x7, .int .i64 x8, .int .i64 x9] := (Blk.newAt rfl).alloc.alloc.alloc
  have P0 : Blk ((((w.alloc (.cells #[.int .i64 x1, .int .i64 x2, .int .i64 x3, .int .i64 x4, .int .i64 x5, .int .i64 x6, .int .i64 x7, .int .i64 x8, .int .i64 x9] 149)).alloc (.cells #[.int .i64 1, .int .i64 0, .int .i64 2] 68)).alloc (.cells #[.int .i64 0, .int .i64 0, .int .i64 0, .int .i64 0, .int .i64 0, .int .i64 0, .int .i64 0, .int .i64 0, .int .i64 0] 149)).alloc (.cells #[.int .i64 0, .int .i64 0, .int .i64 0, .int .i64 0, .int .i64 0, .int .i64 0, .int .i64 0, .int .i64 0, .int .i64 0] 149)) (w.heap.size + 1) 68 #[.int .i64 1, .int .i64 0, .int .i64 2] := (Blk.newAt (by simp)).alloc.alloc
  have R0 : Blk ((((w.alloc (.cells #[.int .i64 x1, .int .i64 x2, .int .i64 x3, .int .i64 x4, .int .i64 x5, .int .i64 x6, .int .i64 x7, .int .i64 x8, .int .i64 x9] 149)).alloc (.cells #[.int .i64 1, .int .i64 0, .int .i64 2] 68)).alloc (.cells #[.int .i64 0, .int .i64 0, .int .i64 0, .int .i64 0, .int .i64 0, .int .i64 0, .int .i64 0, .int .i64 0, .int .i64 0] 149)).alloc (.cells #[.int .i64 0, .int .i64 0, .int .i64 0, .int .i64 0, .int .i64 0, .int .i64 0, .int .i64 0, .int .i64 0, .int .i64 0] 149)) (w.heap.size + 1 + 1) 149 #[.int .i64 0, .int .i64 0, .int .i64 0, .int .i64 0, .int .i64 0, .int .i64 0, .int .i64 0, .int .i64 0, .int .i64 0] := (Blk.newAt (by simp)).alloc
  have O0 : Blk ((((w.alloc (.cells #[.int .i64 x1, .int .i64 x2, .int .i64 x3, .int .i64 x4, .int .i64 x5, .int .i64 x6, .int .i64 x7, .int .i64 x8, .int .i64 x9] 149)).alloc (.cells #[.int .i64 1, .int .i64 0, .int .i64 2] 68)).alloc (.cells #[.int .i64 0, .int .i64 0, .int .i64 0, .int .i64 0, .int .i64 0, .int .i64 0, .int .i64 0, .int .i64 0, .int .i64 0] 149)).alloc (.cells #[.int .i64 0, .int .i64 0, .int .i64 0, .int .i64 0, .int .i64 0, .int .i64 0, .int .i64 0, .int .i64 0, .int .i64 0] 149)) (w.heap.size + 1 + 1 + 1) 149 #[.int .i64 0, .int .i64 0, .int .i64 0, .int .i64 0, .int .i64 0, .int .i64 0, .int .i64 0, .int .i64 0, .int .i64 0] := Blk.newAt (by simp)
  have S0 : Below w.heap.size w ((((w.alloc (.cells #[.int .i64 x1, .int .i64 x2, .int .i64 x3, .int .i64 x4, .int .i64 x5, .int .i64 x6, .int .i64 x7, .int .i64 x8, .int .i64 x9] 149)).alloc (.cells #[.int .i64 1, .int .i64 0, .int .i64 2] 68)).alloc (.cells #[.int .i64 0, .int .i64 0, .int .i64 0, .int .i64 0, .int .i64 0, .int .i64 0, .int .i64 0, .int .i64 0, .int .i64 0] 149)).alloc (.cells #[.int .i64 0, .int .i64 0, .int .i64 0, .int .i64 0, .int .i64 0, .int .i64 0, .int .i64 0, .int .i64 0, .int .i64 0] 149)) := pa (pa (pa (pa pr)))
  generalize ((((w.alloc (.cells #[.int .i64 x1, .int .i64 x2, .int .i64 x3, .int .i64 x4, .int .i64 x5, .int .i64 x6, .int .i64 x7, .int .i64 x8, .int .i64 x9] 149)).alloc (.cells #[.int .i64 1, .int .i64 0, .int .i64 2] 68)).alloc (.cells #[.int .i64 0, .int .i64 0, .int .i64 0, .int .i64 0, .int .i64 0, .int .i64 0, .int .i64 0, .int .i64 0, .int .i64 0] 149)).alloc (.cells #[.int .i64 0, .int .i64 0, .int .i64 0, .int .i64 0, .int .i64 0, .int .i64 0, .int .i64 0, .int .i64 0, .int .i64 0] 149)) = v0 at *
  have p0 := P0.cellAt 0 rfl; have p1 := P0.cellAt 1 rfl; have p2 := P0.cellAt 2 rfl; have pl := P0.lt; have al := A0.lt; have ol := O0.lt
  refine wp_loop_rounds 4 ?_
  rw [rounds_succ]
  go_wp2
  go_quiet (fail)
  have hb1 : Below v0.heap.size v0 (v0.drewN nq) := below_drewN' (Below.refl _ _) nq
  have A1 := A0.past hb1
  have P1 := P0.past hb1
  have R1 := R0.past hb1
  have O1 := O0.past hb1
  have S1 := pt S0 hb1
  clear hb1 A0 P0 R0 O0 S0 p0 p1 p2 pl al ol
  generalize v0.drewN nq = v1 at *
  have p0 := P1.cellAt 0 rfl; have p1 := P1.cellAt 1 rfl; have p2 := P1.cellAt 2 rfl; have pl := P1.lt; have al := A1.lt; have ol := O1.lt
  go_wp2_with (first
    | ((with_reducible refine load_sub (T := 68) (x := .tmp 33) (o := 0) (vs := #[.int .i64 x1, .int .i64 x2, .int .i64 x3]) A1 ?_ ?_ three_under ?_ ?_ ?_); (focus rfl); (focus rfl); (focus rfl); (focus exact three_size)))
  refine wp_loop_rounds 4 ?_
  rw [rounds_succ]
  go_wp2_with (first
    | ((with_reducible refine store_sub (T := 3) (x := .tmp 44) (y := .tmp 42) (o := 0) (cs' := #[.int .i64 (-x1), .int .i64 0, .int .i64 0, .int .i64 0, .int .i64 0, .int .i64 0, .int .i64 0, .int .i64 0, .int .i64 0]) (vs := #[.int .i64 (-x1)]) O1 ?_ ?_ ?_ ?_ ?_ ?_ ?_); (focus rfl); (focus rfl); (focus rfl); (focus exact Nat.le_of_ble_eq_true rfl); (focus exact int_size); (focus (simp [Value.oneCell']; done)); intro v2 O2 F2; have A2 := A1.put F2 (by omega); have P2 := P1.put F2 (by omega); have R2 := R1.put F2 (by omega); have S2 := pp S1 F2 (by omega); clear A1 P1 R1 S1 O1 p0 p1 p2 pl al ol; have p0 := P2.cellAt 0 rfl; have p1 := P2.cellAt 1 rfl; have p2 := P2.cellAt 2 rfl; have pl := P2.lt; have al := A2.lt; have ol := O2.lt))
  rw [rounds_succ]
  go_wp2_with (first
    | ((with_reducible refine store_sub (T := 3) (x := .tmp 44) (y := .tmp 42) (o := 1) (cs' := #[.int .i64 (-x1), .int .i64 (-x2), .int .i64 0, .int .i64 0, .int .i64 0, .int .i64 0, .int .i64 0, .int .i64 0, .int .i64 0]) (vs := #[.int .i64 (-x2)]) O2 ?_ ?_ ?_ ?_ ?_ ?_ ?_); (focus rfl); (focus rfl); (focus rfl); (focus exact Nat.le_of_ble_eq_true rfl); (focus exact int_size); (focus (simp [Value.oneCell']; done)); intro v3 O3 F3; have A3 := A2.put F3 (by omega); have P3 := P2.put F3 (by omega); have R3 := R2.put F3 (by omega); have S3 := pp S2 F3 (by omega); clear A2 P2 R2 S2 O2 p0 p1 p2 pl al ol; have p0 := P3.cellAt 0 rfl; have p1 := P3.cellAt 1 rfl; have p2 := P3.cellAt 2 rfl; have pl := P3.lt; have al := A3.lt; have ol := O3.lt))
  rw [rounds_succ]
  go_wp2_with (first
    | ((with_reducible refine store_sub (T := 3) (x := .tmp 44) (y := .tmp 42) (o := 2) (cs' := #[.int .i64 (-x1), .int .i64 (-x2), .int .i64 (-x3), .int .i64 0, .int .i64 0, .int .i64 0, .int .i64 0, .int .i64 0, .int .i64 0]) (vs := #[.int .i64 (-x3)]) O3 ?_ ?_ ?_ ?_ ?_ ?_ ?_); (focus rfl); (focus rfl); (focus rfl); (focus exact Nat.le_of_ble_eq_true rfl); (focus exact int_size); (focus (simp [Value.oneCell']; done)); intro v4 O4 F4; have A4 := A3.put F4 (by omega); have P4 := P3.put F4 (by omega); have R4 := R3.put F4 (by omega); have S4 := pp S3 F4 (by omega); clear A3 P3 R3 S3 O3 p0 p1 p2 pl al ol; have p0 := P4.cellAt 0 rfl; have p1 := P4.cellAt 1 rfl; have p2 := P4.cellAt 2 rfl; have pl := P4.lt; have al := A4.lt; have ol := O4.lt))
  rw [rounds_succ]
  go_wp2
  rw [rounds_succ]
  go_wp2
  go_quiet (fail)
  have hb1 : Below v4.heap.size v4 (v4.drewN nq) := below_drewN' (Below.refl _ _) nq
  have A5 := A4.past hb1
  have P5 := P4.past hb1
  have R5 := R4.past hb1
  have O5 := O4.past hb1
  have S5 := pt S4 hb1
  clear hb1 A4 P4 R4 O4 S4 p0 p1 p2 pl al ol
  generalize v4.drewN nq = v5 at *
  have p0 := P5.cellAt 0 rfl; have p1 := P5.cellAt 1 rfl; have p2 := P5.cellAt 2 rfl; have pl := P5.lt; have al := A5.lt; have ol := O5.lt
  go_wp2_with (first
    | ((with_reducible refine load_sub (T := 68) (x := .tmp 33) (o := 6) (vs := #[.int .i64 x7, .int .i64 x8, .int .i64 x9]) A5 ?_ ?_ three_under ?_ ?_ ?_); (focus rfl); (focus rfl); (focus rfl); (focus exact three_size)))
  refine wp_loop_rounds 4 ?_
  rw [rounds_succ]
  go_wp2_with (first
    | ((with_reducible refine store_sub (T := 3) (x := .tmp 44) (y := .tmp 42) (o := 3) (cs' := #[.int .i64 (-x1), .int .i64 (-x2), .int .i64 (-x3), .int .i64 (-x7), .int .i64 0, .int .i64 0, .int .i64 0, .int .i64 0, .int .i64 0]) (vs := #[.int .i64 (-x7)]) O5 ?_ ?_ ?_ ?_ ?_ ?_ ?_); (focus rfl); (focus rfl); (focus rfl); (focus exact Nat.le_of_ble_eq_true rfl); (focus exact int_size); (focus (simp [Value.oneCell']; done)); intro v6 O6 F6; have A6 := A5.put F6 (by omega); have P6 := P5.put F6 (by omega); have R6 := R5.put F6 (by omega); have S6 := pp S5 F6 (by omega); clear A5 P5 R5 S5 O5 p0 p1 p2 pl al ol; have p0 := P6.cellAt 0 rfl; have p1 := P6.cellAt 1 rfl; have p2 := P6.cellAt 2 rfl; have pl := P6.lt; have al := A6.lt; have ol := O6.lt))
  rw [rounds_succ]
  go_wp2_with (first
    | ((with_reducible refine store_sub (T := 3) (x := .tmp 44) (y := .tmp 42) (o := 4) (cs' := #[.int .i64 (-x1), .int .i64 (-x2), .int .i64 (-x3), .int .i64 (-x7), .int .i64 (-x8), .int .i64 0, .int .i64 0, .int .i64 0, .int .i64 0]) (vs := #[.int .i64 (-x8)]) O6 ?_ ?_ ?_ ?_ ?_ ?_ ?_); (focus rfl); (focus rfl); (focus rfl); (focus exact Nat.le_of_ble_eq_true rfl); (focus exact int_size); (focus (simp [Value.oneCell']; done)); intro v7 O7 F7; have A7 := A6.put F7 (by omega); have P7 := P6.put F7 (by omega); have R7 := R6.put F7 (by omega); have S7 := pp S6 F7 (by omega); clear A6 P6 R6 S6 O6 p0 p1 p2 pl al ol; have p0 := P7.cellAt 0 rfl; have p1 := P7.cellAt 1 rfl; have p2 := P7.cellAt 2 rfl; have pl := P7.lt; have al := A7.lt; have ol := O7.lt))
  rw [rounds_succ]
  go_wp2_with (first
    | ((with_reducible refine store_sub (T := 3) (x := .tmp 44) (y := .tmp 42) (o := 5) (cs' := #[.int .i64 (-x1), .int .i64 (-x2), .int .i64 (-x3), .int .i64 (-x7), .int .i64 (-x8), .int .i64 (-x9), .int .i64 0, .int .i64 0, .int .i64 0]) (vs := #[.int .i64 (-x9)]) O7 ?_ ?_ ?_ ?_ ?_ ?_ ?_); (focus rfl); (focus rfl); (focus rfl); (focus exact Nat.le_of_ble_eq_true rfl); (focus exact int_size); (focus (simp [Value.oneCell']; done)); intro v8 O8 F8; have A8 := A7.put F8 (by omega); have P8 := P7.put F8 (by omega); have R8 := R7.put F8 (by omega); have S8 := pp S7 F8 (by omega); clear A7 P7 R7 S7 O7 p0 p1 p2 pl al ol; have p0 := P8.cellAt 0 rfl; have p1 := P8.cellAt 1 rfl; have p2 := P8.cellAt 2 rfl; have pl := P8.lt; have al := A8.lt; have ol := O8.lt))
  rw [rounds_succ]
  go_wp2
  rw [rounds_succ]
  go_wp2
  go_quiet (fail)
  have hb1 : Below v8.heap.size v8 (v8.drewN nq) := below_drewN' (Below.refl _ _) nq
  have A9 := A8.past hb1
  have P9 := P8.past hb1
  have R9 := R8.past hb1
  have O9 := O8.past hb1
  have S9 := pt S8 hb1
  clear hb1 A8 P8 R8 O8 S8 p0 p1 p2 pl al ol
  generalize v8.drewN nq = v9 at *
  have p0 := P9.cellAt 0 rfl; have p1 := P9.cellAt 1 rfl; have p2 := P9.cellAt 2 rfl; have pl := P9.lt; have al := A9.lt; have ol := O9.lt
  go_wp2_with (first
    | ((with_reducible refine load_sub (T := 68) (x := .tmp 33) (o := 3) (vs := #[.int .i64 x4, .int .i64 x5, .int .i64 x6]) A9 ?_ ?_ three_under ?_ ?_ ?_); (focus rfl); (focus rfl); (focus rfl); (focus exact three_size)))
  refine wp_loop_rounds 4 ?_
  rw [rounds_succ]
  go_wp2_with (first
    | ((with_reducible refine store_sub (T := 3) (x := .tmp 44) (y := .tmp 42) (o := 6) (cs' := #[.int .i64 (-x1), .int .i64 (-x2), .int .i64 (-x3), .int .i64 (-x7), .int .i64 (-x8), .int .i64 (-x9), .int .i64 (-x4), .int .i64 0, .int .i64 0]) (vs := #[.int .i64 (-x4)]) O9 ?_ ?_ ?_ ?_ ?_ ?_ ?_); (focus rfl); (focus rfl); (focus rfl); (focus exact Nat.le_of_ble_eq_true rfl); (focus exact int_size); (focus (simp [Value.oneCell']; done)); intro v10 O10 F10; have A10 := A9.put F10 (by omega); have P10 := P9.put F10 (by omega); have R10 := R9.put F10 (by omega); have S10 := pp S9 F10 (by omega); clear A9 P9 R9 S9 O9 p0 p1 p2 pl al ol; have p0 := P10.cellAt 0 rfl; have p1 := P10.cellAt 1 rfl; have p2 := P10.cellAt 2 rfl; have pl := P10.lt; have al := A10.lt; have ol := O10.lt))
  rw [rounds_succ]
  go_wp2_with (first
    | ((with_reducible refine store_sub (T := 3) (x := .tmp 44) (y := .tmp 42) (o := 7) (cs' := #[.int .i64 (-x1), .int .i64 (-x2), .int .i64 (-x3), .int .i64 (-x7), .int .i64 (-x8), .int .i64 (-x9), .int .i64 (-x4), .int .i64 (-x5), .int .i64 0]) (vs := #[.int .i64 (-x5)]) O10 ?_ ?_ ?_ ?_ ?_ ?_ ?_); (focus rfl); (focus rfl); (focus rfl); (focus exact Nat.le_of_ble_eq_true rfl); (focus exact int_size); (focus (simp [Value.oneCell']; done)); intro v11 O11 F11; have A11 := A10.put F11 (by omega); have P11 := P10.put F11 (by omega); have R11 := R10.put F11 (by omega); have S11 := pp S10 F11 (by omega); clear A10 P10 R10 S10 O10 p0 p1 p2 pl al ol; have p0 := P11.cellAt 0 rfl; have p1 := P11.cellAt 1 rfl; have p2 := P11.cellAt 2 rfl; have pl := P11.lt; have al := A11.lt; have ol := O11.lt))
  rw [rounds_succ]
  go_wp2_with (first
    | ((with_reducible refine store_sub (T := 3) (x := .tmp 44) (y := .tmp 42) (o := 8) (cs' := #[.int .i64 (-x1), .int .i64 (-x2), .int .i64 (-x3), .int .i64 (-x7), .int .i64 (-x8), .int .i64 (-x9), .int .i64 (-x4), .int .i64 (-x5), .int .i64 (-x6)]) (vs := #[.int .i64 (-x6)]) O11 ?_ ?_ ?_ ?_ ?_ ?_ ?_); (focus rfl); (focus rfl); (focus rfl); (focus exact Nat.le_of_ble_eq_true rfl); (focus exact int_size); (focus (simp [Value.oneCell']; done)); intro v12 O12 F12; have A12 := A11.put F12 (by omega); have P12 := P11.put F12 (by omega); have R12 := R11.put F12 (by omega); have S12 := pp S11 F12 (by omega); clear A11 P11 R11 S11 O11 p0 p1 p2 pl al ol; have p0 := P12.cellAt 0 rfl; have p1 := P12.cellAt 1 rfl; have p2 := P12.cellAt 2 rfl; have pl := P12.lt; have al := A12.lt; have ol := O12.lt))
  rw [rounds_succ]
  go_wp2
  rw [rounds_succ]
  go_wp2_with (first
    | ((with_reducible refine load_blk (T := 149) (x := .tmp 5) O12 Tryz.underlying149 ?_ ?_ ?_ ?_); (focus rfl); (focus exact lines_size); (focus rfl))
    | ((with_reducible refine store_blk (T := 149) (x := .tmp 4) (y := .tmp 47) (vs := #[.int .i64 (-x1), .int .i64 (-x2), .int .i64 (-x3), .int .i64 (-x7), .int .i64 (-x8), .int .i64 (-x9), .int .i64 (-x4), .int .i64 (-x5), .int .i64 (-x6)]) R12 ?_ ?_ ?_ ?_ ?_ ?_); (focus rfl); (focus exact lines_size); (focus (simp [Value.oneCell']; done)); (focus rfl); (focus rfl); intro WF RF PF))
  have g0 := RF.cellAt 0 rfl
  have g1 := RF.cellAt 1 rfl
  have g2 := RF.cellAt 2 rfl
  have g3 := RF.cellAt 3 rfl
  have g4 := RF.cellAt 4 rfl
  have g5 := RF.cellAt 5 rfl
  have g6 := RF.cellAt 6 rfl
  have g7 := RF.cellAt 7 rfl
  have g8 := RF.cellAt 8 rfl
  exact bodyPost_ret (v := .agg #[.int .i64 (-x1), .int .i64 (-x2), .int .i64 (-x3), .int .i64 (-x7), .int .i64 (-x8), .int .i64 (-x9), .int .i64 (-x4), .int .i64 (-x5), .int .i64 (-x6)]) (by simp [results, Tryz.results85, go_sem, g0, g1, g2, g3, g4, g5, g6, g7, g8]) rfl ⟨rfl, pp S12 PF (by omega)⟩

set_option maxHeartbeats 8000000 in
set_option maxRecDepth 100000 in
theorem renamed_120 (x1 x2 x3 x4 x5 x6 x7 x8 x9 : Int) (w : World)
    (n1 : IntKind.i64.wrap (-x1) = -x1)
    (n2 : IntKind.i64.wrap (-x2) = -x2)
    (n3 : IntKind.i64.wrap (-x3) = -x3)
    (n4 : IntKind.i64.wrap (-x4) = -x4)
    (n5 : IntKind.i64.wrap (-x5) = -x5)
    (n6 : IntKind.i64.wrap (-x6) = -x6)
    (n7 : IntKind.i64.wrap (-x7) = -x7)
    (n8 : IntKind.i64.wrap (-x8) = -x8)
    (n9 : IntKind.i64.wrap (-x9) = -x9)
    : Calls Tryz.prog 85 #[.agg #[.int .i64 x1, .int .i64 x2, .int .i64 x3, .int .i64 x4, .int .i64 x5, .int .i64 x6, .int .i64 x7, .int .i64 x8, .int .i64 x9], .agg #[.int .i64 1, .int .i64 2, .int .i64 0]] w fun e w' => e = .returned (.agg #[.int .i64 x4, .int .i64 x5, .int .i64 x6, .int .i64 x7, .int .i64 x8, .int .i64 x9, .int .i64 x1, .int .i64 x2, .int .i64 x3]) ∧ Below w.heap.size w w' := by
  have z0 : IntKind.i64.wrap 0 = 0 := by decide
  have z1 : IntKind.i64.wrap 1 = 1 := by decide
  have z2 : IntKind.i64.wrap 2 = 2 := by decide
  have z3 : IntKind.i64.wrap 3 = 3 := by decide
  have z4 : IntKind.i64.wrap 4 = 4 := by decide
  go_enter Tryz.func85, Tryz.ntmps85
  go_wp2
  have A0 : Blk ((((w.alloc (.cells #[.int .i64 x1, .int .i64 x2, .int .i64 x3, .int .i64 x4, .int .i64 x5, .int .i64 x6, .int .i64 x7, .int .i64 x8, .int .i64 x9] 149)).alloc (.cells #[.int .i64 1, .int .i64 2, .int .i64 0] 68)).alloc (.cells #[.int .i64 0, .int .i64 0, .int .i64 0, .int .i64 0, .int .i64 0, .int .i64 0, .int .i64 0, .int .i64 0, .int .i64 0] 149)).alloc (.cells #[.int .i64 0, .int .i64 0, .int .i64 0, .int .i64 0, .int .i64 0, .int .i64 0, .int .i64 0, .int .i64 0, .int .i64 0] 149)) (w.heap.size) 149 #[.int .i64 x1, .int .i64 x2, .int .i64 x3, .int .i64 x4, .int .i64 x5, .int .i64 x6, .int .i64 x7, .int .i64 x8, .int .i64 x9] := (Blk.newAt rfl).alloc.alloc.alloc
  have P0 : Blk ((((w.alloc (.cells #[.int .i64 x1, .int .i64 x2, .int .i64 x3, .int .i64 x4, .int .i64 x5, .int .i64 x6, .int .i64 x7, .int .i64 x8, .int .i64 x9] 149)).alloc (.cells #[.int .i64 1, .int .i64 2, .int .i64 0] 68)).alloc (.cells #[.int .i64 0, .int .i64 0, .int .i64 0, .int .i64 0, .int .i64 0, .int .i64 0, .int .i64 0, .int .i64 0, .int .i64 0] 149)).alloc (.cells #[.int .i64 0, .int .i64 0, .int .i64 0, .int .i64 0, .int .i64 0, .int .i64 0, .int .i64 0, .int .i64 0, .int .i64 0] 149)) (w.heap.size + 1) 68 #[.int .i64 1, .int .i64 2, .int .i64 0] := (Blk.newAt (by simp)).alloc.alloc
  have R0 : Blk ((((w.alloc (.cells #[.int .i64 x1, .int .i64 x2, .int .i64 x3, .int .i64 x4, .int .i64 x5, .int .i64 x6, .int .i64 x7, .int .i64 x8, .int .i64 x9] 149)).alloc (.cells #[.int .i64 1, .int .i64 2, .int .i64 0] 68)).alloc (.cells #[.int .i64 0, .int .i64 0, .int .i64 0, .int .i64 0, .int .i64 0, .int .i64 0, .int .i64 0, .int .i64 0, .int .i64 0] 149)).alloc (.cells #[.int .i64 0, .int .i64 0, .int .i64 0, .int .i64 0, .int .i64 0, .int .i64 0, .int .i64 0, .int .i64 0, .int .i64 0] 149)) (w.heap.size + 1 + 1) 149 #[.int .i64 0, .int .i64 0, .int .i64 0, .int .i64 0, .int .i64 0, .int .i64 0, .int .i64 0, .int .i64 0, .int .i64 0] := (Blk.newAt (by simp)).alloc
  have O0 : Blk ((((w.alloc (.cells #[.int .i64 x1, .int .i64 x2, .int .i64 x3, .int .i64 x4, .int .i64 x5, .int .i64 x6, .int .i64 x7, .int .i64 x8, .int .i64 x9] 149)).alloc (.cells #[.int .i64 1, .int .i64 2, .int .i64 0] 68)).alloc (.cells #[.int .i64 0, .int .i64 0, .int .i64 0, .int .i64 0, .int .i64 0, .int .i64 0, .int .i64 0, .int .i64 0, .int .i64 0] 149)).alloc (.cells #[.int .i64 0, .int .i64 0, .int .i64 0, .int .i64 0, .int .i64 0, .int .i64 0, .int .i64 0, .int .i64 0, .int .i64 0] 149)) (w.heap.size + 1 + 1 + 1) 149 #[.int .i64 0, .int .i64 0, .int .i64 0, .int .i64 0, .int .i64 0, .int .i64 0, .int .i64 0, .int .i64 0, .int .i64 0] := Blk.newAt (by simp)
  have S0 : Below w.heap.size w ((((w.alloc (.cells #[.int .i64 x1, .int .i64 x2, .int .i64 x3, .int .i64 x4, .int .i64 x5, .int .i64 x6, .int .i64 x7, .int .i64 x8, .int .i64 x9] 149)).alloc (.cells #[.int .i64 1, .int .i64 2, .int .i64 0] 68)).alloc (.cells #[.int .i64 0, .int .i64 0, .int .i64 0, .int .i64 0, .int .i64 0, .int .i64 0, .int .i64 0, .int .i64 0, .int .i64 0] 149)).alloc (.cells #[.int .i64 0, .int .i64 0, .int .i64 0, .int .i64 0, .int .i64 0, .int .i64 0, .int .i64 0, .int .i64 0, .int .i64 0] 149)) := pa (pa (pa (pa pr)))
  generalize ((((w.alloc (.cells #[.int .i64 x1, .int .i64 x2, .int .i64 x3, .int .i64 x4, .int .i64 x5, .int .i64 x6, .int .i64 x7, .int .i64 x8, .int .i64 x9] 149)).alloc (.cells #[.int .i64 1, .int .i64 2, .int .i64 0] 68)).alloc (.cells #[.int .i64 0, .int .i64 0, .int .i64 0, .int .i64 0, .int .i64 0, .int .i64 0, .int .i64 0, .int .i64 0, .int .i64 0] 149)).alloc (.cells #[.int .i64 0, .int .i64 0, .int .i64 0, .int .i64 0, .int .i64 0, .int .i64 0, .int .i64 0, .int .i64 0, .int .i64 0] 149)) = v0 at *
  have p0 := P0.cellAt 0 rfl; have p1 := P0.cellAt 1 rfl; have p2 := P0.cellAt 2 rfl; have pl := P0.lt; have al := A0.lt; have ol := O0.lt
  refine wp_loop_rounds 4 ?_
  rw [rounds_succ]
  go_wp2
  go_quiet (fail)
  have hb1 : Below v0.heap.size v0 (v0.drewN nq) := below_drewN' (Below.refl _ _) nq
  have A1 := A0.past hb1
  have P1 := P0.past hb1
  have R1 := R0.past hb1
  have O1 := O0.past hb1
  have S1 := pt S0 hb1
  clear hb1 A0 P0 R0 O0 S0 p0 p1 p2 pl al ol
  generalize v0.drewN nq = v1 at *
  have p0 := P1.cellAt 0 rfl; have p1 := P1.cellAt 1 rfl; have p2 := P1.cellAt 2 rfl; have pl := P1.lt; have al := A1.lt; have ol := O1.lt
  go_wp2_with (first
    | ((with_reducible refine load_sub (T := 68) (x := .tmp 29) (o := 3) (vs := #[.int .i64 x4, .int .i64 x5, .int .i64 x6]) A1 ?_ ?_ three_under ?_ ?_ ?_); (focus rfl); (focus rfl); (focus rfl); (focus exact three_size))
    | ((with_reducible refine store_sub (T := 68) (x := .tmp 31) (y := .tmp 30) (o := 0) (cs' := #[.int .i64 x4, .int .i64 x5, .int .i64 x6, .int .i64 0, .int .i64 0, .int .i64 0, .int .i64 0, .int .i64 0, .int .i64 0]) (vs := #[.int .i64 x4, .int .i64 x5, .int .i64 x6]) O1 ?_ ?_ ?_ ?_ ?_ ?_ ?_); (focus rfl); (focus rfl); (focus rfl); (focus exact Nat.le_of_ble_eq_true rfl); (focus exact three_size); (focus (simp [Value.oneCell']; done)); intro v2 O2 F2; have A2 := A1.put F2 (by omega); have P2 := P1.put F2 (by omega); have R2 := R1.put F2 (by omega); have S2 := pp S1 F2 (by omega); clear A1 P1 R1 S1 O1 p0 p1 p2 pl al ol; have p0 := P2.cellAt 0 rfl; have p1 := P2.cellAt 1 rfl; have p2 := P2.cellAt 2 rfl; have pl := P2.lt; have al := A2.lt; have ol := O2.lt))
  rw [rounds_succ]
  go_wp2
  go_quiet (fail)
  have hb1 : Below v2.heap.size v2 (v2.drewN nq) := below_drewN' (Below.refl _ _) nq
  have A3 := A2.past hb1
  have P3 := P2.past hb1
  have R3 := R2.past hb1
  have O3 := O2.past hb1
  have S3 := pt S2 hb1
  clear hb1 A2 P2 R2 O2 S2 p0 p1 p2 pl al ol
  generalize v2.drewN nq = v3 at *
  have p0 := P3.cellAt 0 rfl; have p1 := P3.cellAt 1 rfl; have p2 := P3.cellAt 2 rfl; have pl := P3.lt; have al := A3.lt; have ol := O3.lt
  go_wp2_with (first
    | ((with_reducible refine load_sub (T := 68) (x := .tmp 29) (o := 6) (vs := #[.int .i64 x7, .int .i64 x8, .int .i64 x9]) A3 ?_ ?_ three_under ?_ ?_ ?_); (focus rfl); (focus rfl); (focus rfl); (focus exact three_size))
    | ((with_reducible refine store_sub (T := 68) (x := .tmp 31) (y := .tmp 30) (o := 3) (cs' := #[.int .i64 x4, .int .i64 x5, .int .i64 x6, .int .i64 x7, .int .i64 x8, .int .i64 x9, .int .i64 0, .int .i64 0, .int .i64 0]) (vs := #[.int .i64 x7, .int .i64 x8, .int .i64 x9]) O3 ?_ ?_ ?_ ?_ ?_ ?_ ?_); (focus rfl); (focus rfl); (focus rfl); (focus exact Nat.le_of_ble_eq_true rfl); (focus exact three_size); (focus (simp [Value.oneCell']; done)); intro v4 O4 F4; have A4 := A3.put F4 (by omega); have P4 := P3.put F4 (by omega); have R4 := R3.put F4 (by omega); have S4 := pp S3 F4 (by omega); clear A3 P3 R3 S3 O3 p0 p1 p2 pl al ol; have p0 := P4.cellAt 0 rfl; have p1 := P4.cellAt 1 rfl; have p2 := P4.cellAt 2 rfl; have pl := P4.lt; have al := A4.lt; have ol := O4.lt))
  rw [rounds_succ]
  go_wp2
  go_quiet (fail)
  have hb1 : Below v4.heap.size v4 (v4.drewN nq) := below_drewN' (Below.refl _ _) nq
  have A5 := A4.past hb1
  have P5 := P4.past hb1
  have R5 := R4.past hb1
  have O5 := O4.past hb1
  have S5 := pt S4 hb1
  clear hb1 A4 P4 R4 O4 S4 p0 p1 p2 pl al ol
  generalize v4.drewN nq = v5 at *
  have p0 := P5.cellAt 0 rfl; have p1 := P5.cellAt 1 rfl; have p2 := P5.cellAt 2 rfl; have pl := P5.lt; have al := A5.lt; have ol := O5.lt
  go_wp2_with (first
    | ((with_reducible refine load_sub (T := 68) (x := .tmp 29) (o := 0) (vs := #[.int .i64 x1, .int .i64 x2, .int .i64 x3]) A5 ?_ ?_ three_under ?_ ?_ ?_); (focus rfl); (focus rfl); (focus rfl); (focus exact three_size))
    | ((with_reducible refine store_sub (T := 68) (x := .tmp 31) (y := .tmp 30) (o := 6) (cs' := #[.int .i64 x4, .int .i64 x5, .int .i64 x6, .int .i64 x7, .int .i64 x8, .int .i64 x9, .int .i64 x1, .int .i64 x2, .int .i64 x3]) (vs := #[.int .i64 x1, .int .i64 x2, .int .i64 x3]) O5 ?_ ?_ ?_ ?_ ?_ ?_ ?_); (focus rfl); (focus rfl); (focus rfl); (focus exact Nat.le_of_ble_eq_true rfl); (focus exact three_size); (focus (simp [Value.oneCell']; done)); intro v6 O6 F6; have A6 := A5.put F6 (by omega); have P6 := P5.put F6 (by omega); have R6 := R5.put F6 (by omega); have S6 := pp S5 F6 (by omega); clear A5 P5 R5 S5 O5 p0 p1 p2 pl al ol; have p0 := P6.cellAt 0 rfl; have p1 := P6.cellAt 1 rfl; have p2 := P6.cellAt 2 rfl; have pl := P6.lt; have al := A6.lt; have ol := O6.lt))
  rw [rounds_succ]
  go_wp2_with (first
    | ((with_reducible refine load_blk (T := 149) (x := .tmp 5) O6 Tryz.underlying149 ?_ ?_ ?_ ?_); (focus rfl); (focus exact lines_size); (focus rfl))
    | ((with_reducible refine store_blk (T := 149) (x := .tmp 4) (y := .tmp 47) (vs := #[.int .i64 x4, .int .i64 x5, .int .i64 x6, .int .i64 x7, .int .i64 x8, .int .i64 x9, .int .i64 x1, .int .i64 x2, .int .i64 x3]) R6 ?_ ?_ ?_ ?_ ?_ ?_); (focus rfl); (focus exact lines_size); (focus (simp [Value.oneCell']; done)); (focus rfl); (focus rfl); intro WF RF PF))
  have g0 := RF.cellAt 0 rfl
  have g1 := RF.cellAt 1 rfl
  have g2 := RF.cellAt 2 rfl
  have g3 := RF.cellAt 3 rfl
  have g4 := RF.cellAt 4 rfl
  have g5 := RF.cellAt 5 rfl
  have g6 := RF.cellAt 6 rfl
  have g7 := RF.cellAt 7 rfl
  have g8 := RF.cellAt 8 rfl
  exact bodyPost_ret (v := .agg #[.int .i64 x4, .int .i64 x5, .int .i64 x6, .int .i64 x7, .int .i64 x8, .int .i64 x9, .int .i64 x1, .int .i64 x2, .int .i64 x3]) (by simp [results, Tryz.results85, go_sem, g0, g1, g2, g3, g4, g5, g6, g7, g8]) rfl ⟨rfl, pp S6 PF (by omega)⟩

set_option maxHeartbeats 8000000 in
set_option maxRecDepth 100000 in
theorem renamed_201 (x1 x2 x3 x4 x5 x6 x7 x8 x9 : Int) (w : World)
    (n1 : IntKind.i64.wrap (-x1) = -x1)
    (n2 : IntKind.i64.wrap (-x2) = -x2)
    (n3 : IntKind.i64.wrap (-x3) = -x3)
    (n4 : IntKind.i64.wrap (-x4) = -x4)
    (n5 : IntKind.i64.wrap (-x5) = -x5)
    (n6 : IntKind.i64.wrap (-x6) = -x6)
    (n7 : IntKind.i64.wrap (-x7) = -x7)
    (n8 : IntKind.i64.wrap (-x8) = -x8)
    (n9 : IntKind.i64.wrap (-x9) = -x9)
    : Calls Tryz.prog 85 #[.agg #[.int .i64 x1, .int .i64 x2, .int .i64 x3, .int .i64 x4, .int .i64 x5, .int .i64 x6, .int .i64 x7, .int .i64 x8, .int .i64 x9], .agg #[.int .i64 2, .int .i64 0, .int .i64 1]] w fun e w' => e = .returned (.agg #[.int .i64 x7, .int .i64 x8, .int .i64 x9, .int .i64 x1, .int .i64 x2, .int .i64 x3, .int .i64 x4, .int .i64 x5, .int .i64 x6]) ∧ Below w.heap.size w w' := by
  have z0 : IntKind.i64.wrap 0 = 0 := by decide
  have z1 : IntKind.i64.wrap 1 = 1 := by decide
  have z2 : IntKind.i64.wrap 2 = 2 := by decide
  have z3 : IntKind.i64.wrap 3 = 3 := by decide
  have z4 : IntKind.i64.wrap 4 = 4 := by decide
  go_enter Tryz.func85, Tryz.ntmps85
  go_wp2
  have A0 : Blk ((((w.alloc (.cells #[.int .i64 x1, .int .i64 x2, .int .i64 x3, .int .i64 x4, .int .i64 x5, .int .i64 x6, .int .i64 x7, .int .i64 x8, .int .i64 x9] 149)).alloc (.cells #[.int .i64 2, .int .i64 0, .int .i64 1] 68)).alloc (.cells #[.int .i64 0, .int .i64 0, .int .i64 0, .int .i64 0, .int .i64 0, .int .i64 0, .int .i64 0, .int .i64 0, .int .i64 0] 149)).alloc (.cells #[.int .i64 0, .int .i64 0, .int .i64 0, .int .i64 0, .int .i64 0, .int .i64 0, .int .i64 0, .int .i64 0, .int .i64 0] 149)) (w.heap.size) 149 #[.int .i64 x1, .int .i64 x2, .int .i64 x3, .int .i64 x4, .int .i64 x5, .int .i64 x6, .int .i64 x7, .int .i64 x8, .int .i64 x9] := (Blk.newAt rfl).alloc.alloc.alloc
  have P0 : Blk ((((w.alloc (.cells #[.int .i64 x1, .int .i64 x2, .int .i64 x3, .int .i64 x4, .int .i64 x5, .int .i64 x6, .int .i64 x7, .int .i64 x8, .int .i64 x9] 149)).alloc (.cells #[.int .i64 2, .int .i64 0, .int .i64 1] 68)).alloc (.cells #[.int .i64 0, .int .i64 0, .int .i64 0, .int .i64 0, .int .i64 0, .int .i64 0, .int .i64 0, .int .i64 0, .int .i64 0] 149)).alloc (.cells #[.int .i64 0, .int .i64 0, .int .i64 0, .int .i64 0, .int .i64 0, .int .i64 0, .int .i64 0, .int .i64 0, .int .i64 0] 149)) (w.heap.size + 1) 68 #[.int .i64 2, .int .i64 0, .int .i64 1] := (Blk.newAt (by simp)).alloc.alloc
  have R0 : Blk ((((w.alloc (.cells #[.int .i64 x1, .int .i64 x2, .int .i64 x3, .int .i64 x4, .int .i64 x5, .int .i64 x6, .int .i64 x7, .int .i64 x8, .int .i64 x9] 149)).alloc (.cells #[.int .i64 2, .int .i64 0, .int .i64 1] 68)).alloc (.cells #[.int .i64 0, .int .i64 0, .int .i64 0, .int .i64 0, .int .i64 0, .int .i64 0, .int .i64 0, .int .i64 0, .int .i64 0] 149)).alloc (.cells #[.int .i64 0, .int .i64 0, .int .i64 0, .int .i64 0, .int .i64 0, .int .i64 0, .int .i64 0, .int .i64 0, .int .i64 0] 149)) (w.heap.size + 1 + 1) 149 #[.int .i64 0, .int .i64 0, .int .i64 0, .int .i64 0, .int .i64 0, .int .i64 0, .int .i64 0, .int .i64 0, .int .i64 0] := (Blk.newAt (by simp)).alloc
  have O0 : Blk ((((w.alloc (.cells #[.int .i64 x1, .int .i64 x2, .int .i64 x3, .int .i64 x4, .int .i64 x5, .int .i64 x6, .int .i64 x7, .int .i64 x8, .int .i64 x9] 149)).alloc (.cells #[.int .i64 2, .int .i64 0, .int .i64 1] 68)).alloc (.cells #[.int .i64 0, .int .i64 0, .int .i64 0, .int .i64 0, .int .i64 0, .int .i64 0, .int .i64 0, .int .i64 0, .int .i64 0] 149)).alloc (.cells #[.int .i64 0, .int .i64 0, .int .i64 0, .int .i64 0, .int .i64 0, .int .i64 0, .int .i64 0, .int .i64 0, .int .i64 0] 149)) (w.heap.size + 1 + 1 + 1) 149 #[.int .i64 0, .int .i64 0, .int .i64 0, .int .i64 0, .int .i64 0, .int .i64 0, .int .i64 0, .int .i64 0, .int .i64 0] := Blk.newAt (by simp)
  have S0 : Below w.heap.size w ((((w.alloc (.cells #[.int .i64 x1, .int .i64 x2, .int .i64 x3, .int .i64 x4, .int .i64 x5, .int .i64 x6, .int .i64 x7, .int .i64 x8, .int .i64 x9] 149)).alloc (.cells #[.int .i64 2, .int .i64 0, .int .i64 1] 68)).alloc (.cells #[.int .i64 0, .int .i64 0, .int .i64 0, .int .i64 0, .int .i64 0, .int .i64 0, .int .i64 0, .int .i64 0, .int .i64 0] 149)).alloc (.cells #[.int .i64 0, .int .i64 0, .int .i64 0, .int .i64 0, .int .i64 0, .int .i64 0, .int .i64 0, .int .i64 0, .int .i64 0] 149)) := pa (pa (pa (pa pr)))
  generalize ((((w.alloc (.cells #[.int .i64 x1, .int .i64 x2, .int .i64 x3, .int .i64 x4, .int .i64 x5, .int .i64 x6, .int .i64 x7, .int .i64 x8, .int .i64 x9] 149)).alloc (.cells #[.int .i64 2, .int .i64 0, .int .i64 1] 68)).alloc (.cells #[.int .i64 0, .int .i64 0, .int .i64 0, .int .i64 0, .int .i64 0, .int .i64 0, .int .i64 0, .int .i64 0, .int .i64 0] 149)).alloc (.cells #[.int .i64 0, .int .i64 0, .int .i64 0, .int .i64 0, .int .i64 0, .int .i64 0, .int .i64 0, .int .i64 0, .int .i64 0] 149)) = v0 at *
  have p0 := P0.cellAt 0 rfl; have p1 := P0.cellAt 1 rfl; have p2 := P0.cellAt 2 rfl; have pl := P0.lt; have al := A0.lt; have ol := O0.lt
  refine wp_loop_rounds 4 ?_
  rw [rounds_succ]
  go_wp2
  go_quiet (fail)
  have hb1 : Below v0.heap.size v0 (v0.drewN nq) := below_drewN' (Below.refl _ _) nq
  have A1 := A0.past hb1
  have P1 := P0.past hb1
  have R1 := R0.past hb1
  have O1 := O0.past hb1
  have S1 := pt S0 hb1
  clear hb1 A0 P0 R0 O0 S0 p0 p1 p2 pl al ol
  generalize v0.drewN nq = v1 at *
  have p0 := P1.cellAt 0 rfl; have p1 := P1.cellAt 1 rfl; have p2 := P1.cellAt 2 rfl; have pl := P1.lt; have al := A1.lt; have ol := O1.lt
  go_wp2_with (first
    | ((with_reducible refine load_sub (T := 68) (x := .tmp 29) (o := 6) (vs := #[.int .i64 x7, .int .i64 x8, .int .i64 x9]) A1 ?_ ?_ three_under ?_ ?_ ?_); (focus rfl); (focus rfl); (focus rfl); (focus exact three_size))
    | ((with_reducible refine store_sub (T := 68) (x := .tmp 31) (y := .tmp 30) (o := 0) (cs' := #[.int .i64 x7, .int .i64 x8, .int .i64 x9, .int .i64 0, .int .i64 0, .int .i64 0, .int .i64 0, .int .i64 0, .int .i64 0]) (vs := #[.int .i64 x7, .int .i64 x8, .int .i64 x9]) O1 ?_ ?_ ?_ ?_ ?_ ?_ ?_); (focus rfl); (focus rfl); (focus rfl); (focus exact Nat.le_of_ble_eq_true rfl); (focus exact three_size); (focus (simp [Value.oneCell']; done)); intro v2 O2 F2; have A2 := A1.put F2 (by omega); have P2 := P1.put F2 (by omega); have R2 := R1.put F2 (by omega); have S2 := pp S1 F2 (by omega); clear A1 P1 R1 S1 O1 p0 p1 p2 pl al ol; have p0 := P2.cellAt 0 rfl; have p1 := P2.cellAt 1 rfl; have p2 := P2.cellAt 2 rfl; have pl := P2.lt; have al := A2.lt; have ol := O2.lt))
  rw [rounds_succ]
  go_wp2
  go_quiet (fail)
  have hb1 : Below v2.heap.size v2 (v2.drewN nq) := below_drewN' (Below.refl _ _) nq
  have A3 := A2.past hb1
  have P3 := P2.past hb1
  have R3 := R2.past hb1
  have O3 := O2.past hb1
  have S3 := pt S2 hb1
  clear hb1 A2 P2 R2 O2 S2 p0 p1 p2 pl al ol
  generalize v2.drewN nq = v3 at *
  have p0 := P3.cellAt 0 rfl; have p1 := P3.cellAt 1 rfl; have p2 := P3.cellAt 2 rfl; have pl := P3.lt; have al := A3.lt; have ol := O3.lt
  go_wp2_with (first
    | ((with_reducible refine load_sub (T := 68) (x := .tmp 29) (o := 0) (vs := #[.int .i64 x1, .int .i64 x2, .int .i64 x3]) A3 ?_ ?_ three_under ?_ ?_ ?_); (focus rfl); (focus rfl); (focus rfl); (focus exact three_size))
    | ((with_reducible refine store_sub (T := 68) (x := .tmp 31) (y := .tmp 30) (o := 3) (cs' := #[.int .i64 x7, .int .i64 x8, .int .i64 x9, .int .i64 x1, .int .i64 x2, .int .i64 x3, .int .i64 0, .int .i64 0, .int .i64 0]) (vs := #[.int .i64 x1, .int .i64 x2, .int .i64 x3]) O3 ?_ ?_ ?_ ?_ ?_ ?_ ?_); (focus rfl); (focus rfl); (focus rfl); (focus exact Nat.le_of_ble_eq_true rfl); (focus exact three_size); (focus (simp [Value.oneCell']; done)); intro v4 O4 F4; have A4 := A3.put F4 (by omega); have P4 := P3.put F4 (by omega); have R4 := R3.put F4 (by omega); have S4 := pp S3 F4 (by omega); clear A3 P3 R3 S3 O3 p0 p1 p2 pl al ol; have p0 := P4.cellAt 0 rfl; have p1 := P4.cellAt 1 rfl; have p2 := P4.cellAt 2 rfl; have pl := P4.lt; have al := A4.lt; have ol := O4.lt))
  rw [rounds_succ]
  go_wp2
  go_quiet (fail)
  have hb1 : Below v4.heap.size v4 (v4.drewN nq) := below_drewN' (Below.refl _ _) nq
  have A5 := A4.past hb1
  have P5 := P4.past hb1
  have R5 := R4.past hb1
  have O5 := O4.past hb1
  have S5 := pt S4 hb1
  clear hb1 A4 P4 R4 O4 S4 p0 p1 p2 pl al ol
  generalize v4.drewN nq = v5 at *
  have p0 := P5.cellAt 0 rfl; have p1 := P5.cellAt 1 rfl; have p2 := P5.cellAt 2 rfl; have pl := P5.lt; have al := A5.lt; have ol := O5.lt
  go_wp2_with (first
    | ((with_reducible refine load_sub (T := 68) (x := .tmp 29) (o := 3) (vs := #[.int .i64 x4, .int .i64 x5, .int .i64 x6]) A5 ?_ ?_ three_under ?_ ?_ ?_); (focus rfl); (focus rfl); (focus rfl); (focus exact three_size))
    | ((with_reducible refine store_sub (T := 68) (x := .tmp 31) (y := .tmp 30) (o := 6) (cs' := #[.int .i64 x7, .int .i64 x8, .int .i64 x9, .int .i64 x1, .int .i64 x2, .int .i64 x3, .int .i64 x4, .int .i64 x5, .int .i64 x6]) (vs := #[.int .i64 x4, .int .i64 x5, .int .i64 x6]) O5 ?_ ?_ ?_ ?_ ?_ ?_ ?_); (focus rfl); (focus rfl); (focus rfl); (focus exact Nat.le_of_ble_eq_true rfl); (focus exact three_size); (focus (simp [Value.oneCell']; done)); intro v6 O6 F6; have A6 := A5.put F6 (by omega); have P6 := P5.put F6 (by omega); have R6 := R5.put F6 (by omega); have S6 := pp S5 F6 (by omega); clear A5 P5 R5 S5 O5 p0 p1 p2 pl al ol; have p0 := P6.cellAt 0 rfl; have p1 := P6.cellAt 1 rfl; have p2 := P6.cellAt 2 rfl; have pl := P6.lt; have al := A6.lt; have ol := O6.lt))
  rw [rounds_succ]
  go_wp2_with (first
    | ((with_reducible refine load_blk (T := 149) (x := .tmp 5) O6 Tryz.underlying149 ?_ ?_ ?_ ?_); (focus rfl); (focus exact lines_size); (focus rfl))
    | ((with_reducible refine store_blk (T := 149) (x := .tmp 4) (y := .tmp 47) (vs := #[.int .i64 x7, .int .i64 x8, .int .i64 x9, .int .i64 x1, .int .i64 x2, .int .i64 x3, .int .i64 x4, .int .i64 x5, .int .i64 x6]) R6 ?_ ?_ ?_ ?_ ?_ ?_); (focus rfl); (focus exact lines_size); (focus (simp [Value.oneCell']; done)); (focus rfl); (focus rfl); intro WF RF PF))
  have g0 := RF.cellAt 0 rfl
  have g1 := RF.cellAt 1 rfl
  have g2 := RF.cellAt 2 rfl
  have g3 := RF.cellAt 3 rfl
  have g4 := RF.cellAt 4 rfl
  have g5 := RF.cellAt 5 rfl
  have g6 := RF.cellAt 6 rfl
  have g7 := RF.cellAt 7 rfl
  have g8 := RF.cellAt 8 rfl
  exact bodyPost_ret (v := .agg #[.int .i64 x7, .int .i64 x8, .int .i64 x9, .int .i64 x1, .int .i64 x2, .int .i64 x3, .int .i64 x4, .int .i64 x5, .int .i64 x6]) (by simp [results, Tryz.results85, go_sem, g0, g1, g2, g3, g4, g5, g6, g7, g8]) rfl ⟨rfl, pp S6 PF (by omega)⟩

set_option maxHeartbeats 8000000 in
set_option maxRecDepth 100000 in
theorem renamed_210 (x1 x2 x3 x4 x5 x6 x7 x8 x9 : Int) (w : World)
    (n1 : IntKind.i64.wrap (-x1) = -x1)
    (n2 : IntKind.i64.wrap (-x2) = -x2)
    (n3 : IntKind.i64.wrap (-x3) = -x3)
    (n4 : IntKind.i64.wrap (-x4) = -x4)
    (n5 : IntKind.i64.wrap (-x5) = -x5)
    (n6 : IntKind.i64.wrap (-x6) = -x6)
    (n7 : IntKind.i64.wrap (-x7) = -x7)
    (n8 : IntKind.i64.wrap (-x8) = -x8)
    (n9 : IntKind.i64.wrap (-x9) = -x9)
    : Calls Tryz.prog 85 #[.agg #[.int .i64 x1, .int .i64 x2, .int .i64 x3, .int .i64 x4, .int .i64 x5, .int .i64 x6, .int .i64 x7, .int .i64 x8, .int .i64 x9], .agg #[.int .i64 2, .int .i64 1, .int .i64 0]] w fun e w' => e = .returned (.agg #[.int .i64 (-x4), .int .i64 (-x5), .int .i64 (-x6), .int .i64 (-x1), .int .i64 (-x2), .int .i64 (-x3), .int .i64 (-x7), .int .i64 (-x8), .int .i64 (-x9)]) ∧ Below w.heap.size w w' := by
  have z0 : IntKind.i64.wrap 0 = 0 := by decide
  have z1 : IntKind.i64.wrap 1 = 1 := by decide
  have z2 : IntKind.i64.wrap 2 = 2 := by decide
  have z3 : IntKind.i64.wrap 3 = 3 := by decide
  have z4 : IntKind.i64.wrap 4 = 4 := by decide
  go_enter Tryz.func85, Tryz.ntmps85
  go_wp2
  have A0 : Blk ((((w.alloc (.cells #[.int .i64 x1, .int .i64 x2, .int .i64 x3, .int .i64 x4, .int .i64 x5, .int .i64 x6, .int .i64 x7, .int .i64 x8, .int .i64 x9] 149)).alloc (.cells #[.int .i64 2, .int .i64 1, .int .i64 0] 68)).alloc (.cells #[.int .i64 0, .int .i64 0, .int .i64 0, .int .i64 0, .int .i64 0, .int .i64 0, .int .i64 0, .int .i64 0, .int .i64 0] 149)).alloc (.cells #[.int .i64 0, .int .i64 0, .int .i64 0, .int .i64 0, .int .i64 0, .int .i64 0, .int .i64 0, .int .i64 0, .int .i64 0] 149)) (w.heap.size) 149 #[.int .i64 x1, .int .i64 x2, .int .i64 x3, .int .i64 x4, .int .i64 x5, .int .i64 x6, .int .i64 x7, .int .i64 x8, .int .i64 x9] := (Blk.newAt rfl).alloc.alloc.alloc
  have P0 : Blk ((((w.alloc (.cells #[.int .i64 x1, .int .i64 x2, .int .i64 x3, .int .i64 x4, .int .i64 x5, .int .i64 x6, .int .i64 x7, .int .i64 x8, .int .i64 x9] 149)).alloc (.cells #[.int .i64 2, .int .i64 1, .int .i64 0] 68)).alloc (.cells #[.int .i64 0, .int .i64 0, .int .i64 0, .int .i64 0, .int .i64 0, .int .i64 0, .int .i64 0, .int .i64 0, .int .i64 0] 149)).alloc (.cells #[.int .i64 0, .int .i64 0, .int .i64 0, .int .i64 0, .int .i64 0, .int .i64 0, .int .i64 0, .int .i64 0, .int .i64 0] 149)) (w.heap.size + 1) 68 #[.int .i64 2, .int .i64 1, .int .i64 0] := (Blk.newAt (by simp)).alloc.alloc
  have R0 : Blk ((((w.alloc (.cells #[.int .i64 x1, .int .i64 x2, .int .i64 x3, .int .i64 x4, .int .i64 x5, .int .i64 x6, .int .i64 x7, .int .i64 x8, .int .i64 x9] 149)).alloc (.cells #[.int .i64 2, .int .i64 1, .int .i64 0] 68)).alloc (.cells #[.int .i64 0, .int .i64 0, .int .i64 0, .int .i64 0, .int .i64 0, .int .i64 0, .int .i64 0, .int .i64 0, .int .i64 0] 149)).alloc (.cells #[.int .i64 0, .int .i64 0, .int .i64 0, .int .i64 0, .int .i64 0, .int .i64 0, .int .i64 0, .int .i64 0, .int .i64 0] 149)) (w.heap.size + 1 + 1) 149 #[.int .i64 0, .int .i64 0, .int .i64 0, .int .i64 0, .int .i64 0, .int .i64 0, .int .i64 0, .int .i64 0, .int .i64 0] := (Blk.newAt (by simp)).alloc
  have O0 : Blk ((((w.alloc (.cells #[.int .i64 x1, .int .i64 x2, .int .i64 x3, .int .i64 x4, .int .i64 x5, .int .i64 x6, .int .i64 x7, .int .i64 x8, .int .i64 x9] 149)).alloc (.cells #[.int .i64 2, .int .i64 1, .int .i64 0] 68)).alloc (.cells #[.int .i64 0, .int .i64 0, .int .i64 0, .int .i64 0, .int .i64 0, .int .i64 0, .int .i64 0, .int .i64 0, .int .i64 0] 149)).alloc (.cells #[.int .i64 0, .int .i64 0, .int .i64 0, .int .i64 0, .int .i64 0, .int .i64 0, .int .i64 0, .int .i64 0, .int .i64 0] 149)) (w.heap.size + 1 + 1 + 1) 149 #[.int .i64 0, .int .i64 0, .int .i64 0, .int .i64 0, .int .i64 0, .int .i64 0, .int .i64 0, .int .i64 0, .int .i64 0] := Blk.newAt (by simp)
  have S0 : Below w.heap.size w ((((w.alloc (.cells #[.int .i64 x1, .int .i64 x2, .int .i64 x3, .int .i64 x4, .int .i64 x5, .int .i64 x6, .int .i64 x7, .int .i64 x8, .int .i64 x9] 149)).alloc (.cells #[.int .i64 2, .int .i64 1, .int .i64 0] 68)).alloc (.cells #[.int .i64 0, .int .i64 0, .int .i64 0, .int .i64 0, .int .i64 0, .int .i64 0, .int .i64 0, .int .i64 0, .int .i64 0] 149)).alloc (.cells #[.int .i64 0, .int .i64 0, .int .i64 0, .int .i64 0, .int .i64 0, .int .i64 0, .int .i64 0, .int .i64 0, .int .i64 0] 149)) := pa (pa (pa (pa pr)))
  generalize ((((w.alloc (.cells #[.int .i64 x1, .int .i64 x2, .int .i64 x3, .int .i64 x4, .int .i64 x5, .int .i64 x6, .int .i64 x7, .int .i64 x8, .int .i64 x9] 149)).alloc (.cells #[.int .i64 2, .int .i64 1, .int .i64 0] 68)).alloc (.cells #[.int .i64 0, .int .i64 0, .int .i64 0, .int .i64 0, .int .i64 0, .int .i64 0, .int .i64 0, .int .i64 0, .int .i64 0] 149)).alloc (.cells #[.int .i64 0, .int .i64 0, .int .i64 0, .int .i64 0, .int .i64 0, .int .i64 0, .int .i64 0, .int .i64 0, .int .i64 0] 149)) = v0 at *
  have p0 := P0.cellAt 0 rfl; have p1 := P0.cellAt 1 rfl; have p2 := P0.cellAt 2 rfl; have pl := P0.lt; have al := A0.lt; have ol := O0.lt
  refine wp_loop_rounds 4 ?_
  rw [rounds_succ]
  go_wp2
  go_quiet (fail)
  have hb1 : Below v0.heap.size v0 (v0.drewN nq) := below_drewN' (Below.refl _ _) nq
  have A1 := A0.past hb1
  have P1 := P0.past hb1
  have R1 := R0.past hb1
  have O1 := O0.past hb1
  have S1 := pt S0 hb1
  clear hb1 A0 P0 R0 O0 S0 p0 p1 p2 pl al ol
  generalize v0.drewN nq = v1 at *
  have p0 := P1.cellAt 0 rfl; have p1 := P1.cellAt 1 rfl; have p2 := P1.cellAt 2 rfl; have pl := P1.lt; have al := A1.lt; have ol := O1.lt
  go_wp2_with (first
    | ((with_reducible refine load_sub (T := 68) (x := .tmp 33) (o := 3) (vs := #[.int .i64 x4, .int .i64 x5, .int .i64 x6]) A1 ?_ ?_ three_under ?_ ?_ ?_); (focus rfl); (focus rfl); (focus rfl); (focus exact three_size)))
  refine wp_loop_rounds 4 ?_
  rw [rounds_succ]
  go_wp2_with (first
    | ((with_reducible refine store_sub (T := 3) (x := .tmp 44) (y := .tmp 42) (o := 0) (cs' := #[.int .i64 (-x4), .int .i64 0, .int .i64 0, .int .i64 0, .int .i64 0, .int .i64 0, .int .i64 0, .int .i64 0, .int .i64 0]) (vs := #[.int .i64 (-x4)]) O1 ?_ ?_ ?_ ?_ ?_ ?_ ?_); (focus rfl); (focus rfl); (focus rfl); (focus exact Nat.le_of_ble_eq_true rfl); (focus exact int_size); (focus (simp [Value.oneCell']; done)); intro v2 O2 F2; have A2 := A1.put F2 (by omega); have P2 := P1.put F2 (by omega); have R2 := R1.put F2 (by omega); have S2 := pp S1 F2 (by omega); clear A1 P1 R1 S1 O1 p0 p1 p2 pl al ol; have p0 := P2.cellAt 0 rfl; have p1 := P2.cellAt 1 rfl; have p2 := P2.cellAt 2 rfl; have pl := P2.lt; have al := A2.lt; have ol := O2.lt))
  rw [rounds_succ]
  go_wp2_with (first
    | ((with_reducible refine store_sub (T := 3) (x := .tmp 44) (y := .tmp 42) (o := 1) (cs' := #[.int .i64 (-x4), .int .i64 (-x5), .int .i64 0, .int .i64 0, .int .i64 0, .int .i64 0, .int .i64 0, .int .i64 0, .int .i64 0]) (vs := #[.int .i64 (-x5)]) O2 ?_ ?_ ?_ ?_ ?_ ?_ ?_); (focus rfl); (focus rfl); (focus rfl); (focus exact Nat.le_of_ble_eq_true rfl); (focus exact int_size); (focus (simp [Value.oneCell']; done)); intro v3 O3 F3; have A3 := A2.put F3 (by omega); have P3 := P2.put F3 (by omega); have R3 := R2.put F3 (by omega); have S3 := pp S2 F3 (by omega); clear A2 P2 R2 S2 O2 p0 p1 p2 pl al ol; have p0 := P3.cellAt 0 rfl; have p1 := P3.cellAt 1 rfl; have p2 := P3.cellAt 2 rfl; have pl := P3.lt; have al := A3.lt; have ol := O3.lt))
  rw [rounds_succ]
  go_wp2_with (first
    | ((with_reducible refine store_sub (T := 3) (x := .tmp 44) (y := .tmp 42) (o := 2) (cs' := #[.int .i64 (-x4), .int .i64 (-x5), .int .i64 (-x6), .int .i64 0, .int .i64 0, .int .i64 0, .int .i64 0, .int .i64 0, .int .i64 0]) (vs := #[.int .i64 (-x6)]) O3 ?_ ?_ ?_ ?_ ?_ ?_ ?_); (focus rfl); (focus rfl); (focus rfl); (focus exact Nat.le_of_ble_eq_true rfl); (focus exact int_size); (focus (simp [Value.oneCell']; done)); intro v4 O4 F4; have A4 := A3.put F4 (by omega); have P4 := P3.put F4 (by omega); have R4 := R3.put F4 (by omega); have S4 := pp S3 F4 (by omega); clear A3 P3 R3 S3 O3 p0 p1 p2 pl al ol; have p0 := P4.cellAt 0 rfl; have p1 := P4.cellAt 1 rfl; have p2 := P4.cellAt 2 rfl; have pl := P4.lt; have al := A4.lt; have ol := O4.lt))
  rw [rounds_succ]
  go_wp2
  rw [rounds_succ]
  go_wp2
  go_quiet (fail)
  have hb1 : Below v4.heap.size v4 (v4.drewN nq) := below_drewN' (Below.refl _ _) nq
  have A5 := A4.past hb1
  have P5 := P4.past hb1
  have R5 := R4.past hb1
  have O5 := O4.past hb1
  have S5 := pt S4 hb1
  clear hb1 A4 P4 R4 O4 S4 p0 p1 p2 pl al ol
  generalize v4.drewN nq = v5 at *
  have p0 := P5.cellAt 0 rfl; have p1 := P5.cellAt 1 rfl; have p2 := P5.cellAt 2 rfl; have pl := P5.lt; have al := A5.lt; have ol := O5.lt
  go_wp2_with (first
    | ((with_reducible refine load_sub (T := 68) (x := .tmp 33) (o := 0) (vs := #[.int .i64 x1, .int .i64 x2, .int .i64 x3]) A5 ?_ ?_ three_under ?_ ?_ ?_); (focus rfl); (focus rfl); (focus rfl); (focus exact three_size)))
  refine wp_loop_rounds 4 ?_
  rw [rounds_succ]
  go_wp2_with (first
    | ((with_reducible refine store_sub (T := 3) (x := .tmp 44) (y := .tmp 42) (o := 3) (cs' := #[.int .i64 (-x4), .int .i64 (-x5), .int .i64 (-x6), .int .i64 (-x1), .int .i64 0, .int .i64 0, .int .i64 0, .int .i64 0, .int .i64 0]) (vs := #[.int .i64 (-x1)]) O5 ?_ ?_ ?_ ?_ ?_ ?_ ?_); (focus rfl); (focus rfl); (focus rfl); (focus exact Nat.le_of_ble_eq_true rfl); (focus exact int_size); (focus (simp [Value.oneCell']; done)); intro v6 O6 F6; have A6 := A5.put F6 (by omega); have P6 := P5.put F6 (by omega); have R6 := R5.put F6 (by omega); have S6 := pp S5 F6 (by omega); clear A5 P5 R5 S5 O5 p0 p1 p2 pl al ol; have p0 := P6.cellAt 0 rfl; have p1 := P6.cellAt 1 rfl; have p2 := P6.cellAt 2 rfl; have pl := P6.lt; have al := A6.lt; have ol := O6.lt))
  rw [rounds_succ]
  go_wp2_with (first
    | ((with_reducible refine store_sub (T := 3) (x := .tmp 44) (y := .tmp 42) (o := 4) (cs' := #[.int .i64 (-x4), .int .i64 (-x5), .int .i64 (-x6), .int .i64 (-x1), .int .i64 (-x2), .int .i64 0, .int .i64 0, .int .i64 0, .int .i64 0]) (vs := #[.int .i64 (-x2)]) O6 ?_ ?_ ?_ ?_ ?_ ?_ ?_); (focus rfl); (focus rfl); (focus rfl); (focus exact Nat.le_of_ble_eq_true rfl); (focus exact int_size); (focus (simp [Value.oneCell']; done)); intro v7 O7 F7; have A7 := A6.put F7 (by omega); have P7 := P6.put F7 (by omega); have R7 := R6.put F7 (by omega); have S7 := pp S6 F7 (by omega); clear A6 P6 R6 S6 O6 p0 p1 p2 pl al ol; have p0 := P7.cellAt 0 rfl; have p1 := P7.cellAt 1 rfl; have p2 := P7.cellAt 2 rfl; have pl := P7.lt; have al := A7.lt; have ol := O7.lt))
  rw [rounds_succ]
  go_wp2_with (first
    | ((with_reducible refine store_sub (T := 3) (x := .tmp 44) (y := .tmp 42) (o := 5) (cs' := #[.int .i64 (-x4), .int .i64 (-x5), .int .i64 (-x6), .int .i64 (-x1), .int .i64 (-x2), .int .i64 (-x3), .int .i64 0, .int .i64 0, .int .i64 0]) (vs := #[.int .i64 (-x3)]) O7 ?_ ?_ ?_ ?_ ?_ ?_ ?_); (focus rfl); (focus rfl); (focus rfl); (focus exact Nat.le_of_ble_eq_true rfl); (focus exact int_size); (focus (simp [Value.oneCell']; done)); intro v8 O8 F8; have A8 := A7.put F8 (by omega); have P8 := P7.put F8 (by omega); have R8 := R7.put F8 (by omega); have S8 := pp S7 F8 (by omega); clear A7 P7 R7 S7 O7 p0 p1 p2 pl al ol; have p0 := P8.cellAt 0 rfl; have p1 := P8.cellAt 1 rfl; have p2 := P8.cellAt 2 rfl; have pl := P8.lt; have al := A8.lt; have ol := O8.lt))
  rw [rounds_succ]
  go_wp2
  rw [rounds_succ]
  go_wp2
  go_quiet (fail)
  have hb1 : Below v8.heap.size v8 (v8.drewN nq) := below_drewN' (Below.refl _ _) nq
  have A9 := A8.past hb1
  have P9 := P8.past hb1
  have R9 := R8.past hb1
  have O9 := O8.past hb1
  have S9 := pt S8 hb1
  clear hb1 A8 P8 R8 O8 S8 p0 p1 p2 pl al ol
  generalize v8.drewN nq = v9 at *
  have p0 := P9.cellAt 0 rfl; have p1 := P9.cellAt 1 rfl; have p2 := P9.cellAt 2 rfl; have pl := P9.lt; have al := A9.lt; have ol := O9.lt
  go_wp2_with (first
    | ((with_reducible refine load_sub (T := 68) (x := .tmp 33) (o := 6) (vs := #[.int .i64 x7, .int .i64 x8, .int .i64 x9]) A9 ?_ ?_ three_under ?_ ?_ ?_); (focus rfl); (focus rfl); (focus rfl); (focus exact three_size)))
  refine wp_loop_rounds 4 ?_
  rw [rounds_succ]
  go_wp2_with (first
    | ((with_reducible refine store_sub (T := 3) (x := .tmp 44) (y := .tmp 42) (o := 6) (cs' := #[.int .i64 (-x4), .int .i64 (-x5), .int .i64 (-x6), .int .i64 (-x1), .int .i64 (-x2), .int .i64 (-x3), .int .i64 (-x7), .int .i64 0, .int .i64 0]) (vs := #[.int .i64 (-x7)]) O9 ?_ ?_ ?_ ?_ ?_ ?_ ?_); (focus rfl); (focus rfl); (focus rfl); (focus exact Nat.le_of_ble_eq_true rfl); (focus exact int_size); (focus (simp [Value.oneCell']; done)); intro v10 O10 F10; have A10 := A9.put F10 (by omega); have P10 := P9.put F10 (by omega); have R10 := R9.put F10 (by omega); have S10 := pp S9 F10 (by omega); clear A9 P9 R9 S9 O9 p0 p1 p2 pl al ol; have p0 := P10.cellAt 0 rfl; have p1 := P10.cellAt 1 rfl; have p2 := P10.cellAt 2 rfl; have pl := P10.lt; have al := A10.lt; have ol := O10.lt))
  rw [rounds_succ]
  go_wp2_with (first
    | ((with_reducible refine store_sub (T := 3) (x := .tmp 44) (y := .tmp 42) (o := 7) (cs' := #[.int .i64 (-x4), .int .i64 (-x5), .int .i64 (-x6), .int .i64 (-x1), .int .i64 (-x2), .int .i64 (-x3), .int .i64 (-x7), .int .i64 (-x8), .int .i64 0]) (vs := #[.int .i64 (-x8)]) O10 ?_ ?_ ?_ ?_ ?_ ?_ ?_); (focus rfl); (focus rfl); (focus rfl); (focus exact Nat.le_of_ble_eq_true rfl); (focus exact int_size); (focus (simp [Value.oneCell']; done)); intro v11 O11 F11; have A11 := A10.put F11 (by omega); have P11 := P10.put F11 (by omega); have R11 := R10.put F11 (by omega); have S11 := pp S10 F11 (by omega); clear A10 P10 R10 S10 O10 p0 p1 p2 pl al ol; have p0 := P11.cellAt 0 rfl; have p1 := P11.cellAt 1 rfl; have p2 := P11.cellAt 2 rfl; have pl := P11.lt; have al := A11.lt; have ol := O11.lt))
  rw [rounds_succ]
  go_wp2_with (first
    | ((with_reducible refine store_sub (T := 3) (x := .tmp 44) (y := .tmp 42) (o := 8) (cs' := #[.int .i64 (-x4), .int .i64 (-x5), .int .i64 (-x6), .int .i64 (-x1), .int .i64 (-x2), .int .i64 (-x3), .int .i64 (-x7), .int .i64 (-x8), .int .i64 (-x9)]) (vs := #[.int .i64 (-x9)]) O11 ?_ ?_ ?_ ?_ ?_ ?_ ?_); (focus rfl); (focus rfl); (focus rfl); (focus exact Nat.le_of_ble_eq_true rfl); (focus exact int_size); (focus (simp [Value.oneCell']; done)); intro v12 O12 F12; have A12 := A11.put F12 (by omega); have P12 := P11.put F12 (by omega); have R12 := R11.put F12 (by omega); have S12 := pp S11 F12 (by omega); clear A11 P11 R11 S11 O11 p0 p1 p2 pl al ol; have p0 := P12.cellAt 0 rfl; have p1 := P12.cellAt 1 rfl; have p2 := P12.cellAt 2 rfl; have pl := P12.lt; have al := A12.lt; have ol := O12.lt))
  rw [rounds_succ]
  go_wp2
  rw [rounds_succ]
  go_wp2_with (first
    | ((with_reducible refine load_blk (T := 149) (x := .tmp 5) O12 Tryz.underlying149 ?_ ?_ ?_ ?_); (focus rfl); (focus exact lines_size); (focus rfl))
    | ((with_reducible refine store_blk (T := 149) (x := .tmp 4) (y := .tmp 47) (vs := #[.int .i64 (-x4), .int .i64 (-x5), .int .i64 (-x6), .int .i64 (-x1), .int .i64 (-x2), .int .i64 (-x3), .int .i64 (-x7), .int .i64 (-x8), .int .i64 (-x9)]) R12 ?_ ?_ ?_ ?_ ?_ ?_); (focus rfl); (focus exact lines_size); (focus (simp [Value.oneCell']; done)); (focus rfl); (focus rfl); intro WF RF PF))
  have g0 := RF.cellAt 0 rfl
  have g1 := RF.cellAt 1 rfl
  have g2 := RF.cellAt 2 rfl
  have g3 := RF.cellAt 3 rfl
  have g4 := RF.cellAt 4 rfl
  have g5 := RF.cellAt 5 rfl
  have g6 := RF.cellAt 6 rfl
  have g7 := RF.cellAt 7 rfl
  have g8 := RF.cellAt 8 rfl
  exact bodyPost_ret (v := .agg #[.int .i64 (-x4), .int .i64 (-x5), .int .i64 (-x6), .int .i64 (-x1), .int .i64 (-x2), .int .i64 (-x3), .int .i64 (-x7), .int .i64 (-x8), .int .i64 (-x9)]) (by simp [results, Tryz.results85, go_sem, g0, g1, g2, g3, g4, g5, g6, g7, g8]) rfl ⟨rfl, pp S12 PF (by omega)⟩

end Go.Proofs.YtnhcamokcggnkaaGreatDoor
end

section
namespace Go.Proofs.YtnhcamokcggnkaaGreatDoor
open Go.RowKit

/-- From A on lie the cells cs, below block B. -/
def CellsIn (B : Nat) (w : World) (A : Option Addr) (cs : List Value) : Prop :=
  cs = [] ∨ ∃ b off, A = some ⟨b, off, none⟩ ∧ b < B ∧ ∀ j, j < cs.length → w.cell? ⟨b, off + j, none⟩ = cs[j]?

section
variable {w w' : World} {B B' : Nat} {A : Option Addr} {cs : List Value} {xs : List Int}
theorem CellsIn.nil : CellsIn B w A [] := .inl rfl
theorem CellsIn.keep (h : CellsIn B w A cs) (hk : ∀ b o, b < B → w'.cell? ⟨b, o, none⟩ = w.cell? ⟨b, o, none⟩) : CellsIn B w' A cs := by
  rcases h with h | ⟨b, off, hA, hb, hc⟩
  · exact .inl h
  · exact .inr ⟨b, off, hA, hb, fun j hj => (hk _ _ hb).trans (hc j hj)⟩
theorem CellsIn.below (h : CellsIn B w A cs) (hb : Below B w w') : CellsIn B w' A cs := h.keep (bcell hb).1
theorem CellsIn.more (h : CellsIn B w A cs) (hB : B ≤ B') : CellsIn B' w A cs := by
  rcases h with h | ⟨b, off, hA, hb, hc⟩
  · exact .inl h
  · exact .inr ⟨b, off, hA, by omega, hc⟩
theorem CellsIn.past (h : CellsIn B w A cs) (hB : B ≤ w.heap.size) (hb : Below w.heap.size w w') : CellsIn w'.heap.size w' A cs := ((h.more hB).below hb).more hb.size
theorem CellsIn.ints (h : CellsIn B w A (xs.map (Value.int .i64))) : IntsIn B w A xs := by
  rcases h with h | ⟨b, off, hA, hb, hc⟩
  · exact .inl (by simpa using h)
  · exact .inr ⟨b, off, hA, hb, fun j hj => by
      rw [hc j (by simpa using hj)]
      simp [List.getD, hj]⟩
theorem IntsIn.cells (h : IntsIn B w A xs) : CellsIn B w A (xs.map (Value.int .i64)) := by
  rcases h with h | ⟨b, off, hA, hb, hc⟩
  · exact .inl (by simp [h])
  · exact .inr ⟨b, off, hA, hb, fun j hj => by
      have hj' : j < xs.length := by simpa using hj
      rw [hc j hj']
      simp [List.getD, hj']⟩
/-- A row of the call's own, as cells. -/
theorem cellsIn_of_own {base : Nat} {e : TypeId} {size n c : Nat} (h : w.ownsRow base e size (.slice A n c) n cs) : CellsIn w.heap.size w A cs := by
  rcases h.2 with ⟨h1, h2⟩ | ⟨g, cap, cur, hv, _, hh, hn, _, hs, ht⟩
  · refine .inl ?_
    have := h.1
    rw [h2, Nat.zero_mul] at this
    exact List.eq_nil_of_length_eq_zero this
  · injection hv with hA _ _
    have hlt : g < w.heap.size := (Array.getElem?_eq_some_iff.1 hh).1
    exact .inr ⟨g, 0, hA, hlt, fun j hj => by
      rw [Nat.zero_add]
      have hj2 : j < n * size := by rw [h.1] at hj; exact hj
      rw [← ht, List.getElem?_take_of_lt hj2]
      simp [World.cell?, hh]⟩
theorem intsIn_of_own {base : Nat} {e : TypeId} {n c : Nat} (h : w.ownsRow base e 1 (.slice A n c) n (xs.map (Value.int .i64))) : IntsIn w.heap.size w A xs := (cellsIn_of_own h).ints
/-- A row's value is a slice. -/
theorem own_form {base : Nat} {e : TypeId} {size n : Nat} {v : Value} (h : w.ownsRow base e size v n cs) : ∃ A c, v = .slice A n c ∧ n ≤ c ∧ c ≤ maxLen := by
  rcases h.2 with ⟨h1, h2⟩ | ⟨g, cap, cur, hv, _, _, hn, hm, _⟩
  · exact ⟨none, 0, by rw [h1, h2], by omega, Nat.zero_le _⟩
  · exact ⟨_, cap, hv, hn, hm⟩
end

section
variable {P : Program} (w : World)

theorem run_append_nil_src (base : Nat) (t ty e : TypeId) (i : TypeInfo) (size : Nat) (ht : P.underlying t = some (.slice e)) (hi : P.info? e = some i)
    (v : Value) (n : Nat) (xs : List Value) (hown : w.ownsRow base e size v n xs) (c : Nat) : (Builtin.append_ #[t, t] ty #[v, .slice none 0 c]).run P w = .ok v w := by
  rcases hown.2 with ⟨rfl, rfl⟩ | ⟨g, cap, cur, rfl, _, _, hnc, _⟩
  · simp [Builtin.append_, run_underlying ht, sizeOf, typeInfo, hi, Builtin.lenOf, Builtin.firstCells]
  · simp [Builtin.append_, run_underlying ht, sizeOf, typeInfo, hi, Builtin.lenOf, Builtin.firstCells, hnc, storeCells]

theorem run_append_cells (base : Nat) (t ty e : TypeId) (i : TypeInfo) (z : Value) (size bytes : Nat) (ht : P.underlying t = some (.slice e)) (hi : P.info? e = some i) (hz : i.zero = some z)
    (hsize : i.size = size) (hby : i.bytes = bytes) (hzs : z.cells.size = size) (hsz : 0 < size)
    (v : Value) (n : Nat) (xs : List Value) (hown : w.ownsRow base e size v n xs)
    (B : Nat) (A : Option Addr) (m c : Nat) (news : List Value) (hr : CellsIn B w A news) (hl : news.length = m * size) (h1 : ∀ u ∈ news, u.oneCell' = true)
    (h63 : n + m ≤ maxLen) (hbytes : (n + m) * bytes ≤ 140737488355328) (hbase : base ≤ w.heap.size) :
    ∃ v' w', (Builtin.append_ #[t, t] ty #[v, .slice A m c]).run P w = .ok v' w' ∧ w'.ownsRow base e size v' (n + m) (xs ++ news) ∧ w.grownBy w' v.ownBlock ∧
      (v'.ownBlock = v.ownBlock ∨ v'.ownBlock = some w.heap.size) := by
  rcases A with _ | ad
  · have hn : news = [] := by
      rcases hr with h | ⟨_, _, h, _⟩
      · exact h
      · cases h
    subst hn
    have hm : m = 0 := by
      have h0 : m * size = 0 := by simpa using hl.symm
      rcases Nat.mul_eq_zero.1 h0 with h | h <;> omega
    subst hm
    exact ⟨v, w, run_append_nil_src w base t ty e i size ht hi v n xs hown c, by simpa using hown, World.grownBy.refl w _, .inl rfl⟩
  · have hcells : ∀ j u, news[j]? = some u → w.cell? (ad.add j) = some u := by
      intro j u hu
      rcases hr with h | ⟨b, off, h, _, hc⟩
      · subst h; simp at hu
      · injection h with h
        subst h
        have hj : j < news.length := (List.getElem?_eq_some_iff.1 hu).1
        rw [Go.WideShapes.add_plain]
        exact (hc j hj).trans hu
    obtain ⟨v', w', hrun, h2, h3, _, h5⟩ := run_append_own_at (P := P) w base t ty e i z size bytes ht hi hz hsize hby hzs hsz v n xs hown ad m c news hl hcells h1 h63 hbytes hbase
    exact ⟨v', w', hrun, h2, h3, h5⟩

theorem wp_append_cells {o : Oper} {a : Act} {K : Act → World → Prop} {Q : Exit → Act → World → Prop} (s x : Operand) (t : TypeId)
    (ho : o.op = .call { callee := .builtin .append, args := #[s, x], argTypes := #[t, t] })
    (base : Nat) (e : TypeId) (i : TypeInfo) (z : Value) (size bytes : Nat) (ht : P.underlying t = some (.slice e)) (hi : P.info? e = some i) (hz : i.zero = some z)
    (hsize : i.size = size) (hby : i.bytes = bytes) (hzs : z.cells.size = size) (hsz : 0 < size)
    (v : Value) (n : Nat) (xs : List Value) (hs : a.eval s = v) (hown : w.ownsRow base e size v n xs)
    (B : Nat) (A : Option Addr) (m c : Nat) (news : List Value) (hx : a.eval x = .slice A m c) (hr : CellsIn B w A news) (hl : news.length = m * size) (h1 : ∀ u ∈ news, u.oneCell' = true)
    (h63 : n + m ≤ maxLen) (hbytes : (n + m) * bytes ≤ 140737488355328) (hbase : base ≤ w.heap.size)
    (h : ∀ v' w', w'.ownsRow base e size v' (n + m) (xs ++ news) → w.grownBy w' v.ownBlock → (v'.ownBlock = v.ownBlock ∨ v'.ownBlock = some w.heap.size) → K (a.put o.dst v') w') : o.wp P a w K Q := by
  obtain ⟨v', w', hrun, h2, h3, h4⟩ := run_append_cells (P := P) w base t o.type e i z size bytes ht hi hz hsize hby hzs hsz v n xs hown B A m c news hr hl h1 h63 hbytes hbase
  unfold Oper.wp execOp
  simp only [ho, resolve, invoke, builtin, Sem.run_bind, Sem.run_pure, Result.andThen_ok, List.map_toArray, List.map_cons, List.map_nil, hs, hx, hrun]
  exact h v' w' h2 h3 h4

theorem wpList_append_cells {ops : Array Oper} {rest : List Oper} {o : Oper} {a : Act} {Q : Exit → Act → World → Prop} (hgd : o.guard = none) (s x : Operand) (t : TypeId)
    (ho : o.op = .call { callee := .builtin .append, args := #[s, x], argTypes := #[t, t] })
    (base : Nat) (e : TypeId) (i : TypeInfo) (z : Value) (size bytes : Nat) (ht : P.underlying t = some (.slice e)) (hi : P.info? e = some i) (hz : i.zero = some z)
    (hsize : i.size = size) (hby : i.bytes = bytes) (hzs : z.cells.size = size) (hsz : 0 < size)
    (v : Value) (n : Nat) (xs : List Value) (hs : a.eval s = v) (hown : w.ownsRow base e size v n xs)
    (B : Nat) (A : Option Addr) (m c : Nat) (news : List Value) (hx : a.eval x = .slice A m c) (hr : CellsIn B w A news) (hl : news.length = m * size) (h1 : ∀ u ∈ news, u.oneCell' = true)
    (h63 : n + m ≤ maxLen) (hbytes : (n + m) * bytes ≤ 140737488355328) (hbase : base ≤ w.heap.size)
    (h : ∀ v' w', w'.ownsRow base e size v' (n + m) (xs ++ news) → w.grownBy w' v.ownBlock → (v'.ownBlock = v.ownBlock ∨ v'.ownBlock = some w.heap.size) → wpList P ops Q rest (a.put o.dst v') w') : wpList P ops Q (o :: rest) a w :=
  wpList_plain hgd fun _ hK => wp_append_cells w s x t ho base e i z size bytes ht hi hz hsize hby hzs hsz v n xs hs hown B A m c news hx hr hl h1 h63 hbytes hbase fun v' w' h2 h3 h4 => hK _ _ (h v' w' h2 h3 h4)
end

theorem int_info : (Tryz.prog.info? 3).map (fun i => (i.zero, i.size, i.bytes)) = some (some (.int .i64 0), 1, 8) := by kernel_rfl

/-- Behind an append onto a row that lies beyond the heap's size at the beginning: all before that is as it was. -/
theorem pg {w a b : World} {v : Value} {base : Nat} {e : TypeId} {size n : Nat} {xs : List Value} (h : Below w.heap.size w a) (hown : a.ownsRow base e size v n xs) (hb : w.heap.size ≤ base) (hg : a.grownBy b v.ownBlock) : Below w.heap.size w b :=
  h.grown hg h.size fun k hk => Nat.le_trans hb (hown.lt k hk).1

end Go.Proofs.YtnhcamokcggnkaaGreatDoor
end

section
namespace Go.Proofs.YtnhcamokcggnkaaGreatDoor
open Go.RowKit Go.Shelf
variable {P : Program}

/-- The iterator's word: J holds between two rounds, what has come being pre; Pr of what a round is handed, in the world in which the round begins; Kp of a round that goes on (the world in which the loop began first). -/
def SeqP {α : Type} (n : Nat) (P : Program) (g : Nat) (fb lb : Array Value) (encs : α → Array Value) (Pr : α → World → Prop) (Kp : World → World → World → Prop) (S Sp : List α → Prop) (N : Nat) (w : World) : Prop :=
  ∀ (l : Nat) (J Jx : List α → World → Prop) (W : World), Below w.heap.size w W → AbidesFrom W.heap.size J → AbidesFrom W.heap.size Jx →
    (∀ pre x W1, J pre W1 → Pr x W1 → pre.length < N → YieldAt Fence.wide (n - 1) P l (encs x) W1 fun e W' =>
      (e = .returned (.bool true) ∧ J (pre ++ [x]) W' ∧ Kp W W1 W') ∨ (e = .returned (.bool false) ∧ Jx (pre ++ [x]) W')) →
    J [] W →
    CallsIn Fence.wide n P g (fb ++ #[.func (.yield l) #[] #[]] ++ lb) W fun e W' => (∃ v, e = .returned v) ∧ ((∃ xs, S xs ∧ J xs W') ∨ (∃ pre, Sp pre ∧ Jx pre W'))

theorem rangeFunc_law {α : Type} {g : Operand} {ps : Array Tmp} {assign body : Code} {Q : Exit → Act → World → Prop} {a : Act} {w : World} {n : Nat}
    (h1 : 1 ≤ n) {gf : Nat} {fb lb : Array Value} (hg : a.eval g = .func (.func gf) fb lb) (eg : ∀ args w, (callFunc gf args).run P w = .ok (.enter gf args) w)
    {encs : α → Array Value} {Pr : α → World → Prop} {Kp : World → World → World → Prop} {S Sp : List α → Prop} {N : Nat} {w0 : World} (hseq : SeqP (n - 1) P gf fb lb encs Pr Kp S Sp N w0) (hb0 : Below w0.heap.size w0 w)
    (hKt : ∀ {W A B C : World}, Kp W A B → Kp W B C → Kp W A C) (hKr : ∀ (W A : World) (l : Nat) (o o' : Obj), w.heap.size ≤ l → l < W.heap.size → A.heap[l]? = some o → o.isCells = false → Kp W A (A.putObj l o'))
    (hPr : ∀ x (A : World) (l : Nat) (o o' : Obj), A.heap[l]? = some o → o.isCells = false → Pr x A → Pr x (A.putObj l o')) (hps : ∀ x, (encs x).size = ps.size)
    (I : List α → World → Prop) (Ix : Code → List α → World → Prop) (hI : OwnFrom w.heap.size I) (hIx : ∀ c, OwnFrom w.heap.size (Ix c)) (h0 : I [] w) (a₁ : α → Act)
    (hassign : ∀ (l : Nat) (x : α) (W : World) (K : Act → World → Prop), K (a₁ x) W →
      assign.wpIn (Fence.wide.inRound l) (n - 1 - 1) P (Exit.then K (fun _ _ _ => False)) { tmps := (ps.zip (encs x)).foldl (fun t (p, v) => t.setIfInBounds p v) a.tmps, defers := [] } W)
    (hbody : ∀ (l : Nat) (pre : List α) (x : α) (Wb W : World), Wb.heap.size = w.heap.size + 1 + 1 → I pre W → Pr x W → pre.length < N → body.wpIn (Fence.wide.inRound l) (n - 1 - 1) P (ownPostG w.heap.size (Kp Wb) I Ix (pre ++ [x]) W) (a₁ x) W)
    (hdone : ∀ (D : Nat) (xs : List α) (W : World), w.heap.size ≤ D → S xs → I xs W → W.heap[D]? = some (.deferred (some [])) → Q .normal { a with defers := { target := .collected D, args := #[] } :: a.defers } W)
    (hstop : ∀ (D : Nat) (c : Code) (pre : List α) (W : World), w.heap.size ≤ D → Sp pre → Ix c pre W → W.heap[D]? = some (.deferred (some [])) → c.wpIn Fence.wide n P Q { a with defers := { target := .collected D, args := #[] } :: a.defers } W) :
    (Code.rangeFunc g ps assign body).wpIn Fence.wide n P Q a w := by
  refine wpIn_rangeFunc ?_
  intro fn hfn
  rw [show Fence.wide.round = none from rfl]
  obtain ⟨rec, hrec⟩ : ∃ rec : LoopState → Option Code → Loop, rec = fun st pe => { state := st, pending := pe, fn, tmps := a.tmps, params := ps, assign, body, defers := w.heap.size } := ⟨_, rfl⟩
  obtain ⟨W1, hW1⟩ : ∃ W1, (w.alloc (.deferred (some []))).alloc (.loop (rec .ready none)) = W1 := ⟨_, rfl⟩
  have hS1 : W1.heap.size = w.heap.size + 1 + 1 := by rw [← hW1]; simp
  have hL1 : W1.heap[w.heap.size + 1]? = some (.loop (rec .ready none)) := by
    rw [← hW1]; have := World.alloc_heap_new (w.alloc (.deferred (some []))) (.loop (rec .ready none)); rwa [World.size_alloc] at this
  have hK1 : W1.heap[w.heap.size]? = some (.deferred (some [])) := by
    rw [← hW1]; exact (Below.heap_alloc _ _ _ (by simp)).trans (World.alloc_heap_new w _)
  have hI1 : I [] W1 := by rw [← hW1]; exact hI.alloc _ (hI.alloc _ h0)
  have hb1 : Below w0.heap.size w0 W1 := by
    rw [← hW1]; exact hb0.trans ((((Below.refl _ w).alloc (Nat.le_refl _) _).alloc (by simp) _).mono hb0.size)
  refine ⟨w.heap.size + 1, [{ target := .collected w.heap.size, args := #[] }], W1, { target := .fn (.func gf) lb, args := fb ++ #[.func (.yield (w.heap.size + 1)) #[] #[]] }, W1, gf,
    fb ++ #[.func (.yield (w.heap.size + 1)) #[] #[]] ++ lb, W1, ?_, ?_, ?_, ?_, fun _ => h1, ?_⟩
  · rw [← hW1, hrec]; exact run_enterLoop_outer _ _ _ _ _
  · simp only [resolve, hg]
    simp [go_sem]
  · intro f' hf'; trivial
  · simp [invoke, go_sem, eg]
  · have hnw : ∀ {A : World} {row : Option Nat}, (∀ r, row = some r → W1.heap.size ≤ r ∧ ∃ o : Obj, A.heap[r]? = some o ∧ o.isWalk = true) → (∀ r, row = some r → w.heap.size ≤ r ∧ ∃ o : Obj, A.heap[r]? = some o ∧ o.isCells = false) :=
      fun hr r e => by obtain ⟨hB, o, ho, hw⟩ := hr r e; exact ⟨by omega, o, ho, Obj.not_cells_of_walk hw⟩
    refine (hseq (w.heap.size + 1)
      (fun pre W => I pre W ∧ W.heap[w.heap.size + 1]? = some (.loop (rec .ready none)) ∧ W.heap[w.heap.size]? = some (.deferred (some [])))
      (fun pre W => ∃ c, Ix c pre W ∧ W.heap[w.heap.size + 1]? = some (.loop (rec .done (some c))) ∧ W.heap[w.heap.size]? = some (.deferred (some [])))
      W1 hb1
      (fun s A B row hs hg' hr => ⟨hI s A B row hs.1 hg' (hnw hr), (grownBy_keeps hg' (fun r e => (hr r e).2) hs.2.1 rfl).trans hs.2.1, (grownBy_keeps hg' (fun r e => (hr r e).2) hs.2.2 rfl).trans hs.2.2⟩)
      (fun s A B row hs hg' hr => by
        obtain ⟨c, hc, hl, hk⟩ := hs
        exact ⟨c, hIx c s A B row hc hg' (hnw hr), (grownBy_keeps hg' (fun r e => (hr r e).2) hl rfl).trans hl, (grownBy_keeps hg' (fun r e => (hr r e).2) hk rfl).trans hk⟩)
      ?_ ⟨hI1, hL1, hK1⟩).mono ?_
    · rintro pre x W ⟨hi, hl, hk⟩ hpr hlen
      have hlt : w.heap.size + 1 < W.heap.size := (Array.getElem?_eq_some_iff.1 hl).1
      have hy := run_yield (P := P) (args := encs x) hl (by rw [hrec]; exact hps x)
      rw [hrec] at hy
      refine ⟨fn, _, assign, body, hy, roundIn_of_wpIn hfn (hassign _ x W _ ?_)⟩
      clear hy
      refine ⟨_, run_beginRound hl (by rw [hrec]), ?_⟩
      have hl2 : (W.putObj (w.heap.size + 1) (.loop { rec .ready none with state := .busy })).heap[w.heap.size + 1]? = some (.loop { rec .ready none with state := .busy }) := World.putObj_heap_same hlt
      have hk2 : (W.putObj (w.heap.size + 1) (.loop { rec .ready none with state := .busy })).heap[w.heap.size]? = some (.deferred (some [])) := (World.putObj_heap_other (by omega)).trans hk
      have hw2 : Kp W1 W (W.putObj (w.heap.size + 1) (.loop { rec .ready none with state := .busy })) := hKr _ _ _ _ _ (by omega) (by omega) hl rfl
      refine wpIn_mono (hbody _ pre x W1 _ hS1 (hI.putObj _ hi (by omega) hl rfl) (hPr _ _ _ _ _ hl rfl hpr) hlen) ?_
      have fin : ∀ (jump : Option Code) (W3 : World), KeepsFrom w.heap.size (W.putObj (w.heap.size + 1) (.loop { rec .ready none with state := .busy })) W3 →
          (Instr.endRound (w.heap.size + 1) jump).run P W3 = .ok (.bool jump.isNone) (W3.putObj (w.heap.size + 1) (.loop (rec (if jump.isNone then .ready else .done) jump))) ∧
          W3.heap[w.heap.size + 1]? = some (.loop { rec .ready none with state := .busy }) ∧
          (W3.putObj (w.heap.size + 1) (.loop (rec (if jump.isNone then .ready else .done) jump))).heap[w.heap.size + 1]? = some (.loop (rec (if jump.isNone then .ready else .done) jump)) ∧
          (W3.putObj (w.heap.size + 1) (.loop (rec (if jump.isNone then .ready else .done) jump))).heap[w.heap.size]? = some (.deferred (some [])) := fun jump W3 hk3 => by
        have hl3 := hk3.same _ _ (by omega) hl2 rfl
        have := run_endRound (P := P) jump hl3
        rw [hrec] at this ⊢
        exact ⟨this, by rw [hrec] at hl3; exact hl3, World.putObj_heap_same (Array.getElem?_eq_some_iff.1 hl3).1, (World.putObj_heap_other (by omega)).trans (hk3.same _ _ (Nat.le_refl _) hk2 rfl)⟩
      rintro e a3 W3 hp
      cases e with
      | normal =>
        obtain ⟨hk3, hkp3, hi3⟩ := hp
        obtain ⟨hr, hl3, hl4, hk4⟩ := fin none W3 hk3
        exact ⟨_, _, hr, .inl ⟨rfl, ⟨hI.putObj _ hi3 (by omega) hl3 rfl, hl4, hk4⟩, hKt (hKt hw2 hkp3) (hKr _ _ _ _ _ (by omega) (by omega) hl3 rfl)⟩⟩
      | ret =>
        obtain ⟨hk3, hi3⟩ := hp
        obtain ⟨hr, hl3, hl4, hk4⟩ := fin (some .ret) W3 hk3
        exact ⟨_, _, hr, .inr ⟨rfl, .ret, (hIx _).putObj _ hi3 (by omega) hl3 rfl, hl4, hk4⟩⟩
      | exit id =>
        obtain ⟨hk3, hi3⟩ := hp
        obtain ⟨hr, hl3, hl4, hk4⟩ := fin (some (.exit id)) W3 hk3
        exact ⟨_, _, hr, .inr ⟨rfl, .exit id, (hIx _).putObj _ hi3 (by omega) hl3 rfl, hl4, hk4⟩⟩
      | goto t =>
        obtain ⟨hk3, hi3⟩ := hp
        obtain ⟨hr, hl3, hl4, hk4⟩ := fin (some (.goto t)) W3 hk3
        exact ⟨_, _, hr, .inr ⟨rfl, .goto t, (hIx _).putObj _ hi3 (by omega) hl3 rfl, hl4, hk4⟩⟩
      | panic ch => exact hp.elim
      | outgrown => exact hp.elim
    · rintro e W2 ⟨⟨v, rfl⟩, (⟨xs, hS, hi, hl, hk⟩ | ⟨pre, hSp, c, hi, hl, hk⟩)⟩
      · exact ⟨none, _, by have := run_endLoop (P := P) hl (by rw [hrec]; simp); rw [hrec] at this; exact this, hdone _ xs _ (Nat.le_refl _) hS (hI.putObj _ hi (by omega) hl rfl) ((World.putObj_heap_other (by omega)).trans hk)⟩
      · exact ⟨some c, _, by have := run_endLoop (P := P) hl (by rw [hrec]; simp); rw [hrec] at this; exact this, hstop _ c pre _ (Nat.le_refl _) hSp ((hIx c).putObj _ hi (by omega) hl rfl) ((World.putObj_heap_other (by omega)).trans hk)⟩

end Go.Proofs.YtnhcamokcggnkaaGreatDoor
end

section
namespace Go.Proofs.YtnhcamokcggnkaaGreatDoor
open Go.RowKit Go.Shelf
attribute [local go_sem] Oper.semAt_some

def eq3 (x1 x2 x3 y1 y2 y3 : Int) : Bool := x1 == y1 && x2 == y2 && x3 == y3
set_option maxRecDepth 100000 in
theorem th3_eqlIn (d : Nat) (x1 x2 x3 y1 y2 y3 : Int) (W : World) : (Op.equalIn (d + 2) 68 (.agg #[.int .i64 x1, .int .i64 x2, .int .i64 x3]) (.agg #[.int .i64 y1, .int .i64 y2, .int .i64 y3])).run Tryz.prog W = .ok (eq3 x1 x2 x3 y1 y2 y3) W := by
  have h1 : Tryz.prog.underlying 68 = some (.array 3 3) := by kernel_rfl
  obtain ⟨i, hi⟩ : ∃ i, Tryz.prog.info? 3 = some i := Option.isSome_iff_exists.1 (by kernel_rfl)
  have hp : Tryz.prog.plainKey 3 = true := by kernel_rfl
  have hc : Tryz.prog.cellsOf 3 = 1 := by kernel_rfl
  have hu : Tryz.prog.underlying 3 = some (.int .i64) := by kernel_rfl
  have e1 : ∀ (x y : Int) (W : World), (Op.equalIn (d + 1) 3 (.int .i64 x) (.int .i64 y)).run Tryz.prog W = .ok (x == y) W := fun x y W => by
    simp [Op.equalIn, run_underlying hu]
  have q0 : ∀ x1 x2 x3 W, (part 3 #[.int .i64 x1, .int .i64 x2, .int .i64 x3] 0).run Tryz.prog W = .ok (.int .i64 x1) W := fun _ _ _ W => run_part_plain W hp rfl
  have q1 : ∀ x1 x2 x3 W, (part 3 #[.int .i64 x1, .int .i64 x2, .int .i64 x3] 1).run Tryz.prog W = .ok (.int .i64 x2) W := fun _ _ _ W => run_part_plain W hp rfl
  have q2 : ∀ x1 x2 x3 W, (part 3 #[.int .i64 x1, .int .i64 x2, .int .i64 x3] 2).run Tryz.prog W = .ok (.int .i64 x3) W := fun _ _ _ W => run_part_plain W hp rfl
  rw [run_equalIn_array W (d + 1) _ _ h1 hi, hc, show List.range 3 = [0, 1, 2] from rfl]
  unfold eq3
  by_cases g1 : x1 = y1 <;> by_cases g2 : x2 = y2 <;> by_cases g3 : x3 = y3 <;> simp [Op.eqItems, q0, q1, q2, e1, g1, g2, g3]
theorem th3_eql (x1 x2 x3 y1 y2 y3 : Int) (W : World) : (binOp .eql 68 (.agg #[.int .i64 x1, .int .i64 x2, .int .i64 x3]) (.agg #[.int .i64 y1, .int .i64 y2, .int .i64 y3])).run Tryz.prog W = .ok (.bool (eq3 x1 x2 x3 y1 y2 y3)) W := by
  have h := th3_eqlIn 9998 x1 x2 x3 y1 y2 y3 W
  simp only [show 9998 + 2 = 10000 from rfl] at h
  simp [go_sem, h]

theorem abides_past {β : Type} {B : Nat} {J : β → World → Prop} (hJ : AbidesFrom B J) {s : β} {W W' : World} (h : J s W) (hb : Below W.heap.size W W') : J s W' :=
  hJ s W W' none h ⟨hb.os, hb.tape, hb.output, hb.size, fun i hi _ => hb.block i hi⟩ (fun r e => by cases e)

theorem roundIn_any {m m' : Nat} {P : Program} {l : Nat} {f : FuncId} {tmps : Array Value} {assign body : Code} {w : World} {R : Ending → World → Prop}
    (h : RoundIn Fence.wide m P l f tmps assign body w R) : RoundIn Fence.wide m' P l f tmps assign body w R := ⟨h.1, fun c cs _ => h.2 c cs (room_wide _)⟩

def permEnc (p : V3) : Array Value := #[.agg #[.int .i64 p.a, .int .i64 p.b, .int .i64 p.c]]

set_option maxRecDepth 100000 in
set_option maxHeartbeats 4000000 in
theorem perm_seqP (n : Nat) (w0 : World) :
    SeqP n Tryz.prog 127 #[] #[] permEnc (fun p _ => isPerm p = true) (fun _ _ _ => True)
      (fun xs => xs = permL) (fun pre => pre ≠ [] ∧ pre <+: permL) 6 w0 := by
  intro l J Jx W hW hJ hJx hY h0
  have HY := Lib.hid hY
  have HJ := Lib.hid hJ
  clear hY hJ hJx hW
  refine callsIn_of_wp Tryz.func127 rfl trivial ?_ rfl
  simp only [Tryz.ntmps127, List.size_toArray, List.length_cons, List.length_nil, Nat.reduceAdd, Nat.reduceSub, Array.replicate_succ, Array.replicate_zero, List.push_toArray, List.append_toArray, List.nil_append, List.cons_append]
  gi_wp2
  refine wpIn_loop_rounds 4 ?_
  rw [roundsIn_succ]
  gi_wp2
  refine wpIn_loop_rounds 4 ?_
  rw [roundsIn_succ]
  have j1 := abides_past HJ.out h0 (pa pr : Below W.heap.size W (W.alloc (.cells #[.int .i64 0, .int .i64 0, .int .i64 3] 68)))
  gi_wp2_with (with_reducible refine ⟨(by intro f h; cases h), ?_⟩)
  generalize W.alloc (.cells #[.int .i64 0, .int .i64 0, .int .i64 3] 68) = v1 at *
  clear h0
  rw [roundsIn_succ]
  have j2 := abides_past HJ.out j1 (pa pr : Below v1.heap.size v1 (v1.alloc (.cells #[.int .i64 0, .int .i64 1, .int .i64 2] 68)))
  obtain ⟨fn, tmps, assign, body, hy, hR⟩ := HY.out [] ⟨0, 1, 2⟩ _ j2 rfl (by decide)
  simp only [permEnc, List.nil_append, List.cons_append] at hy hR
  gi_wp2
  refine ⟨(fun h => nomatch h), (roundIn_any hR).mono ?_⟩
  rintro e v2 (⟨rfl, k2, _⟩ | ⟨rfl, k2⟩)
  rotate_left
  · gi_wp2
    refine bodyPost_ret (results_none rfl _ _ _) rfl ?_
    exact ⟨⟨_, rfl⟩, .inr ⟨[⟨0, 1, 2⟩], ⟨by simp, by decide⟩, k2⟩⟩
  gi_wp2
  clear hy hR j2 j1
  rw [roundsIn_succ]
  have j3 := abides_past HJ.out k2 (pa pr : Below v2.heap.size v2 (v2.alloc (.cells #[.int .i64 0, .int .i64 2, .int .i64 1] 68)))
  obtain ⟨fn, tmps, assign, body, hy, hR⟩ := HY.out [⟨0, 1, 2⟩] ⟨0, 2, 1⟩ _ j3 rfl (by decide)
  simp only [permEnc, List.nil_append, List.cons_append] at hy hR
  gi_wp2
  refine ⟨(fun h => nomatch h), (roundIn_any hR).mono ?_⟩
  rintro e v3 (⟨rfl, k3, _⟩ | ⟨rfl, k3⟩)
  rotate_left
  · gi_wp2
    refine bodyPost_ret (results_none rfl _ _ _) rfl ?_
    exact ⟨⟨_, rfl⟩, .inr ⟨[⟨0, 1, 2⟩, ⟨0, 2, 1⟩], ⟨by simp, by decide⟩, k3⟩⟩
  gi_wp2
  clear hy hR j3 k2
  rw [roundsIn_succ]
  gi_wp2
  rw [roundsIn_succ]
  gi_wp2
  refine wpIn_loop_rounds 4 ?_
  rw [roundsIn_succ]
  have j4 := abides_past HJ.out k3 (pa pr : Below v3.heap.size v3 (v3.alloc (.cells #[.int .i64 1, .int .i64 0, .int .i64 2] 68)))
  obtain ⟨fn, tmps, assign, body, hy, hR⟩ := HY.out [⟨0, 1, 2⟩, ⟨0, 2, 1⟩] ⟨1, 0, 2⟩ _ j4 rfl (by decide)
  simp only [permEnc, List.nil_append, List.cons_append] at hy hR
  gi_wp2
  refine ⟨(fun h => nomatch h), (roundIn_any hR).mono ?_⟩
  rintro e v4 (⟨rfl, k4, _⟩ | ⟨rfl, k4⟩)
  rotate_left
  · gi_wp2
    refine bodyPost_ret (results_none rfl _ _ _) rfl ?_
    exact ⟨⟨_, rfl⟩, .inr ⟨[⟨0, 1, 2⟩, ⟨0, 2, 1⟩, ⟨1, 0, 2⟩], ⟨by simp, by decide⟩, k4⟩⟩
  gi_wp2
  clear hy hR j4 k3
  rw [roundsIn_succ]
  have j5 := abides_past HJ.out k4 (pa pr : Below v4.heap.size v4 (v4.alloc (.cells #[.int .i64 1, .int .i64 1, .int .i64 1] 68)))
  gi_wp2_with (with_reducible refine ⟨(by intro f h; cases h), ?_⟩)
  generalize v4.alloc (.cells #[.int .i64 1, .int .i64 1, .int .i64 1] 68) = v5 at *
  clear k4
  rw [roundsIn_succ]
  have j6 := abides_past HJ.out j5 (pa pr : Below v5.heap.size v5 (v5.alloc (.cells #[.int .i64 1, .int .i64 2, .int .i64 0] 68)))
  obtain ⟨fn, tmps, assign, body, hy, hR⟩ := HY.out [⟨0, 1, 2⟩, ⟨0, 2, 1⟩, ⟨1, 0, 2⟩] ⟨1, 2, 0⟩ _ j6 rfl (by decide)
  simp only [permEnc, List.nil_append, List.cons_append] at hy hR
  gi_wp2
  refine ⟨(fun h => nomatch h), (roundIn_any hR).mono ?_⟩
  rintro e v6 (⟨rfl, k6, _⟩ | ⟨rfl, k6⟩)
  rotate_left
  · gi_wp2
    refine bodyPost_ret (results_none rfl _ _ _) rfl ?_
    exact ⟨⟨_, rfl⟩, .inr ⟨[⟨0, 1, 2⟩, ⟨0, 2, 1⟩, ⟨1, 0, 2⟩, ⟨1, 2, 0⟩], ⟨by simp, by decide⟩, k6⟩⟩
  gi_wp2
  clear hy hR j6 j5
  rw [roundsIn_succ]
  gi_wp2
  rw [roundsIn_succ]
  gi_wp2
  refine wpIn_loop_rounds 4 ?_
  rw [roundsIn_succ]
  have j7 := abides_past HJ.out k6 (pa pr : Below v6.heap.size v6 (v6.alloc (.cells #[.int .i64 2, .int .i64 0, .int .i64 1] 68)))
  obtain ⟨fn, tmps, assign, body, hy, hR⟩ := HY.out [⟨0, 1, 2⟩, ⟨0, 2, 1⟩, ⟨1, 0, 2⟩, ⟨1, 2, 0⟩] ⟨2, 0, 1⟩ _ j7 rfl (by decide)
  simp only [permEnc, List.nil_append, List.cons_append] at hy hR
  gi_wp2
  refine ⟨(fun h => nomatch h), (roundIn_any hR).mono ?_⟩
  rintro e v7 (⟨rfl, k7, _⟩ | ⟨rfl, k7⟩)
  rotate_left
  · gi_wp2
    refine bodyPost_ret (results_none rfl _ _ _) rfl ?_
    exact ⟨⟨_, rfl⟩, .inr ⟨[⟨0, 1, 2⟩, ⟨0, 2, 1⟩, ⟨1, 0, 2⟩, ⟨1, 2, 0⟩, ⟨2, 0, 1⟩], ⟨by simp, by decide⟩, k7⟩⟩
  gi_wp2
  clear hy hR j7 k6
  rw [roundsIn_succ]
  have j8 := abides_past HJ.out k7 (pa pr : Below v7.heap.size v7 (v7.alloc (.cells #[.int .i64 2, .int .i64 1, .int .i64 0] 68)))
  obtain ⟨fn, tmps, assign, body, hy, hR⟩ := HY.out [⟨0, 1, 2⟩, ⟨0, 2, 1⟩, ⟨1, 0, 2⟩, ⟨1, 2, 0⟩, ⟨2, 0, 1⟩] ⟨2, 1, 0⟩ _ j8 rfl (by decide)
  simp only [permEnc, List.nil_append, List.cons_append] at hy hR
  gi_wp2
  refine ⟨(fun h => nomatch h), (roundIn_any hR).mono ?_⟩
  rintro e v8 (⟨rfl, k8, _⟩ | ⟨rfl, k8⟩)
  rotate_left
  · gi_wp2
    refine bodyPost_ret (results_none rfl _ _ _) rfl ?_
    exact ⟨⟨_, rfl⟩, .inr ⟨[⟨0, 1, 2⟩, ⟨0, 2, 1⟩, ⟨1, 0, 2⟩, ⟨1, 2, 0⟩, ⟨2, 0, 1⟩, ⟨2, 1, 0⟩], ⟨by simp, by decide⟩, k8⟩⟩
  gi_wp2
  clear hy hR j8 k7
  rw [roundsIn_succ]
  have j9 := abides_past HJ.out k8 (pa pr : Below v8.heap.size v8 (v8.alloc (.cells #[.int .i64 2, .int .i64 2, .int .i64 (-1)] 68)))
  gi_wp2_with (with_reducible refine ⟨(by intro f h; cases h), ?_⟩)
  generalize v8.alloc (.cells #[.int .i64 2, .int .i64 2, .int .i64 (-1)] 68) = v9 at *
  clear k8
  rw [roundsIn_succ]
  gi_wp2
  rw [roundsIn_succ]
  gi_wp2
  go_end0
  exact ⟨⟨_, rfl⟩, .inl ⟨_, rfl, j9⟩⟩

theorem perm_seq (n : Nat) (w0 : World) :
    SeqP n Tryz.prog 127 #[] #[] permEnc (fun _ _ => True) (fun _ _ _ => True)
      (fun xs => xs = permL) (fun pre => pre ≠ [] ∧ pre <+: permL) 6 w0 := fun l J Jx W hW hJ hJx hY h0 =>
  perm_seqP n w0 l J Jx W hW hJ hJx (fun pre x W1 hj _ hl => hY pre x W1 hj trivial hl) h0

end Go.Proofs.YtnhcamokcggnkaaGreatDoor
end

section
namespace Go.Proofs.YtnhcamokcggnkaaGreatDoor
open Go.RowKit Go.Shelf
variable {P : Program}

theorem rangeFunc_lawA {α : Type} {g : Operand} {ps : Array Tmp} {assign body : Code} {Q : Exit → Act → World → Prop} {a : Act} {w : World} {n : Nat}
    (h1 : 1 ≤ n) {gf : Nat} {fb lb : Array Value} (hg : a.eval g = .func (.func gf) fb lb) (eg : ∀ args w, (callFunc gf args).run P w = .ok (.enter gf args) w)
    {encs : α → Array Value} {Pr : α → World → Prop} {Kp : World → World → World → Prop} {S Sp : List α → Prop} {N : Nat} {w0 : World} (hseq : SeqP (n - 1) P gf fb lb encs Pr Kp S Sp N w0) (hb0 : Below w0.heap.size w0 w)
    (hKt : ∀ {W A B C : World}, Kp W A B → Kp W B C → Kp W A C) (hKr : ∀ (W A : World) (l : Nat) (o o' : Obj), w.heap.size ≤ l → l < W.heap.size → A.heap[l]? = some o → o.isCells = false → Kp W A (A.putObj l o'))
    (hPr : ∀ x (A : World) (l : Nat) (o o' : Obj), A.heap[l]? = some o → o.isCells = false → Pr x A → Pr x (A.putObj l o')) (hps : ∀ x, (encs x).size = ps.size)
    (I : List α → World → Prop) (Ix : Code → List α → World → Prop) (hI : OwnFrom w.heap.size I) (hIx : ∀ c, OwnFrom w.heap.size (Ix c)) (h0 : I [] w) (a₁ : α → World → Act) (ao : α → Obj)
    (hKa : ∀ (W A : World) (o : Obj), Kp W A (A.alloc o)) (hPa : ∀ x (A : World) (o : Obj), Pr x A → Pr x (A.alloc o))
    (hassign : ∀ (l : Nat) (x : α) (W : World) (K : Act → World → Prop), K (a₁ x W) (W.alloc (ao x)) →
      assign.wpIn (Fence.wide.inRound l) (n - 1 - 1) P (Exit.then K (fun _ _ _ => False)) { tmps := (ps.zip (encs x)).foldl (fun t (p, v) => t.setIfInBounds p v) a.tmps, defers := [] } W)
    (hbody : ∀ (l : Nat) (pre : List α) (x : α) (Wb W0 W : World), Wb.heap.size = w.heap.size + 1 + 1 → w.heap.size + 1 + 1 ≤ W0.heap.size → W.heap.size = W0.heap.size + 1 → W.heap[W0.heap.size]? = some (ao x) → I pre W → Pr x W → pre.length < N → body.wpIn (Fence.wide.inRound l) (n - 1 - 1) P (ownPostG w.heap.size (Kp Wb) I Ix (pre ++ [x]) W) (a₁ x W0) W)
    (hdone : ∀ (D : Nat) (xs : List α) (W : World), w.heap.size ≤ D → S xs → I xs W → W.heap[D]? = some (.deferred (some [])) → Q .normal { a with defers := { target := .collected D, args := #[] } :: a.defers } W)
    (hstop : ∀ (D : Nat) (c : Code) (pre : List α) (W : World), w.heap.size ≤ D → Sp pre → Ix c pre W → W.heap[D]? = some (.deferred (some [])) → c.wpIn Fence.wide n P Q { a with defers := { target := .collected D, args := #[] } :: a.defers } W) :
    (Code.rangeFunc g ps assign body).wpIn Fence.wide n P Q a w := by
  refine wpIn_rangeFunc ?_
  intro fn hfn
  rw [show Fence.wide.round = none from rfl]
  obtain ⟨rec, hrec⟩ : ∃ rec : LoopState → Option Code → Loop, rec = fun st pe => { state := st, pending := pe, fn, tmps := a.tmps, params := ps, assign, body, defers := w.heap.size } := ⟨_, rfl⟩
  obtain ⟨W1, hW1⟩ : ∃ W1, (w.alloc (.deferred (some []))).alloc (.loop (rec .ready none)) = W1 := ⟨_, rfl⟩
  have hS1 : W1.heap.size = w.heap.size + 1 + 1 := by rw [← hW1]; simp
  have hL1 : W1.heap[w.heap.size + 1]? = some (.loop (rec .ready none)) := by
    rw [← hW1]; have := World.alloc_heap_new (w.alloc (.deferred (some []))) (.loop (rec .ready none)); rwa [World.size_alloc] at this
  have hK1 : W1.heap[w.heap.size]? = some (.deferred (some [])) := by
    rw [← hW1]; exact (Below.heap_alloc _ _ _ (by simp)).trans (World.alloc_heap_new w _)
  have hI1 : I [] W1 := by rw [← hW1]; exact hI.alloc _ (hI.alloc _ h0)
  have hb1 : Below w0.heap.size w0 W1 := by
    rw [← hW1]; exact hb0.trans ((((Below.refl _ w).alloc (Nat.le_refl _) _).alloc (by simp) _).mono hb0.size)
  refine ⟨w.heap.size + 1, [{ target := .collected w.heap.size, args := #[] }], W1, { target := .fn (.func gf) lb, args := fb ++ #[.func (.yield (w.heap.size + 1)) #[] #[]] }, W1, gf,
    fb ++ #[.func (.yield (w.heap.size + 1)) #[] #[]] ++ lb, W1, ?_, ?_, ?_, ?_, fun _ => h1, ?_⟩
  · rw [← hW1, hrec]; exact run_enterLoop_outer _ _ _ _ _
  · simp only [resolve, hg]
    simp [go_sem]
  · intro f' hf'; trivial
  · simp [invoke, go_sem, eg]
  · have hnw : ∀ {A : World} {row : Option Nat}, (∀ r, row = some r → W1.heap.size ≤ r ∧ ∃ o : Obj, A.heap[r]? = some o ∧ o.isWalk = true) → (∀ r, row = some r → w.heap.size ≤ r ∧ ∃ o : Obj, A.heap[r]? = some o ∧ o.isCells = false) :=
      fun hr r e => by obtain ⟨hB, o, ho, hw⟩ := hr r e; exact ⟨by omega, o, ho, Obj.not_cells_of_walk hw⟩
    refine (hseq (w.heap.size + 1)
      (fun pre W => I pre W ∧ W.heap[w.heap.size + 1]? = some (.loop (rec .ready none)) ∧ W.heap[w.heap.size]? = some (.deferred (some [])))
      (fun pre W => ∃ c, Ix c pre W ∧ W.heap[w.heap.size + 1]? = some (.loop (rec .done (some c))) ∧ W.heap[w.heap.size]? = some (.deferred (some [])))
      W1 hb1
      (fun s A B row hs hg' hr => ⟨hI s A B row hs.1 hg' (hnw hr), (grownBy_keeps hg' (fun r e => (hr r e).2) hs.2.1 rfl).trans hs.2.1, (grownBy_keeps hg' (fun r e => (hr r e).2) hs.2.2 rfl).trans hs.2.2⟩)
      (fun s A B row hs hg' hr => by
        obtain ⟨c, hc, hl, hk⟩ := hs
        exact ⟨c, hIx c s A B row hc hg' (hnw hr), (grownBy_keeps hg' (fun r e => (hr r e).2) hl rfl).trans hl, (grownBy_keeps hg' (fun r e => (hr r e).2) hk rfl).trans hk⟩)
      ?_ ⟨hI1, hL1, hK1⟩).mono ?_
    · rintro pre x W ⟨hi, hl, hk⟩ hpr hlen
      have hlt : w.heap.size + 1 < W.heap.size := (Array.getElem?_eq_some_iff.1 hl).1
      have hy := run_yield (P := P) (args := encs x) hl (by rw [hrec]; exact hps x)
      rw [hrec] at hy
      refine ⟨fn, _, assign, body, hy, roundIn_of_wpIn hfn (hassign _ x W _ ?_)⟩
      clear hy
      have hka : Kp W1 W (W.alloc (ao x)) := hKa _ _ _
      have hs0 : w.heap.size + 1 + 1 ≤ W.heap.size := hlt
      have hn0 : (W.alloc (ao x)).heap[W.heap.size]? = some (ao x) := World.alloc_heap_new _ _
      have hz0 : (W.alloc (ao x)).heap.size = W.heap.size + 1 := World.size_alloc _ _
      replace hi : I pre (W.alloc (ao x)) := hI.alloc _ hi
      replace hpr : Pr x (W.alloc (ao x)) := hPa _ _ _ hpr
      replace hk : (W.alloc (ao x)).heap[w.heap.size]? = some (.deferred (some [])) := (Below.heap_alloc _ _ _ (by omega)).trans hk
      replace hl : (W.alloc (ao x)).heap[w.heap.size + 1]? = some (.loop (rec .ready none)) := (Below.heap_alloc _ _ _ hlt).trans hl
      replace hlt : w.heap.size + 1 < (W.alloc (ao x)).heap.size := by omega
      refine ⟨_, run_beginRound hl (by rw [hrec]), ?_⟩
      generalize hU : W.alloc (ao x) = U at *
      have hl2 : (U.putObj (w.heap.size + 1) (.loop { rec .ready none with state := .busy })).heap[w.heap.size + 1]? = some (.loop { rec .ready none with state := .busy }) := World.putObj_heap_same hlt
      have hk2 : (U.putObj (w.heap.size + 1) (.loop { rec .ready none with state := .busy })).heap[w.heap.size]? = some (.deferred (some [])) := (World.putObj_heap_other (by omega)).trans hk
      have hw2 : Kp W1 U (U.putObj (w.heap.size + 1) (.loop { rec .ready none with state := .busy })) := hKr _ _ _ _ _ (by omega) (by omega) hl rfl
      refine wpIn_mono (hbody _ pre x W1 W _ hS1 hs0 (by simpa using hz0) ((World.putObj_heap_other (by omega)).trans hn0) (hI.putObj _ hi (by omega) hl rfl) (hPr _ _ _ _ _ hl rfl hpr) hlen) ?_
      have fin : ∀ (jump : Option Code) (W3 : World), KeepsFrom w.heap.size (U.putObj (w.heap.size + 1) (.loop { rec .ready none with state := .busy })) W3 →
          (Instr.endRound (w.heap.size + 1) jump).run P W3 = .ok (.bool jump.isNone) (W3.putObj (w.heap.size + 1) (.loop (rec (if jump.isNone then .ready else .done) jump))) ∧
          W3.heap[w.heap.size + 1]? = some (.loop { rec .ready none with state := .busy }) ∧
          (W3.putObj (w.heap.size + 1) (.loop (rec (if jump.isNone then .ready else .done) jump))).heap[w.heap.size + 1]? = some (.loop (rec (if jump.isNone then .ready else .done) jump)) ∧
          (W3.putObj (w.heap.size + 1) (.loop (rec (if jump.isNone then .ready else .done) jump))).heap[w.heap.size]? = some (.deferred (some [])) := fun jump W3 hk3 => by
        have hl3 := hk3.same _ _ (by omega) hl2 rfl
        have := run_endRound (P := P) jump hl3
        rw [hrec] at this ⊢
        exact ⟨this, by rw [hrec] at hl3; exact hl3, World.putObj_heap_same (Array.getElem?_eq_some_iff.1 hl3).1, (World.putObj_heap_other (by omega)).trans (hk3.same _ _ (Nat.le_refl _) hk2 rfl)⟩
      rintro e a3 W3 hp
      cases e with
      | normal =>
        obtain ⟨hk3, hkp3, hi3⟩ := hp
        obtain ⟨hr, hl3, hl4, hk4⟩ := fin none W3 hk3
        exact ⟨_, _, hr, .inl ⟨rfl, ⟨hI.putObj _ hi3 (by omega) hl3 rfl, hl4, hk4⟩, hKt hka (hKt (hKt hw2 hkp3) (hKr _ _ _ _ _ (by omega) (by omega) hl3 rfl))⟩⟩
      | ret =>
        obtain ⟨hk3, hi3⟩ := hp
        obtain ⟨hr, hl3, hl4, hk4⟩ := fin (some .ret) W3 hk3
        exact ⟨_, _, hr, .inr ⟨rfl, .ret, (hIx _).putObj _ hi3 (by omega) hl3 rfl, hl4, hk4⟩⟩
      | exit id =>
        obtain ⟨hk3, hi3⟩ := hp
        obtain ⟨hr, hl3, hl4, hk4⟩ := fin (some (.exit id)) W3 hk3
        exact ⟨_, _, hr, .inr ⟨rfl, .exit id, (hIx _).putObj _ hi3 (by omega) hl3 rfl, hl4, hk4⟩⟩
      | goto t =>
        obtain ⟨hk3, hi3⟩ := hp
        obtain ⟨hr, hl3, hl4, hk4⟩ := fin (some (.goto t)) W3 hk3
        exact ⟨_, _, hr, .inr ⟨rfl, .goto t, (hIx _).putObj _ hi3 (by omega) hl3 rfl, hl4, hk4⟩⟩
      | panic ch => exact hp.elim
      | outgrown => exact hp.elim
    · rintro e W2 ⟨⟨v, rfl⟩, (⟨xs, hS, hi, hl, hk⟩ | ⟨pre, hSp, c, hi, hl, hk⟩)⟩
      · exact ⟨none, _, by have := run_endLoop (P := P) hl (by rw [hrec]; simp); rw [hrec] at this; exact this, hdone _ xs _ (Nat.le_refl _) hS (hI.putObj _ hi (by omega) hl rfl) ((World.putObj_heap_other (by omega)).trans hk)⟩
      · exact ⟨some c, _, by have := run_endLoop (P := P) hl (by rw [hrec]; simp); rw [hrec] at this; exact this, hstop _ c pre _ (Nat.le_refl _) hSp ((hIx c).putObj _ hi (by omega) hl rfl) ((World.putObj_heap_other (by omega)).trans hk)⟩

end Go.Proofs.YtnhcamokcggnkaaGreatDoor
end

section
namespace Go.Proofs.YtnhcamokcggnkaaGreatDoor
open Go.RowKit Go.Shelf
attribute [local go_sem] Oper.semAt_some
attribute [local go_sem ↓ high] th3_eql

theorem own_blk {β : Type} (B g : Nat) (t : TypeId) (cs : Array Value) : OwnFrom B (fun (_ : β) W => Blk W g t cs) := fun _ W W' row hs hg hr =>
  hs.grown hg (fun e => by
    obtain ⟨_, o, ho, hc⟩ := hr g e.symm
    rw [show W.heap[g]? = _ from hs] at ho
    cases ho
    cases hc)
theorem Blk.putObj {w : World} {g D : Nat} {t : TypeId} {cs : Array Value} (h : Blk w g t cs) (hne : g ≠ D) {o : Obj} : Blk (w.putObj D o) g t cs := (World.putObj_heap_other hne).trans h
theorem below_put {w W : World} {D : Nat} (h : Below w.heap.size w W) (hD : w.heap.size ≤ D) {o : Obj} : Below w.heap.size w (W.putObj D o) :=
  h.trans ⟨rfl, rfl, rfl, by simp, fun k hk => World.putObj_heap_other (by omega)⟩

theorem eq3_iff {x1 x2 x3 y1 y2 y3 : Int} : eq3 x1 x2 x3 y1 y2 y3 = true ↔ (⟨x1, x2, x3⟩ : V3) = ⟨y1, y2, y3⟩ := by
  simp [eq3, and_assoc]

set_option maxRecDepth 100000 in
set_option maxHeartbeats 2000000 in
theorem isPermutation_any (a b c : Int) (w : World) :
    Calls Tryz.prog 84 #[.agg #[.int .i64 a, .int .i64 b, .int .i64 c]] w fun e w' => e = .returned (.bool (isPerm ⟨a, b, c⟩)) ∧ Below w.heap.size w w' := by
  refine (callsIn_wide (n := 1)).1 ?_
  refine callsIn_of_wp_marks Tryz.func84 rfl trivial ?_ rfl
  simp only [Tryz.ntmps84, List.size_toArray, List.length_cons, List.length_nil, Nat.reduceAdd, Nat.reduceSub, Array.replicate_succ, Array.replicate_zero, List.push_toArray, List.append_toArray, List.nil_append, List.cons_append]
  gi_wp2
  have r0 : Blk ((w.alloc (.cells #[.int .i64 a, .int .i64 b, .int .i64 c] 68)).alloc (.cells #[.bool false] 4)) w.heap.size 68 #[.int .i64 a, .int .i64 b, .int .i64 c] := (Blk.newAt rfl).alloc
  have r1 : Blk ((w.alloc (.cells #[.int .i64 a, .int .i64 b, .int .i64 c] 68)).alloc (.cells #[.bool false] 4)) (w.heap.size + 1) 4 #[.bool false] := Blk.newAt (by simp)
  have hb : Below w.heap.size w ((w.alloc (.cells #[.int .i64 a, .int .i64 b, .int .i64 c] 68)).alloc (.cells #[.bool false] 4)) := pa (pa pr)
  generalize ((w.alloc (.cells #[.int .i64 a, .int .i64 b, .int .i64 c] 68)).alloc (.cells #[.bool false] 4)) = W0 at *
  have hsz : w.heap.size + 1 < W0.heap.size := r1.lt
  refine rangeFunc_lawA (Nat.le_refl 1) (gf := 127) (fb := #[]) (lb := #[]) rfl (enters_of Tryz.func127 (by kernel_rfl) rfl)
    (perm_seq 0 W0) (Below.refl _ _) (fun _ _ => trivial) (fun _ _ _ _ _ _ _ _ _ => trivial) (fun _ _ _ _ _ _ _ h => h) (fun x => rfl)
    (fun pre W => (∀ x ∈ pre, x ≠ ⟨a, b, c⟩) ∧ Blk W w.heap.size 68 #[.int .i64 a, .int .i64 b, .int .i64 c] ∧ Blk W (w.heap.size + 1) 4 #[.bool false] ∧ Below w.heap.size w W)
    (fun c' pre W => c' = .ret ∧ (⟨a, b, c⟩ : V3) ∈ pre ∧ Blk W (w.heap.size + 1) 4 #[.bool true] ∧ Below w.heap.size w W)
    (fun s A B row hs hg hr => ⟨hs.1, own_blk _ _ _ _ s A B row hs.2.1 hg hr, own_blk _ _ _ _ s A B row hs.2.2.1 hg hr, ownFrom_below (Nat.le_refl _) hb.size s A B row hs.2.2.2 hg hr⟩)
    (fun c' s A B row hs hg hr => ⟨hs.1, hs.2.1, own_blk _ _ _ _ s A B row hs.2.2.1 hg hr, ownFrom_below (Nat.le_refl _) hb.size s A B row hs.2.2.2 hg hr⟩)
    ⟨(fun _ h => by cases h), r0, r1, hb⟩
    (fun x W0 => { tmps := #[.agg #[.int .i64 a, .int .i64 b, .int .i64 c], .pointer (some ⟨w.heap.size, 0, none⟩), .pointer (some ⟨w.heap.size + 1, 0, none⟩), .pointer (some ⟨W0.heap.size, 0, none⟩), .agg #[.int .i64 x.a, .int .i64 x.b, .int .i64 x.c], undef, undef, undef], defers := [] })
    (fun x => .cells #[.int .i64 x.a, .int .i64 x.b, .int .i64 x.c] 68) (fun _ _ _ => trivial) (fun _ _ _ h => h) ?assign ?body ?done ?stop
  case assign =>
    intro l x W K hK
    unfold permEnc
    gi_wp2
    exact hK
  case body =>
    rintro l pre x Wb V W hWb hV hVs hVo ⟨hp, q0, q1, hq⟩ _ hlt
    have q2 : Blk W V.heap.size 68 #[.int .i64 x.a, .int .i64 x.b, .int .i64 x.c] := hVo
    have a0 := q0.cellAt 0 rfl
    have a1 := q0.cellAt 1 rfl
    have a2 := q0.cellAt 2 rfl
    have al := q0.lt
    have b0 := q2.cellAt 0 rfl
    have b1 := q2.cellAt 1 rfl
    have b2 := q2.cellAt 2 rfl
    have bl := q2.lt
    have c0 := q1.cellAt 0 rfl
    have f0 := q1.frozen 0
    have cl := q1.lt
    have HP := Lib.hid hp
    clear hp
    cases he : eq3 a b c x.a x.b x.c
    · have hne : x ≠ ⟨a, b, c⟩ := fun h => by
        subst h
        have := eq3_iff.2 (rfl : (⟨a, b, c⟩ : V3) = ⟨a, b, c⟩)
        simp only at he
        rw [this] at he; cases he
      gi_wp2
      refine ⟨KeepsOthers.refl _ |>.from _, trivial, ?_, q0, q1, hq⟩
      intro y hy
      rcases List.mem_append.1 hy with h | h
      · exact HP.out y h
      · rw [List.mem_singleton.1 h]; exact hne
    · have hx : (⟨a, b, c⟩ : V3) = x := eq3_iff.1 he
      gi_wp2
      refine ⟨(KeepsOthers.setCell _ _ _).from _, rfl, List.mem_append.2 (.inr (by rw [hx]; exact List.mem_singleton.2 rfl)), by simpa using q1.set_ 0 (.bool true), ps hq (by dsimp only; omega)⟩
  case done =>
    rintro D xs W hD rfl ⟨hp, q0, q1, hq⟩ hK
    have c0 := q1.cellAt 0 rfl
    have f0 := q1.frozen 0
    have cl := q1.lt
    have hn : isPerm ⟨a, b, c⟩ = false := by
      cases h : isPerm ⟨a, b, c⟩
      · rfl
      · exact absurd rfl (hp _ (perm_mem h))
    have HN := Lib.hid hn
    clear hn hp
    gi_wp2
    refine ⟨by simp, .inl ⟨_, _, rfl, run_takeDeferred ((KeepsOthers.setCell W ⟨w.heap.size + 1, 0, none⟩ (.bool false)).same D _ hK rfl), ?_⟩⟩
    have hD2 : w.heap.size + 1 < D := by omega
    have p0 : Blk ((W.setCell ⟨w.heap.size + 1, 0, none⟩ (.bool false)).putObj D (.deferred none)) (w.heap.size + 1) 4 #[.bool false] := Blk.putObj (by simpa using q1.set_ 0 (.bool false)) (by omega)
    have e0 := p0.cellAt 0 rfl
    refine ⟨.bool false, by simp [results, Tryz.results84, go_sem, e0], ?_⟩
    rw [HN.out]
    exact ⟨rfl, below_put (ps hq (by dsimp only; omega)) (by omega)⟩
  case stop =>
    rintro D c' pre W hD hSp ⟨rfl, hm, q1, hq⟩ hK
    have c0 := q1.cellAt 0 rfl
    have cl := q1.lt
    have hn : isPerm ⟨a, b, c⟩ = true := by
      obtain ⟨_, r, hr⟩ := hSp
      have : (⟨a, b, c⟩ : V3) ∈ permL := hr ▸ List.mem_append.2 (.inl hm)
      simpa [isPerm] using this
    have HN := Lib.hid hn
    clear hn hm hSp
    gi_wp2
    refine ⟨by simp, .inl ⟨_, _, rfl, run_takeDeferred hK, ?_⟩⟩
    have hD2 : w.heap.size + 1 < D := by omega
    have p0 : Blk (W.putObj D (.deferred none)) (w.heap.size + 1) 4 #[.bool true] := q1.putObj (by omega)
    have e0 := p0.cellAt 0 rfl
    refine ⟨.bool true, by simp [results, Tryz.results84, go_sem, e0], ?_⟩
    rw [HN.out]
    exact ⟨rfl, below_put hq (by omega)⟩

end Go.Proofs.YtnhcamokcggnkaaGreatDoor
end

section
namespace Go.Proofs.YtnhcamokcggnkaaGreatDoor
open Go.RowKit
attribute [local go_sem ↓] Go.wp_at_zero Go.wp_at_succ

theorem neg_wrap {x : Int} (h : Sm 10000 x) : IntKind.i64.wrap (-x) = -x := IntWalk.i64_in _ (by unfold Sm at h; omega)

theorem renamed_any (x1 x2 x3 x4 x5 x6 x7 x8 x9 a b c : Int) (hp : isPerm ⟨a, b, c⟩ = true) (he : lineE x1 x2 x3 x4 x5 x6 x7 x8 x9 = 0) (M : L3) (hM : renV (⟨⟨x1, x2, x3⟩, ⟨x4, x5, x6⟩, ⟨x7, x8, x9⟩⟩ : L3) ⟨a, b, c⟩ = M) (w : World) :
    Calls Tryz.prog 85 #[.agg #[.int .i64 x1, .int .i64 x2, .int .i64 x3, .int .i64 x4, .int .i64 x5, .int .i64 x6, .int .i64 x7, .int .i64 x8, .int .i64 x9], .agg #[.int .i64 a, .int .i64 b, .int .i64 c]] w fun e w' => e = .returned (.agg #[.int .i64 M.x.a, .int .i64 M.x.b, .int .i64 M.x.c, .int .i64 M.y.a, .int .i64 M.y.b, .int .i64 M.y.c, .int .i64 M.z.a, .int .i64 M.z.b, .int .i64 M.z.c]) ∧ Below w.heap.size w w' := by
  obtain ⟨h1, h2, h3, h4, h5, h6, h7, h8, h9⟩ := lineE_sm he
  subst hM
  rcases isPerm_cases hp with h | h | h | h | h | h
  all_goals
    injection h with ha hb hc
    subst ha hb hc
  · have h := renamed_012 x1 x2 x3 x4 x5 x6 x7 x8 x9 w (neg_wrap h1) (neg_wrap h2) (neg_wrap h3) (neg_wrap h4) (neg_wrap h5) (neg_wrap h6) (neg_wrap h7) (neg_wrap h8) (neg_wrap h9)
    simpa [renV, voltV, rowAt, negV] using h
  · have h := renamed_021 x1 x2 x3 x4 x5 x6 x7 x8 x9 w (neg_wrap h1) (neg_wrap h2) (neg_wrap h3) (neg_wrap h4) (neg_wrap h5) (neg_wrap h6) (neg_wrap h7) (neg_wrap h8) (neg_wrap h9)
    simpa [renV, voltV, rowAt, negV] using h
  · have h := renamed_102 x1 x2 x3 x4 x5 x6 x7 x8 x9 w (neg_wrap h1) (neg_wrap h2) (neg_wrap h3) (neg_wrap h4) (neg_wrap h5) (neg_wrap h6) (neg_wrap h7) (neg_wrap h8) (neg_wrap h9)
    simpa [renV, voltV, rowAt, negV] using h
  · have h := renamed_120 x1 x2 x3 x4 x5 x6 x7 x8 x9 w (neg_wrap h1) (neg_wrap h2) (neg_wrap h3) (neg_wrap h4) (neg_wrap h5) (neg_wrap h6) (neg_wrap h7) (neg_wrap h8) (neg_wrap h9)
    simpa [renV, voltV, rowAt, negV] using h
  · have h := renamed_201 x1 x2 x3 x4 x5 x6 x7 x8 x9 w (neg_wrap h1) (neg_wrap h2) (neg_wrap h3) (neg_wrap h4) (neg_wrap h5) (neg_wrap h6) (neg_wrap h7) (neg_wrap h8) (neg_wrap h9)
    simpa [renV, voltV, rowAt, negV] using h
  · have h := renamed_210 x1 x2 x3 x4 x5 x6 x7 x8 x9 w (neg_wrap h1) (neg_wrap h2) (neg_wrap h3) (neg_wrap h4) (neg_wrap h5) (neg_wrap h6) (neg_wrap h7) (neg_wrap h8) (neg_wrap h9)
    simpa [renV, voltV, rowAt, negV] using h

def renE (e : Int) (p : Bool) : Int := firstV [e, unlessV p 3]
theorem lines9_size : (Tryz.prog.info? 81).map (·.size) = some 9 := by kernel_rfl
theorem lines9_under : Tryz.prog.underlying 81 = some (.array 3 68) := by kernel_rfl
theorem lines9g_under : Tryz.prog.underlying 149 = some (.array 3 68) := by kernel_rfl

set_option maxHeartbeats 4000000 in
set_option maxRecDepth 100000 in
theorem Renamed_err (x1 x2 x3 x4 x5 x6 x7 x8 x9 a b c : Int) (he : renE (lineE x1 x2 x3 x4 x5 x6 x7 x8 x9) (isPerm ⟨a, b, c⟩) ≠ 0) (w : World) :
    Calls Tryz.prog 35 #[.agg #[.int .i64 x1, .int .i64 x2, .int .i64 x3, .int .i64 x4, .int .i64 x5, .int .i64 x6, .int .i64 x7, .int .i64 x8, .int .i64 x9], .agg #[.int .i64 a, .int .i64 b, .int .i64 c]] w fun z w' => z = .returned (.tuple #[.agg #[.int .i64 0, .int .i64 0, .int .i64 0, .int .i64 0, .int .i64 0, .int .i64 0, .int .i64 0, .int .i64 0, .int .i64 0], .int .i64 (renE (lineE x1 x2 x3 x4 x5 x6 x7 x8 x9) (isPerm ⟨a, b, c⟩))]) ∧ Below w.heap.size w w' := by
  have HC := Lib.hid (checkLines_any x1 x2 x3 x4 x5 x6 x7 x8 x9)
  have HP := Lib.hid (isPermutation_any a b c)
  have hne : (renE (lineE x1 x2 x3 x4 x5 x6 x7 x8 x9) (isPerm ⟨a, b, c⟩) == 0) = false := by simpa using he
  have HE := Lib.hid (show firstV [lineE x1 x2 x3 x4 x5 x6 x7 x8 x9, unlessV (isPerm ⟨a, b, c⟩) 3] = renE (lineE x1 x2 x3 x4 x5 x6 x7 x8 x9) (isPerm ⟨a, b, c⟩) from rfl)
  generalize renE (lineE x1 x2 x3 x4 x5 x6 x7 x8 x9) (isPerm ⟨a, b, c⟩) = E at *
  clear he
  generalize lineE x1 x2 x3 x4 x5 x6 x7 x8 x9 = F at *
  generalize isPerm ⟨a, b, c⟩ = q at *
  go_enter Tryz.func35, Tryz.ntmps35
  go_wp2
  refine region_below 5 follows_mixed (by kernel_rfl) ?_
  intro C hC
  simp only [List.take_succ_cons, List.take_zero, List.drop_succ_cons, List.drop_zero]
  repeat (first
    | ((with_reducible refine quiet_plain rfl (fun K hK => ?_)); (focus (apply quiet_val; (focus (intro w' hw; obtain ⟨hcq, hfq⟩ := bcell ((hC.out _).1 hw); go_simp; (first | done | rfl | (with_reducible exact call_below hC hw (HC.out _)) | (with_reducible exact call_below hC hw (HP.out _)) | (with_reducible exact call_same hw (unless_any _ _ _))))); (simp only [Act.put, List.setIfInBounds_toArray, List.set_cons_succ, List.set_cons_zero]); (with_reducible refine hK _ ?_); clear hK K)))
    | ((with_reducible refine quiet_skip ?_ ?_); (focus (first | (simp [Region.wanted, yielded]; done) | (simp [Region.wanted, yielded, undef]; done))); simp only [Act.put, List.setIfInBounds_toArray, List.set_cons_succ, List.set_cons_zero])
    | ((with_reducible refine quiet_go ?_ (fun K hK => ?_)); (focus (first | (simp [Region.wanted, yielded]; done) | (simp [Region.wanted, yielded, undef]; done))); (focus (apply quiet_val; (focus (intro w' hw; obtain ⟨hcq, hfq⟩ := bcell ((hC.out _).1 hw); go_simp; (first | done | rfl | (with_reducible exact call_below hC hw (HC.out _)) | (with_reducible exact call_below hC hw (HP.out _)) | (with_reducible exact call_same hw (unless_any _ _ _))))); (simp only [Act.put, List.setIfInBounds_toArray, List.set_cons_succ, List.set_cons_zero]); (with_reducible refine hK _ ?_); clear hK K))))
  refine wpQuiet_nil ?_
  intro w1 hb1
  replace hb1 := (hC.out _).1 hb1
  clear hC C
  obtain ⟨hc1, hf1⟩ := bcell hb1
  have R1 : Blk w1 (w.heap.size + 1 + 1) 81 #[.int .i64 0, .int .i64 0, .int .i64 0, .int .i64 0, .int .i64 0, .int .i64 0, .int .i64 0, .int .i64 0, .int .i64 0] := (Blk.newAt (by simp)).past hb1
  have S1 := pt (pa (pa (pa pr))) hb1
  clear hb1 hc1 hf1
  go_wp2_with (first
    | (go_at_call 48; refine (gfirst2 _ _ _ _ _ (by first | (go_simp; done) | (go_simp; rfl)) (by first | (go_simp; done) | (go_simp; rfl)) _ HE.out).mono ?_; rintro e w' ⟨rfl, rfl⟩)
    | ((with_reducible refine store_blk (T := 81) (x := .tmp 4) (y := .tmp 16) (vs := #[.int .i64 0, .int .i64 0, .int .i64 0, .int .i64 0, .int .i64 0, .int .i64 0, .int .i64 0, .int .i64 0, .int .i64 0]) R1.alloc ?_ ?_ ?_ ?_ ?_ ?_); (focus rfl); (focus exact lines9_size); (focus (simp [Value.oneCell']; done)); (focus rfl); (focus rfl); intro W2 R2 F2; have S2 := pp (pa S1) F2 (by have := S1.size; omega)))
  have g0 := R2.cellAt 0 rfl; have g1 := R2.cellAt 1 rfl; have g2 := R2.cellAt 2 rfl; have g3 := R2.cellAt 3 rfl; have g4 := R2.cellAt 4 rfl; have g5 := R2.cellAt 5 rfl; have g6 := R2.cellAt 6 rfl; have g7 := R2.cellAt 7 rfl; have g8 := R2.cellAt 8 rfl
  exact bodyPost_ret (v := .tuple #[.agg #[.int .i64 0, .int .i64 0, .int .i64 0, .int .i64 0, .int .i64 0, .int .i64 0, .int .i64 0, .int .i64 0, .int .i64 0], .int .i64 E]) (by simp [results, Tryz.results35, go_sem, g0, g1, g2, g3, g4, g5, g6, g7, g8]) rfl ⟨rfl, S2⟩

set_option maxHeartbeats 4000000 in
set_option maxRecDepth 100000 in
theorem Renamed_ok (x1 x2 x3 x4 x5 x6 x7 x8 x9 a b c : Int) (hp : isPerm ⟨a, b, c⟩ = true) (he : lineE x1 x2 x3 x4 x5 x6 x7 x8 x9 = 0) (M : L3) (hM : renV (⟨⟨x1, x2, x3⟩, ⟨x4, x5, x6⟩, ⟨x7, x8, x9⟩⟩ : L3) ⟨a, b, c⟩ = M) (w : World) :
    Calls Tryz.prog 35 #[.agg #[.int .i64 x1, .int .i64 x2, .int .i64 x3, .int .i64 x4, .int .i64 x5, .int .i64 x6, .int .i64 x7, .int .i64 x8, .int .i64 x9], .agg #[.int .i64 a, .int .i64 b, .int .i64 c]] w fun z w' => z = .returned (.tuple #[.agg #[.int .i64 M.x.a, .int .i64 M.x.b, .int .i64 M.x.c, .int .i64 M.y.a, .int .i64 M.y.b, .int .i64 M.y.c, .int .i64 M.z.a, .int .i64 M.z.b, .int .i64 M.z.c], .int .i64 0]) ∧ Below w.heap.size w w' := by
  have HC := Lib.hid (checkLines_any x1 x2 x3 x4 x5 x6 x7 x8 x9)
  have HP := Lib.hid (isPermutation_any a b c)
  have HR := Lib.hid (renamed_any x1 x2 x3 x4 x5 x6 x7 x8 x9 a b c hp he M hM)
  rw [he] at HC
  rw [hp] at HP
  clear he hp hM
  go_enter Tryz.func35, Tryz.ntmps35
  go_wp2
  refine region_below 5 follows_mixed (by kernel_rfl) ?_
  intro C hC
  simp only [List.take_succ_cons, List.take_zero, List.drop_succ_cons, List.drop_zero]
  repeat (first
    | ((with_reducible refine quiet_plain rfl (fun K hK => ?_)); (focus (apply quiet_val; (focus (intro w' hw; obtain ⟨hcq, hfq⟩ := bcell ((hC.out _).1 hw); go_simp; (first | done | rfl | (with_reducible exact call_below hC hw (HC.out _)) | (with_reducible exact call_below hC hw (HP.out _)) | (with_reducible exact call_same hw (unless_any _ _ _))))); (simp only [Act.put, List.setIfInBounds_toArray, List.set_cons_succ, List.set_cons_zero]); (with_reducible refine hK _ ?_); clear hK K)))
    | ((with_reducible refine quiet_skip ?_ ?_); (focus (first | (simp [Region.wanted, yielded]; done) | (simp [Region.wanted, yielded, undef]; done))); simp only [Act.put, List.setIfInBounds_toArray, List.set_cons_succ, List.set_cons_zero])
    | ((with_reducible refine quiet_go ?_ (fun K hK => ?_)); (focus (first | (simp [Region.wanted, yielded]; done) | (simp [Region.wanted, yielded, undef]; done))); (focus (apply quiet_val; (focus (intro w' hw; obtain ⟨hcq, hfq⟩ := bcell ((hC.out _).1 hw); go_simp; (first | done | rfl | (with_reducible exact call_below hC hw (HC.out _)) | (with_reducible exact call_below hC hw (HP.out _)) | (with_reducible exact call_same hw (unless_any _ _ _))))); (simp only [Act.put, List.setIfInBounds_toArray, List.set_cons_succ, List.set_cons_zero]); (with_reducible refine hK _ ?_); clear hK K))))
  refine wpQuiet_nil ?_
  intro w1 hb1
  replace hb1 := (hC.out _).1 hb1
  clear hC C
  obtain ⟨hc1, hf1⟩ := bcell hb1
  have A1 : Blk w1 w.heap.size 81 #[.int .i64 x1, .int .i64 x2, .int .i64 x3, .int .i64 x4, .int .i64 x5, .int .i64 x6, .int .i64 x7, .int .i64 x8, .int .i64 x9] := ((Blk.newAt rfl).alloc.alloc).past hb1
  have P1 : Blk w1 (w.heap.size + 1) 68 #[.int .i64 a, .int .i64 b, .int .i64 c] := ((Blk.newAt (by simp)).alloc).past hb1
  have R1 : Blk w1 (w.heap.size + 1 + 1) 81 #[.int .i64 0, .int .i64 0, .int .i64 0, .int .i64 0, .int .i64 0, .int .i64 0, .int .i64 0, .int .i64 0, .int .i64 0] := (Blk.newAt (by simp)).past hb1
  have S1 := pt (pa (pa (pa pr))) hb1
  clear hb1 hc1 hf1
  have p0 := P1.cellAt 0 rfl
  have p1 := P1.cellAt 1 rfl
  have p2 := P1.cellAt 2 rfl
  have pl := P1.lt
  go_wp2_with (first
    | (go_at_call 48; refine (gfirst2 _ _ _ _ _ (by first | (go_simp; done) | (go_simp; rfl)) (by first | (go_simp; done) | (go_simp; rfl)) _ (rfl : firstV [0, unlessV true 3] = 0)).mono ?_; rintro e w' ⟨rfl, rfl⟩)
    | ((with_reducible refine load_blk (T := 81) (x := .tmp 2) A1.alloc lines9_under ?_ ?_ ?_ ?_); (focus rfl); (focus exact lines9_size); (focus rfl))
    | (go_at_call 85; refine (HR.out _).mono ?_; rintro e w2 ⟨rfl, hb2⟩; have R2 := R1.alloc.past hb2; have S2 := pt (pa S1) hb2)
    | ((with_reducible refine store_blk (T := 81) (x := .tmp 4) (y := .tmp 20) (vs := #[.int .i64 M.x.a, .int .i64 M.x.b, .int .i64 M.x.c, .int .i64 M.y.a, .int .i64 M.y.b, .int .i64 M.y.c, .int .i64 M.z.a, .int .i64 M.z.b, .int .i64 M.z.c]) R2 ?_ ?_ ?_ ?_ ?_ ?_); (focus rfl); (focus exact lines9_size); (focus (simp [Value.oneCell']; done)); (focus rfl); (focus rfl); intro W3 R3 F3; have S3 := pp S2 F3 (by omega)))
  have g0 := R3.cellAt 0 rfl; have g1 := R3.cellAt 1 rfl; have g2 := R3.cellAt 2 rfl; have g3 := R3.cellAt 3 rfl; have g4 := R3.cellAt 4 rfl; have g5 := R3.cellAt 5 rfl; have g6 := R3.cellAt 6 rfl; have g7 := R3.cellAt 7 rfl; have g8 := R3.cellAt 8 rfl
  exact bodyPost_ret (v := .tuple #[.agg #[.int .i64 M.x.a, .int .i64 M.x.b, .int .i64 M.x.c, .int .i64 M.y.a, .int .i64 M.y.b, .int .i64 M.y.c, .int .i64 M.z.a, .int .i64 M.z.b, .int .i64 M.z.c], .int .i64 0]) (by simp [results, Tryz.results35, go_sem, g0, g1, g2, g3, g4, g5, g6, g7, g8]) rfl ⟨rfl, S3⟩

end Go.Proofs.YtnhcamokcggnkaaGreatDoor
end
