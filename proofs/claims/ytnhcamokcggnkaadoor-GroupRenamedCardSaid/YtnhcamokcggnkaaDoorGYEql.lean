/- Two equal values of [3][3]int: the comparison says true. -/
import Derived.Test.YtnhcamokcggnkaaDoorGRExp
import Derived.DeepKeys
namespace Go.Proofs.YtnhcamokcggnkaaDoor
open Go.RowKit
set_option maxRecDepth 100000 in
theorem api3_eql (d : Nat) (x1 x2 x3 : Int) (W : World) : (Op.equalIn (d + 2) 36 (.agg #[.int .i64 x1, .int .i64 x2, .int .i64 x3]) (.agg #[.int .i64 x1, .int .i64 x2, .int .i64 x3])).run Tryd.prog W = .ok true W := by
  have h1 : Tryd.prog.underlying 36 = some (.array 3 3) := by kernel_rfl
  obtain ⟨i, hi⟩ : ∃ i, Tryd.prog.info? 3 = some i := Option.isSome_iff_exists.1 (by kernel_rfl)
  have hp : Tryd.prog.plainKey 3 = true := by kernel_rfl
  have hc : Tryd.prog.cellsOf 3 = 1 := by kernel_rfl
  have hu : Tryd.prog.underlying 3 = some (.int .i64) := by kernel_rfl
  have e1 : ∀ (x : Int) (W : World), (Op.equalIn (d + 1) 3 (.int .i64 x) (.int .i64 x)).run Tryd.prog W = .ok true W := fun x W => by
    simp [Op.equalIn, run_underlying hu]
  have q0 : ∀ W, (part 3 #[.int .i64 x1, .int .i64 x2, .int .i64 x3] 0).run Tryd.prog W = .ok (.int .i64 x1) W := fun W => run_part_plain W hp rfl
  have q1 : ∀ W, (part 3 #[.int .i64 x1, .int .i64 x2, .int .i64 x3] 1).run Tryd.prog W = .ok (.int .i64 x2) W := fun W => run_part_plain W hp rfl
  have q2 : ∀ W, (part 3 #[.int .i64 x1, .int .i64 x2, .int .i64 x3] 2).run Tryd.prog W = .ok (.int .i64 x3) W := fun W => run_part_plain W hp rfl
  rw [run_equalIn_array W (d + 1) _ _ h1 hi, hc, show List.range 3 = [0, 1, 2] from rfl]
  simp [Op.eqItems, q0, q1, q2, e1]

set_option maxRecDepth 100000 in
theorem apil_eqlIn (x1 x2 x3 x4 x5 x6 x7 x8 x9 : Int) (W : World) : (Op.equalIn 10000 38 (.agg #[.int .i64 x1, .int .i64 x2, .int .i64 x3, .int .i64 x4, .int .i64 x5, .int .i64 x6, .int .i64 x7, .int .i64 x8, .int .i64 x9]) (.agg #[.int .i64 x1, .int .i64 x2, .int .i64 x3, .int .i64 x4, .int .i64 x5, .int .i64 x6, .int .i64 x7, .int .i64 x8, .int .i64 x9])).run Tryd.prog W = .ok true W := by
  have h1 : Tryd.prog.underlying 38 = some (.array 3 36) := by kernel_rfl
  have h2 : Tryd.prog.underlying 36 = some (.array 3 3) := by kernel_rfl
  obtain ⟨i, hi⟩ : ∃ i, Tryd.prog.info? 36 = some i := Option.isSome_iff_exists.1 (by kernel_rfl)
  have hc : Tryd.prog.cellsOf 36 = 3 := by kernel_rfl
  have q0 : ∀ W, (part 36 #[.int .i64 x1, .int .i64 x2, .int .i64 x3, .int .i64 x4, .int .i64 x5, .int .i64 x6, .int .i64 x7, .int .i64 x8, .int .i64 x9] 0).run Tryd.prog W = .ok (.agg #[.int .i64 x1, .int .i64 x2, .int .i64 x3]) W := fun W => by
    simp [part, run_underlying h2, run_sizeOf W hi, hc]
  have q1 : ∀ W, (part 36 #[.int .i64 x1, .int .i64 x2, .int .i64 x3, .int .i64 x4, .int .i64 x5, .int .i64 x6, .int .i64 x7, .int .i64 x8, .int .i64 x9] 3).run Tryd.prog W = .ok (.agg #[.int .i64 x4, .int .i64 x5, .int .i64 x6]) W := fun W => by
    simp [part, run_underlying h2, run_sizeOf W hi, hc]
  have q2 : ∀ W, (part 36 #[.int .i64 x1, .int .i64 x2, .int .i64 x3, .int .i64 x4, .int .i64 x5, .int .i64 x6, .int .i64 x7, .int .i64 x8, .int .i64 x9] 6).run Tryd.prog W = .ok (.agg #[.int .i64 x7, .int .i64 x8, .int .i64 x9]) W := fun W => by
    simp [part, run_underlying h2, run_sizeOf W hi, hc]
  have h := run_equalIn_array (P := Tryd.prog) W 9999 #[.int .i64 x1, .int .i64 x2, .int .i64 x3, .int .i64 x4, .int .i64 x5, .int .i64 x6, .int .i64 x7, .int .i64 x8, .int .i64 x9] #[.int .i64 x1, .int .i64 x2, .int .i64 x3, .int .i64 x4, .int .i64 x5, .int .i64 x6, .int .i64 x7, .int .i64 x8, .int .i64 x9] h1 hi
  rw [hc, show List.range 3 = [0, 1, 2] from rfl] at h
  refine h.trans ?_
  have e3 := fun y1 y2 y3 W => api3_eql 9997 y1 y2 y3 W
  simp only [show 9997 + 2 = 9999 from rfl] at e3
  simp [Op.eqItems, q0, q1, q2, e3]

set_option maxRecDepth 100000 in
theorem apil_eql (x1 x2 x3 x4 x5 x6 x7 x8 x9 : Int) (W : World) : (binOp .eql 38 (.agg #[.int .i64 x1, .int .i64 x2, .int .i64 x3, .int .i64 x4, .int .i64 x5, .int .i64 x6, .int .i64 x7, .int .i64 x8, .int .i64 x9]) (.agg #[.int .i64 x1, .int .i64 x2, .int .i64 x3, .int .i64 x4, .int .i64 x5, .int .i64 x6, .int .i64 x7, .int .i64 x8, .int .i64 x9])).run Tryd.prog W = .ok (.bool true) W := by
  have e1 := apil_eqlIn x1 x2 x3 x4 x5 x6 x7 x8 x9 W
  simp [go_sem, e1]

theorem apil_neq (x1 x2 x3 x4 x5 x6 x7 x8 x9 : Int) (W : World) : (binOp .neq 38 (.agg #[.int .i64 x1, .int .i64 x2, .int .i64 x3, .int .i64 x4, .int .i64 x5, .int .i64 x6, .int .i64 x7, .int .i64 x8, .int .i64 x9]) (.agg #[.int .i64 x1, .int .i64 x2, .int .i64 x3, .int .i64 x4, .int .i64 x5, .int .i64 x6, .int .i64 x7, .int .i64 x8, .int .i64 x9])).run Tryd.prog W = .ok (.bool false) W := by
  have e1 := apil_eqlIn x1 x2 x3 x4 x5 x6 x7 x8 x9 W
  simp [go_sem, e1]
end Go.Proofs.YtnhcamokcggnkaaDoor
