/- Contract: the specification's comparison of a lot with itself, in two places. -/
import Derived.Test.YtbojmcopagbheaaGreatDoorYCDefL
import Derived.Test.YtbojmcopagbheaaGreatDoorQT
namespace Go.Proofs.YtbojmcopagbheaaGreatDoor
open Go.RowKit
attribute [local go_sem ↓] Go.wp_at_zero Go.wp_at_succ

theorem range_eqlS (a b : Int) (W : World) : (binOp .eql 29 (.agg #[.int .i64 a, .int .i64 b]) (.agg #[.int .i64 a, .int .i64 b])).run Tryz.prog W = .ok (.bool true) W := by
  simp [go_sem]
attribute [local go_sem ↓ high] range_eqlS

set_option maxHeartbeats 4000000 in
set_option maxRecDepth 100000 in
theorem refSameLot_any (nm : List UInt8) (M : List (List UInt8)) (x1 x2 x3 x4 : Int) (A1 A2 : Option Addr) (c1 c2 : Nat) (w : World) (h1 : CellsIn w.heap.size w A1 (M.map strV)) (h2 : CellsIn w.heap.size w A2 (M.map strV)) (hl : M.length ≤ 100000) :
    Calls Tryz.prog 26 #[.agg #[.string ⟨nm.toArray⟩, .slice A1 M.length c1, .int .i64 x1, .int .i64 x2, .int .i64 x3, .int .i64 x4], .agg #[.string ⟨nm.toArray⟩, .slice A2 M.length c2, .int .i64 x1, .int .i64 x2, .int .i64 x3, .int .i64 x4]] w fun e w' => e = .returned (.bool true) ∧ Below w.heap.size w w' := by
  have e0 : textsB (M.map bytesL) (M.map bytesL) = true := by simp [textsB]
  have HI := fun w' (hb : Below w.heap.size w w') => texts_any w.heap.size A1 A2 c1 c2 (M.map bytesL) (M.map bytesL) w' ((rowIn_of_cells h1).below hb) ((rowIn_of_cells h2).below hb) (by rw [List.length_map]; exact hl)
  rw [e0, List.length_map] at HI
  have HI := Lib.hid HI
  clear e0 h1 h2 hl
  generalize M.length = n at *
  go_enter Tryz.func26, Tryz.ntmps26
  go_wp2_with (go_at_call 30; (with_reducible refine (HI.out _ (by first | exact pa (pa pr) | exact pa pr | exact pr)).mono ?_); rintro e w1 ⟨rfl, hb1⟩; have k1 := (Blk.newAt (w := w.alloc (.cells #[.string ⟨nm.toArray⟩, .slice A1 n c1, .int .i64 x1, .int .i64 x2, .int .i64 x3, .int .i64 x4] 58)) (t := 58) (cs := #[.string ⟨nm.toArray⟩, .slice A2 n c2, .int .i64 x1, .int .i64 x2, .int .i64 x3, .int .i64 x4]) rfl).past hb1; have k0 := ((Blk.new w 58 #[.string ⟨nm.toArray⟩, .slice A1 n c1, .int .i64 x1, .int .i64 x2, .int .i64 x3, .int .i64 x4]).alloc (o := .cells #[.string ⟨nm.toArray⟩, .slice A2 n c2, .int .i64 x1, .int .i64 x2, .int .i64 x3, .int .i64 x4] 58)).past hb1; have l0 := k0.lt; have l1 := k1.lt; have a2 := k0.cellAt 2 rfl; have a3 := k0.cellAt 3 rfl; have a4 := k0.cellAt 4 rfl; have a5 := k0.cellAt 5 rfl; have b2 := k1.cellAt 2 rfl; have b3 := k1.cellAt 3 rfl; have b4 := k1.cellAt 4 rfl; have b5 := k1.cellAt 5 rfl; simp only [size_alloc1] at b2 b3 b4 b5 l1)
  go_ret
  exact ⟨by first | rfl | simp, pt (by first | exact pa (pa pr) | exact pa pr | exact pr) hb1⟩

end Go.Proofs.YtbojmcopagbheaaGreatDoor
