/- Contract of group.ClockOf. -/
import Derived.Test.YtnhcamokcggnkaaGreatDoorGBClock
import Derived.Test.YtnhcamokcggnkaaGreatDoorGIName
namespace Go.Proofs.YtnhcamokcggnkaaGreatDoor
open Go.RowKit
attribute [local go_sem ↓] Go.wp_at_zero Go.wp_at_succ

theorem apiUnit_size : (Tryz.prog.info? 25).map (·.size) = some 9 := by kernel_rfl

set_option maxHeartbeats 4000000 in
theorem ClockOf_err (k t s : Int) (r : Bool) (k2 t2 s2 : Int) (r2 : Bool) (n : Int) (he : unitE k t s k2 t2 s2 n ≠ 0) (w : World) :
    Calls Tryz.prog 8 #[.agg #[.int .i64 k, .int .i64 t, .int .i64 s, .bool r, .int .i64 k2, .int .i64 t2, .int .i64 s2, .bool r2, .int .i64 n]] w fun z w' => z = .returned (.tuple #[.int .i64 0, .int .i64 (unitE k t s k2 t2 s2 n)]) ∧ Below w.heap.size w w' := by
  have HC := Lib.hid (checkUnit_any k t s r k2 t2 s2 r2 n)
  have hne : (unitE k t s k2 t2 s2 n == 0) = false := by simpa using he
  generalize unitE k t s k2 t2 s2 n = E at *
  clear he
  go_enter Tryz.func8, Tryz.ntmps8
  go_wp2_with (go_at_call 13; refine (HC.out _).mono ?_; rintro e w1 ⟨rfl, hb1⟩; have S1 := pt (pa pr) hb1)
  go_ret2
  exact ⟨rfl, S1⟩

set_option maxHeartbeats 4000000 in
theorem ClockOf_ok (k t s : Int) (r : Bool) (k2 t2 s2 : Int) (r2 : Bool) (n : Int) (he : unitE k t s k2 t2 s2 n = 0) (w : World) (hT : TwIn w) (hP : PatIn w) :
    Calls Tryz.prog 8 #[.agg #[.int .i64 k, .int .i64 t, .int .i64 s, .bool r, .int .i64 k2, .int .i64 t2, .int .i64 s2, .bool r2, .int .i64 n]] w fun z w' => z = .returned (.tuple #[.int .i64 ((whV k s r - whV k2 s2 r2) % 12), .int .i64 0]) ∧ Below w.heap.size w w' := by
  have HC := Lib.hid (checkUnit_any k t s r k2 t2 s2 r2 n)
  obtain ⟨u1, u2, _, _⟩ := unitE_ok r r2 he
  rw [he] at HC
  have HK := Lib.hid (clock_any k t s r k2 t2 s2 r2 n u1 u2)
  have HT := Lib.hid (fun w' (h : Below w.heap.size w w') => hT.below h)
  have HP := Lib.hid (fun w' (h : Below w.heap.size w w') => hP.below h)
  clear he u1 u2 hT hP
  generalize (whV k s r - whV k2 s2 r2) % 12 = c at *
  go_enter Tryz.func8, Tryz.ntmps8
  go_wp2_with (first
    | (go_at_call 13; refine (HC.out _).mono ?_; rintro e w1 ⟨rfl, hb1⟩; have P1 : Blk w1 w.heap.size 25 #[.int .i64 k, .int .i64 t, .int .i64 s, .bool r, .int .i64 k2, .int .i64 t2, .int .i64 s2, .bool r2, .int .i64 n] := (Blk.newAt rfl).past hb1; have S1 := pt (pa pr) hb1)
    | ((with_reducible refine load_blk (T := 25) (x := .tmp 1) P1 Tryz.underlying25 ?_ ?_ ?_ ?_); (focus rfl); (focus exact apiUnit_size); (focus rfl))
    | (go_at_call 44; refine (HK.out _ (HT.out _ S1) (HP.out _ S1)).mono ?_; rintro e w2 ⟨rfl, hb2⟩; have S2 := pt S1 hb2))
  go_ret2
  exact ⟨rfl, S2⟩

end Go.Proofs.YtnhcamokcggnkaaGreatDoor
