/- Contract of group.SequenceOf. Printed by a program (gen_seqof.py). -/
import Derived.Test.YtnhcamokcggnkaaGreatDoorGRExp
namespace Go.Proofs.YtnhcamokcggnkaaGreatDoor
open Go.RowKit
attribute [local go_sem ↓] Go.wp_at_zero Go.wp_at_succ
attribute [local go_sem ↓ high] ph_eql

set_option maxHeartbeats 4000000 in
theorem SequenceOf_err (x1 x2 x3 x4 x5 x6 x7 x8 x9 : Int) (he : lineE x1 x2 x3 x4 x5 x6 x7 x8 x9 ≠ 0) (w : World) :
    Calls Tryz.prog 37 #[.agg #[.int .i64 x1, .int .i64 x2, .int .i64 x3, .int .i64 x4, .int .i64 x5, .int .i64 x6, .int .i64 x7, .int .i64 x8, .int .i64 x9]] w fun z w' => z = .returned (.tuple #[.int .i64 0, .int .i64 (lineE x1 x2 x3 x4 x5 x6 x7 x8 x9)]) ∧ Below w.heap.size w w' := by
  have HC := Lib.hid (checkLines_any x1 x2 x3 x4 x5 x6 x7 x8 x9)
  have hne : (lineE x1 x2 x3 x4 x5 x6 x7 x8 x9 == 0) = false := by simpa using he
  generalize lineE x1 x2 x3 x4 x5 x6 x7 x8 x9 = E at *
  clear he
  go_enter Tryz.func37, Tryz.ntmps37
  go_wp2_with (go_at_call 83; refine (HC.out _).mono ?_; rintro e w1 ⟨rfl, hb1⟩; have P1 : Blk w1 w.heap.size 81 #[.int .i64 x1, .int .i64 x2, .int .i64 x3, .int .i64 x4, .int .i64 x5, .int .i64 x6, .int .i64 x7, .int .i64 x8, .int .i64 x9] := (Blk.newAt rfl).past hb1; have S1 := pt (pa pr) hb1)
  go_ret2
  exact ⟨rfl, S1⟩

set_option maxHeartbeats 4000000 in
theorem SequenceOf_zero (x1 x2 x3 x4 x5 x6 x7 x8 x9 : Int) (he : lineE x1 x2 x3 x4 x5 x6 x7 x8 x9 = 0) (hz : phB (x1 - x2) (x3 - x2) 0 0 = true) (w : World) :
    Calls Tryz.prog 37 #[.agg #[.int .i64 x1, .int .i64 x2, .int .i64 x3, .int .i64 x4, .int .i64 x5, .int .i64 x6, .int .i64 x7, .int .i64 x8, .int .i64 x9]] w fun z w' => z = .returned (.tuple #[.int .i64 0, .int .i64 11]) ∧ Below w.heap.size w w' := by
  have HC := Lib.hid (checkLines_any x1 x2 x3 x4 x5 x6 x7 x8 x9)
  obtain ⟨h1, h2, h3, _⟩ := lineE_sm he
  rw [he] at HC
  have HL := Lib.hid (linesPhasor_0 x1 x2 x3 x4 x5 x6 x7 x8 x9 h1 h2 h3)
  clear h1 h2 h3 he
  go_enter Tryz.func37, Tryz.ntmps37
  go_wp2_with (first
    | (go_at_call 83; refine (HC.out _).mono ?_; rintro e w1 ⟨rfl, hb1⟩; have P1 : Blk w1 w.heap.size 81 #[.int .i64 x1, .int .i64 x2, .int .i64 x3, .int .i64 x4, .int .i64 x5, .int .i64 x6, .int .i64 x7, .int .i64 x8, .int .i64 x9] := (Blk.newAt rfl).past hb1; have S1 := pt (pa pr) hb1)
    | ((with_reducible refine load_blk (T := 81) (x := .tmp 1) P1 Tryz.underlying81 ?_ ?_ ?_ ?_); (focus rfl); (focus exact apiLines_size); (focus rfl))
    | (go_at_call 87; refine (HL.out _).mono ?_; rintro e w2 ⟨rfl, hb2⟩; have S2 := pt S1 hb2))
  go_ret2
  exact ⟨rfl, S2⟩

set_option maxHeartbeats 4000000 in
theorem SequenceOf_ok (x1 x2 x3 x4 x5 x6 x7 x8 x9 : Int) (he : lineE x1 x2 x3 x4 x5 x6 x7 x8 x9 = 0) (hz : phB (x1 - x2) (x3 - x2) 0 0 = false) (w : World) :
    Calls Tryz.prog 37 #[.agg #[.int .i64 x1, .int .i64 x2, .int .i64 x3, .int .i64 x4, .int .i64 x5, .int .i64 x6, .int .i64 x7, .int .i64 x8, .int .i64 x9]] w fun z w' => z = .returned (.tuple #[.int .i64 (seqV (⟨⟨x1, x2, x3⟩, ⟨x4, x5, x6⟩, ⟨x7, x8, x9⟩⟩ : L3)), .int .i64 (unlessV (seqV (⟨⟨x1, x2, x3⟩, ⟨x4, x5, x6⟩, ⟨x7, x8, x9⟩⟩ : L3) != 0) 12)]) ∧ Below w.heap.size w w' := by
  have HC := Lib.hid (checkLines_any x1 x2 x3 x4 x5 x6 x7 x8 x9)
  obtain ⟨h1, h2, h3, h4, h5, h6, h7, h8, h9⟩ := lineE_sm he
  rw [he] at HC
  have HL := Lib.hid (linesPhasor_0 x1 x2 x3 x4 x5 x6 x7 x8 x9 h1 h2 h3)
  have HQ := Lib.hid (fun w => (sequence_any (⟨⟨x1, x2, x3⟩, ⟨x4, x5, x6⟩, ⟨x7, x8, x9⟩⟩ : L3) h1 h2 h3 h4 h5 h6 h7 h8 h9 w : Calls Tryz.prog 88 #[.agg #[.int .i64 x1, .int .i64 x2, .int .i64 x3, .int .i64 x4, .int .i64 x5, .int .i64 x6, .int .i64 x7, .int .i64 x8, .int .i64 x9]] w fun r w' => r = .returned (.int .i64 (seqV (⟨⟨x1, x2, x3⟩, ⟨x4, x5, x6⟩, ⟨x7, x8, x9⟩⟩ : L3))) ∧ Below w.heap.size w w'))
  clear h1 h2 h3 h4 h5 h6 h7 h8 h9 he
  generalize seqV (⟨⟨x1, x2, x3⟩, ⟨x4, x5, x6⟩, ⟨x7, x8, x9⟩⟩ : L3) = q at *
  cases hq : (q != 0)
  all_goals
    go_enter Tryz.func37, Tryz.ntmps37
    go_wp2_with (first
      | (go_at_call 83; refine (HC.out _).mono ?_; rintro e w1 ⟨rfl, hb1⟩; have P1 : Blk w1 w.heap.size 81 #[.int .i64 x1, .int .i64 x2, .int .i64 x3, .int .i64 x4, .int .i64 x5, .int .i64 x6, .int .i64 x7, .int .i64 x8, .int .i64 x9] := (Blk.newAt rfl).past hb1; have S1 := pt (pa pr) hb1)
      | ((with_reducible refine load_blk (T := 81) (x := .tmp 1) P1 Tryz.underlying81 ?_ ?_ ?_ ?_); (focus rfl); (focus exact apiLines_size); (focus rfl))
      | ((with_reducible refine load_blk (T := 81) (x := .tmp 1) P2 Tryz.underlying81 ?_ ?_ ?_ ?_); (focus rfl); (focus exact apiLines_size); (focus rfl))
      | (go_at_call 87; refine (HL.out _).mono ?_; rintro e w2 ⟨rfl, hb2⟩; have P2 := P1.past hb2; have S2 := pt S1 hb2)
      | (go_at_call 88; refine (HQ.out _).mono ?_; rintro e w3 ⟨rfl, hb3⟩; have S3 := pt S2 hb3)
      | (go_at_call 49; refine (unless_any _ _ _).mono ?_; rintro e w' ⟨rfl, rfl⟩))
    go_ret2
    exact ⟨rfl, S3⟩

end Go.Proofs.YtnhcamokcggnkaaGreatDoor
