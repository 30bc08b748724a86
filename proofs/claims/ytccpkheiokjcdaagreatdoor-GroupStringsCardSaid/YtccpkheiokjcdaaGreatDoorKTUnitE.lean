/- Contract: the specification's UnitErr, for a seat that has no ratios (a copy of XHKRatio's). -/
import Derived.Test.YtccpkheiokjcdaaGreatDoorG8Wind
import Derived.Deep.DrawnRows
namespace Go.Proofs.YtccpkheiokjcdaaGreatDoor
open Go.RowKit
attribute [local go_sem ↓] Go.wp_at_zero Go.wp_at_succ

set_option maxHeartbeats 2000000 in
set_option maxRecDepth 100000 in
theorem refUnitErr_any (k t s : Int) (r : Bool) (k2 t2 s2 : Int) (r2 : Bool) (n : Int) (w : World) :
    Calls Tryz.prog 9 #[.agg #[.int .i64 k, .int .i64 t, .int .i64 s, .bool r, .int .i64 k2, .int .i64 t2, .int .i64 s2, .bool r2, .int .i64 n]] w fun e w' => e = .returned (.int .i64 (unitE k t s k2 t2 s2 n)) ∧ Below w.heap.size w w' := by
  have H1 := Lib.hid (refWindingErr_any k t s r)
  have H2 := Lib.hid (refWindingErr_any k2 t2 s2 r2)
  have H3 := Lib.hid (refWithin_any n 0 100)
  have hE : unitE k t s k2 t2 s2 n = if windE k t s = 0 then (if windE k2 t2 s2 = 0 then (if withinB n 0 100 = true then 0 else 2) else windE k2 t2 s2) else windE k t s := by
    unfold unitE
    cases withinB n 0 100 <;> by_cases h1 : windE k t s = 0 <;> by_cases h2 : windE k2 t2 s2 = 0 <;> simp [firstV, unlessV, h1, h2]
  generalize unitE k t s k2 t2 s2 n = E at *
  generalize windE k t s = a at *
  generalize windE k2 t2 s2 = b at *
  generalize withinB n 0 100 = c at *
  by_cases h1 : a = 0
  · subst h1
    by_cases h2 : b = 0
    · subst h2
      cases c
      all_goals
        simp at hE
        subst hE
        go_enter Tryz.func9, Tryz.ntmps9
        go_wp2_with (first
          | (go_at_call 28; (with_reducible refine (H1.out _).mono ?_); rintro e w1 ⟨rfl, hb1⟩; have P1 : Blk w1 w.heap.size 25 #[.int .i64 k, .int .i64 t, .int .i64 s, .bool r, .int .i64 k2, .int .i64 t2, .int .i64 s2, .bool r2, .int .i64 n] := (Blk.newAt rfl).past hb1; have S1 := pt (pa pr) hb1; have p4 := P1.cellAt 4 rfl; have p5 := P1.cellAt 5 rfl; have p6 := P1.cellAt 6 rfl; have p7 := P1.cellAt 7 rfl; have pl := P1.lt)
          | (go_at_call 28; (with_reducible refine (H2.out _).mono ?_); rintro e w2 ⟨rfl, hb2⟩; have P2 := P1.past hb2; have S2 := pt S1 hb2; clear p4 p5 p6 p7 pl; have p8 := P2.cellAt 8 rfl; have pl := P2.lt)
          | (go_at_call 29; (with_reducible refine (H3.out _).mono ?_); rintro e w' ⟨rfl, rfl⟩))
        go_ret
        exact ⟨rfl, S2⟩
    · have h2' : (b == 0) = false := by simpa using h2
      have h2'' : (b != 0) = true := by simpa using h2
      rw [if_pos rfl, if_neg h2] at hE
      subst hE
      go_enter Tryz.func9, Tryz.ntmps9
      go_wp2_with (first
          | (go_at_call 28; (with_reducible refine (H1.out _).mono ?_); rintro e w1 ⟨rfl, hb1⟩; have P1 : Blk w1 w.heap.size 25 #[.int .i64 k, .int .i64 t, .int .i64 s, .bool r, .int .i64 k2, .int .i64 t2, .int .i64 s2, .bool r2, .int .i64 n] := (Blk.newAt rfl).past hb1; have S1 := pt (pa pr) hb1; have p4 := P1.cellAt 4 rfl; have p5 := P1.cellAt 5 rfl; have p6 := P1.cellAt 6 rfl; have p7 := P1.cellAt 7 rfl; have pl := P1.lt)
          | (go_at_call 28; (with_reducible refine (H2.out _).mono ?_); rintro e w2 ⟨rfl, hb2⟩; have S2 := pt S1 hb2))
      go_ret
      exact ⟨rfl, S2⟩
  · have h1' : (a == 0) = false := by simpa using h1
    have h1'' : (a != 0) = true := by simpa using h1
    rw [if_neg h1] at hE
    subst hE
    go_enter Tryz.func9, Tryz.ntmps9
    go_wp2_with (go_at_call 28; (with_reducible refine (H1.out _).mono ?_); rintro e w1 ⟨rfl, hb1⟩; have S1 := pt (pa pr) hb1)
    go_ret
    exact ⟨rfl, S1⟩

end Go.Proofs.YtccpkheiokjcdaaGreatDoor
