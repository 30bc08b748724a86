/- A ratio as a fraction of small numbers. -/
import Derived.Test.YtpdkbhjcpddnpaaGreatDoorOb6
import Derived.Test.YtpdkbhjcpddnpaaGreatDoorOb1
import Derived.Test.YtpdkbhjcpddnpaaGreatDoorOd9

section
namespace Go.Proofs.YtpdkbhjcpddnpaaGreatDoor
open Go.RowKit

theorem frac_size : (Tryz.prog.info? 59).map (·.size) = some 2 := by kernel_rfl

set_option maxHeartbeats 4000000 in
set_option maxRecDepth 100000 in
theorem ratioFrac_core (sx sy x y : Int) (b1 b2 : Bool) (A A2 : Option Addr) (k1 k2 c c2 : Nat) (w : World)
    (h1 : ∀ W, Below w.heap.size w W → Calls Tryz.prog 99 #[.agg #[.int .i64 sx, .slice A k1 c]] W fun e w' => e = .returned (.tuple #[.int .i64 x, .bool b1]) ∧ Below W.heap.size W w')
    (h2 : ∀ W, Below w.heap.size w W → Calls Tryz.prog 99 #[.agg #[.int .i64 sy, .slice A2 k2 c2]] W fun e w' => e = .returned (.tuple #[.int .i64 y, .bool b2]) ∧ Below W.heap.size W w') :
    Calls Tryz.prog 54 #[.agg #[.int .i64 sx, .slice A k1 c, .int .i64 sy, .slice A2 k2 c2]] w fun e w' =>
      e = .returned (.tuple #[.agg #[.int .i64 (if b1 && b2 && fsmallB x y then x else 0), .int .i64 (if b1 && b2 && fsmallB x y then y else 0)], .bool (b1 && b2 && fsmallB x y)]) ∧ Below w.heap.size w w' := by
  have H1 := Lib.hid h1
  have H2 := Lib.hid h2
  have H3 := Lib.hid (fun W => isSmall_any x y W)
  clear h1 h2
  generalize fsmallB x y = b3 at *
  have HR := Lib.hid (rfl : (b1 && b2 && b3) = (b1 && b2 && b3))
  generalize hR : (b1 && b2 && b3) = R
  replace HR := Lib.hid hR
  clear hR
  generalize hX : (if R = true then x else 0) = X
  generalize hY : (if R = true then y else 0) = Y
  replace hX := Lib.hid hX
  replace hY := Lib.hid hY
  cases b1
  all_goals cases b2
  all_goals cases b3
  all_goals
    go_enter Tryz.func54, Tryz.ntmps54
    go_wp2_with (go_at_call 99; (with_reducible refine (H1.out _ (pa (pa pr))).mono ?_); rintro e w1 ⟨rfl, hb1⟩; have R1 := Lib.hid ((Blk.newAt (w := w) (t := 55) (cs := #[.int .i64 sx, .slice A k1 c, .int .i64 sy, .slice A2 k2 c2]) rfl).past (pt (pa pr) hb1)); have S1 := Lib.hid ((Blk.newAt (t := 59) (cs := #[.int .i64 0, .int .i64 0]) (n := w.heap.size + 1) (by simp)).past hb1); have Q1 := Lib.hid (pt (pa (pa (pr (w := w)))) hb1); clear hb1 H1; have x0 := R1.out.cellAt 0 rfl; have x1 := R1.out.cellAt 1 rfl; have x2 := R1.out.cellAt 2 rfl; have x3 := R1.out.cellAt 3 rfl; have xl := R1.out.lt)
    go_wp2_with (first
      | (go_at_call 99; (with_reducible refine (H2.out _ Q1.out).mono ?_); rintro e w2 ⟨rfl, hb2⟩; have S2 := Lib.hid (S1.out.past hb2); have Q2 := Lib.hid (pt Q1.out hb2); clear hb2 H2 x0 x1 x2 x3 xl)
      | (go_at_call 50; go_loud ((with_reducible refine (H3.out _).mono ?_); rintro e w3 ⟨rfl, hb3⟩; have S4 := Lib.hid ((S2.out.past (pa pr)).past hb3); have Q4 := Lib.hid (pt (pa Q2.out) hb3); have R9 := (Blk.newAt (t := 59) (cs := #[.int .i64 x, .int .i64 y]) (w := w2) rfl).past hb3; clear hb3 S2 Q2; have y0 := R9.cellAt 0 rfl; have y1 := R9.cellAt 1 rfl; have yl := R9.lt))
      | ((with_reducible refine store_blk (T := 59) (x := .tmp 2) (y := .tmp 35) (vs := #[.int .i64 0, .int .i64 0]) S4.out ?_ ?_ ?_ ?_ ?_ ?_); (focus rfl); (focus exact frac_size); (focus (simp [Value.oneCell']; done)); (focus rfl); (focus rfl); intro WF RF PF; have QF := pp Q4.out PF (Nat.le_succ _); clear S4 Q4)
      | ((with_reducible refine store_blk (T := 59) (x := .tmp 2) (y := .tmp 35) (vs := #[.int .i64 0, .int .i64 0]) (S2.out.past (pa pr)) ?_ ?_ ?_ ?_ ?_ ?_); (focus rfl); (focus exact frac_size); (focus (simp [Value.oneCell']; done)); (focus rfl); (focus rfl); intro WF RF PF; have QF := pp (pa Q2.out) PF (Nat.le_succ _); clear S2 Q2)
      | ((with_reducible refine store_blk (T := 59) (x := .tmp 2) (y := .tmp 36) (vs := #[.int .i64 x, .int .i64 y]) S4.out ?_ ?_ ?_ ?_ ?_ ?_); (focus rfl); (focus exact frac_size); (focus (simp [Value.oneCell']; done)); (focus rfl); (focus rfl); intro WF RF PF; have QF := pp Q4.out PF (Nat.le_succ _); clear S4 Q4))
  all_goals
    have g0 := RF.cellAt 0 rfl
    have g1 := RF.cellAt 1 rfl
    have hR := HR.out
    have hx := hX.out
    have hy := hY.out
    try simp at hR
    subst hR
    try simp at hx hy
    try subst hx hy
    first
      | exact bodyPost_ret (v := .tuple #[.agg #[.int .i64 x, .int .i64 y], .bool true]) (by simp [results, Tryz.results54, go_sem, g0, g1]) rfl ⟨rfl, QF⟩
      | exact bodyPost_ret (v := .tuple #[.agg #[.int .i64 0, .int .i64 0], .bool false]) (by simp [results, Tryz.results54, go_sem, g0, g1]) rfl ⟨rfl, QF⟩

theorem dl_le_two {n : Int} (h : -1000000000 ≤ n ∧ n ≤ 1000000000) : dl n ≤ 2 :=
  Nat.le_trans (dl_le_of (y := 1000000000) (by omega)) (by decide +kernel)

set_option maxRecDepth 100000 in
theorem ratioFrac_any (r : Rat) (A : Option Addr) (c : Nat) (A2 : Option Addr) (c2 : Nat) (w : World) (hr : RatAt w A c A2 c2 r) (h1 : dl r.num < wL) (h2 : dl (r.den : Int) < wL) :
    Calls Tryz.prog 54 #[ratV r A c A2 c2] w fun e w' =>
      e = .returned (.tuple #[.agg #[.int .i64 (if fsmallB r.num r.den then r.num else 0), .int .i64 (if fsmallB r.num r.den then (r.den : Int) else 0)], .bool (fsmallB r.num r.den)]) ∧ Below w.heap.size w w' := by
  have big : ∀ {n : Int}, ¬ dl n ≤ 2 → ¬ (-1000000000 ≤ n ∧ n ≤ 1000000000) := fun {n} h hn => h (dl_le_two hn)
  have g1 := fun W hb => wideInt_any r.num A c W (hr.1.past hb) h1
  have g2 := fun W hb => wideInt_any (r.den : Int) A2 c2 W (hr.2.past hb) h2
  unfold wideV at g1 g2
  unfold ratV
  by_cases k1 : dl r.num ≤ 2
  · by_cases k2 : dl (r.den : Int) ≤ 2
    · rw [if_pos k1] at g1
      rw [if_pos k2] at g2
      exact ratioFrac_core _ _ r.num r.den true true A A2 _ _ c c2 w g1 g2
    · rw [if_pos k1] at g1
      rw [if_neg k2] at g2
      have hf : fsmallB r.num r.den = false := by
        have := big k2
        simp [fsmallB, withinB]
        omega
      have h := ratioFrac_core _ _ r.num 0 true false A A2 _ _ c c2 w g1 g2
      rw [hf]
      simpa using h
  · have hf : fsmallB r.num r.den = false := by
      have := big k1
      simp [fsmallB, withinB]
      omega
    rw [if_neg k1] at g1
    have g2' : ∃ y b2, ∀ W, Below w.heap.size w W → Calls Tryz.prog 99 #[.agg #[.int .i64 (signD (r.den : Int)), .slice A2 (dl (r.den : Int)) c2]] W fun e w' => e = .returned (.tuple #[.int .i64 y, .bool b2]) ∧ Below W.heap.size W w' := by
      by_cases k2 : dl (r.den : Int) ≤ 2
      · rw [if_pos k2] at g2; exact ⟨_, _, g2⟩
      · rw [if_neg k2] at g2; exact ⟨_, _, g2⟩
    obtain ⟨y, b2, g2'⟩ := g2'
    have h := ratioFrac_core _ _ 0 y false b2 A A2 _ _ c c2 w g1 g2'
    rw [hf]
    simpa using h

end Go.Proofs.YtpdkbhjcpddnpaaGreatDoor
end
