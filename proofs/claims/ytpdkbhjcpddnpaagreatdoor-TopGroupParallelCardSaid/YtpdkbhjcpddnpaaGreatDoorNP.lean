/- Contracts: group.areClose and the specification's IsNear.
Plain facts on two units side by side, and on groups that compose. No program is in sight. -/
import Derived.Test.YtpdkbhjcpddnpaaGreatDoorNO
import Derived.Test.YtpdkbhjcpddnpaaGreatDoorNC
import Derived.Test.YtpdkbhjcpddnpaaGreatDoorND
import Derived.Test.YtpdkbhjcpddnpaaGreatDoorN9

section
namespace Go.Proofs.YtpdkbhjcpddnpaaGreatDoor
open Go.RowKit
attribute [local go_sem ↓] Go.wp_at_zero Go.wp_at_succ

theorem frac_size : (Tryz.prog.info? 59).map (·.size) = some 2 := by kernel_rfl

/-- Two fractions a/b and c/d differ by at most p percent. -/
def closeV (a b c d p : Int) : Bool := decide (100 * (a * d) ≤ (100 + p) * (c * b)) && decide (100 * (c * b) ≤ (100 + p) * (a * d))
theorem rat_range {a b m : Int} (ha : 1 ≤ a ∧ a ≤ m) (hb : 1 ≤ b ∧ b ≤ m) : (1 ≤ ratN a b ∧ ratN a b ≤ m) ∧ (1 ≤ ratD a b ∧ ratD a b ≤ m) := by
  have g1 : 0 < gcdI a b := gcd_pos (by omega)
  have d1 : gcdI a b ∣ a := Int.gcd_dvd_left ..
  have d2 : gcdI a b ∣ b := Int.gcd_dvd_right ..
  unfold ratN ratD
  generalize gcdI a b = g at *
  obtain ⟨x, rfl⟩ := d1
  obtain ⟨y, rfl⟩ := d2
  rw [Int.mul_tdiv_cancel_left _ (by omega), Int.mul_tdiv_cancel_left _ (by omega)]
  have hx : 1 ≤ x := by
    rcases Int.lt_or_le 0 x with h | h
    · omega
    · have := Int.mul_le_mul_of_nonneg_left h (show 0 ≤ g by omega); omega
  have hy : 1 ≤ y := by
    rcases Int.lt_or_le 0 y with h | h
    · omega
    · have := Int.mul_le_mul_of_nonneg_left h (show 0 ≤ g by omega); omega
  have e1 : 1 * x ≤ g * x := Int.mul_le_mul_of_nonneg_right (by omega) (by omega)
  have e2 : 1 * y ≤ g * y := Int.mul_le_mul_of_nonneg_right (by omega) (by omega)
  omega
theorem prod_range {a b m : Int} (ha : 1 ≤ a ∧ a ≤ m) (hb : 1 ≤ b ∧ b ≤ m) : 1 ≤ a * b ∧ a * b ≤ m * m := by
  have e1 : 1 * 1 ≤ a * b := Int.mul_le_mul ha.1 hb.1 (by omega) (by omega)
  have e2 : a * b ≤ m * m := Int.mul_le_mul ha.2 hb.2 (by omega) (by omega)
  omega

set_option maxHeartbeats 4000000 in
set_option maxRecDepth 100000 in
theorem areClose_any (k t s : Int) (r : Bool) (k2 t2 s2 : Int) (r2 : Bool) (n : Int) (l u o : Int) (z : Bool) (l2 u2 o2 : Int) (z2 : Bool) (m p : Int)
    (h1 : (Wind.mk k t s r).ok) (h2 : (Wind.mk k2 t2 s2 r2).ok) (h3 : (Wind.mk l u o z).ok) (h4 : (Wind.mk l2 u2 o2 z2).ok) (hp : 0 ≤ p ∧ p ≤ 100) (w : World) (hP : PatIn w) :
    Calls Tryz.prog 76 #[.agg #[.int .i64 k, .int .i64 t, .int .i64 s, .bool r, .int .i64 k2, .int .i64 t2, .int .i64 s2, .bool r2, .int .i64 n], .agg #[.int .i64 l, .int .i64 u, .int .i64 o, .bool z, .int .i64 l2, .int .i64 u2, .int .i64 o2, .bool z2, .int .i64 m], .int .i64 p] w fun e w' =>
      e = .returned (.bool (closeV (ratN (sqW k t) (sqW k2 t2)) (ratD (sqW k t) (sqW k2 t2)) (ratN (sqW l u) (sqW l2 u2)) (ratD (sqW l u) (sqW l2 u2)) p)) ∧ Below w.heap.size w w' := by
  have HR1 := Lib.hid (ratio_any k t s r k2 t2 s2 r2 n h1 h2)
  have HR2 := Lib.hid (ratio_any l u o z l2 u2 o2 z2 m h3 h4)
  obtain ⟨b1, b2⟩ := rat_range (sqW_range h1) (sqW_range h2)
  obtain ⟨b3, b4⟩ := rat_range (sqW_range h3) (sqW_range h4)
  dsimp only at b1 b2 b3 b4
  generalize ratN (sqW k t) (sqW k2 t2) = A at *
  generalize ratD (sqW k t) (sqW k2 t2) = B at *
  generalize ratN (sqW l u) (sqW l2 u2) = C at *
  generalize ratD (sqW l u) (sqW l2 u2) = D at *
  have p1 := prod_range b1 b4
  have p2 := prod_range b3 b2
  have HP := Lib.hid (fun w' (h : Below w.heap.size w w') => hP.below h)
  clear h1 h2 h3 h4 b1 b2 b3 b4 hP
  have e1 : IntKind.i64.wrap (A * D) = A * D := IntWalk.i64_in _ (by omega)
  have e2 : IntKind.i64.wrap (C * B) = C * B := IntWalk.i64_in _ (by omega)
  have e3 : IntKind.i64.wrap (100 + p) = 100 + p := IntWalk.i64_in _ (by omega)
  have q1 : 0 ≤ (100 + p) * (A * D) ∧ (100 + p) * (A * D) ≤ 200 * (36000000 * 36000000) := ⟨Int.mul_nonneg (by omega) (by omega), Int.mul_le_mul (by omega) (by omega) (by omega) (by omega)⟩
  have q2 : 0 ≤ (100 + p) * (C * B) ∧ (100 + p) * (C * B) ≤ 200 * (36000000 * 36000000) := ⟨Int.mul_nonneg (by omega) (by omega), Int.mul_le_mul (by omega) (by omega) (by omega) (by omega)⟩
  unfold closeV
  generalize hx : A * D = X at *
  generalize hy : C * B = Y at *
  have e4 : IntKind.i64.wrap (100 * X) = 100 * X := IntWalk.i64_in _ (by omega)
  have e5 : IntKind.i64.wrap (100 * Y) = 100 * Y := IntWalk.i64_in _ (by omega)
  have e6 : IntKind.i64.wrap ((100 + p) * X) = (100 + p) * X := IntWalk.i64_in _ (by omega)
  have e7 : IntKind.i64.wrap ((100 + p) * Y) = (100 + p) * Y := IntWalk.i64_in _ (by omega)
  clear p1 p2 q1 q2 hp
  go_enter Tryz.func76, Tryz.ntmps76
  go_wp2
  refine region_allocC2 (zc1 := (.cells #[.int .i64 0, .int .i64 0] 59)) (zc2 := (.cells #[.int .i64 0, .int .i64 0] 59)) 4 follows_mixed (by kernel_rfl) rfl rfl (fun _ _ => by kernel_rfl) (fun _ _ => by kernel_rfl) ?_
  simp only [List.take_succ_cons, List.take_zero, List.drop_succ_cons, List.drop_zero]
  repeat (first
    | ((with_reducible apply grow_plain); (focus rfl); (focus (intro w' hw; obtain ⟨hcq, hfq⟩ := bcell hw; go_simp; (first | done | rfl | (with_reducible exact HR1.out _ (HP.out _ (pt (pa (pa pr)) hw))) | (with_reducible exact HR2.out _ (HP.out _ (pt (pa (pa pr)) hw)))))); (simp only [Act.put, List.setIfInBounds_toArray, List.set_cons_succ, List.set_cons_zero]))
    | ((with_reducible apply grow_skip); (focus (first | (simp [Region.wanted, yielded]; done) | (simp [Region.wanted, yielded, undef]; done))); simp only [Act.put, List.setIfInBounds_toArray, List.set_cons_succ, List.set_cons_zero])
    | ((with_reducible apply grow_go); (focus (first | (simp [Region.wanted, yielded]; done) | (simp [Region.wanted, yielded, undef]; done))); (focus (intro w' hw; obtain ⟨hcq, hfq⟩ := bcell hw; go_simp; (first | done | rfl | (with_reducible exact HR1.out _ (HP.out _ (pt (pa (pa pr)) hw))) | (with_reducible exact HR2.out _ (HP.out _ (pt (pa (pa pr)) hw)))))); (simp only [Act.put, List.setIfInBounds_toArray, List.set_cons_succ, List.set_cons_zero])))
  refine grow_nil ?_
  intro qb1 qb2 w1 hb1 hn1 hn2 hq12
  simp only [List.setIfInBounds_toArray, List.set_cons_succ, List.set_cons_zero]
  have A_1 : Blk w1 qb1 59 #[.int .i64 0, .int .i64 0] := hn1.at_
  have ge_A : w.heap.size ≤ qb1 := by have := hn1.ge; simp at this; omega
  have B_1 : Blk w1 qb2 59 #[.int .i64 0, .int .i64 0] := hn2.at_
  have ge_B : w.heap.size ≤ qb2 := by have := hn2.ge; simp at this; omega
  have S_1 := pt (pa (pa pr)) hb1
  have ne_A_B := hq12
  clear hb1 hn1 hn2 hq12
  go_wp2_with (first
    | ((with_reducible refine store_sub (T := 59) (x := .tmp 7) (y := .tmp 12) (o := 0) (cs' := #[.int .i64 A, .int .i64 B]) (vs := #[.int .i64 A, .int .i64 B]) (show Blk _ (qb1) 59 #[.int .i64 0, .int .i64 0] from (A_1)) ?_ ?_ ?_ ?_ ?_ ?_ ?_); (focus rfl); (focus rfl); (focus rfl); (focus exact Nat.le_of_ble_eq_true rfl); (focus exact frac_size); (focus (simp [Value.oneCell']; done)); intro w2_ b2_ h2_; have A_2 : Blk w2_ (qb1) 59 #[.int .i64 A, .int .i64 B] := b2_; have B_2 : Blk w2_ (qb2) 59 #[.int .i64 0, .int .i64 0] := (B_1).put h2_ (Ne.symm ne_A_B); have S_2 := pp (S_1) h2_ ge_A; clear A_1 B_1 S_1; clear h2_ b2_)
    | ((with_reducible refine store_sub (T := 59) (x := .tmp 8) (y := .tmp 14) (o := 0) (cs' := #[.int .i64 C, .int .i64 D]) (vs := #[.int .i64 C, .int .i64 D]) (show Blk _ (qb2) 59 #[.int .i64 0, .int .i64 0] from (B_2)) ?_ ?_ ?_ ?_ ?_ ?_ ?_); (focus rfl); (focus rfl); (focus rfl); (focus exact Nat.le_of_ble_eq_true rfl); (focus exact frac_size); (focus (simp [Value.oneCell']; done)); intro w3_ b3_ h3_; have A_3 : Blk w3_ (qb1) 59 #[.int .i64 A, .int .i64 B] := (A_2).put h3_ ne_A_B; have B_3 : Blk w3_ (qb2) 59 #[.int .i64 C, .int .i64 D] := b3_; have S_3 := pp (S_2) h3_ ge_B; clear A_2 B_2 S_2; have Ac0 := A_3.cellAt 0 rfl; have Ac1 := A_3.cellAt 1 rfl; have Al := A_3.lt; have Bc0 := B_3.cellAt 0 rfl; have Bc1 := B_3.cellAt 1 rfl; have Bl := B_3.lt; clear h3_ b3_))
  go_quiet (fail)
  go_wp2
  all_goals
    go_ret
    exact ⟨ret_bool (by first | (simp [*]; done) | (simp; omega)), by first | exact S_3 | exact below_drewN' S_3 _⟩

end Go.Proofs.YtpdkbhjcpddnpaaGreatDoor
end

section
namespace Go.Proofs.YtpdkbhjcpddnpaaGreatDoor

/-- A phasor with whole hours is known by its hours and its size. -/
theorem ph_eq {p q r s h : Int} (h1 : hoursV p q = some h) (h2 : hoursV r s = some h) : phB p q r s = decide (sqV p q = sqV r s) := by
  obtain ⟨_, _, e, he, rfl, rfl⟩ := hoursV_dir h1
  obtain ⟨_, _, f, hf, rfl, rfl⟩ := hoursV_dir h2
  rw [sq_scale, sq_scale]
  have hp : sqV (dirV h).1 (dirV h).2 ≠ 0 := by
    have hr := hoursV_range h1
    have : h = 0 ∨ h = 1 ∨ h = 2 ∨ h = 3 ∨ h = 4 ∨ h = 5 ∨ h = 6 ∨ h = 7 ∨ h = 8 ∨ h = 9 ∨ h = 10 ∨ h = 11 := by omega
    rcases this with rfl | rfl | rfl | rfl | rfl | rfl | rfl | rfl | rfl | rfl | rfl | rfl <;> decide
  have key : e * e * sqV (dirV h).1 (dirV h).2 = f * f * sqV (dirV h).1 (dirV h).2 ↔ e = f := by
    constructor
    · intro hh
      have h3 := Int.eq_of_mul_eq_mul_right hp hh
      rcases Int.lt_trichotomy e f with h4 | h4 | h4
      · have := Int.mul_lt_mul h4 (Int.le_of_lt h4) he (by omega)
        omega
      · exact h4
      · have := Int.mul_lt_mul h4 (Int.le_of_lt h4) hf (by omega)
        omega
    · rintro rfl; rfl
  by_cases hef : e = f
  · subst hef
    rw [(phB_iff _ _ _ _).2 rfl]
    exact (decide_eq_true rfl).symm
  · rw [decide_eq_false (fun h => hef (key.1 h))]
    cases hb : phB (e * (dirV h).1) (e * (dirV h).2) (f * (dirV h).1) (f * (dirV h).2) with
    | false => rfl
    | true =>
      have h5 := (phB_iff _ _ _ _).1 hb
      injection h5 with h6 h7
      exact absurd (key.1 (by rw [← sq_scale, ← sq_scale, h6, h7])) hef
theorem ratio_cross {A B : Int} (ha : 1 ≤ A) (hb : 1 ≤ B) : ratN A B * B = A * ratD A B ∧ 1 ≤ ratN A B ∧ 1 ≤ ratD A B := by
  have g1 : 0 < gcdI A B := gcd_pos (by omega)
  have d1 : gcdI A B ∣ A := Int.gcd_dvd_left ..
  have d2 : gcdI A B ∣ B := Int.gcd_dvd_right ..
  unfold ratN ratD
  generalize gcdI A B = g at *
  obtain ⟨x, rfl⟩ := d1
  obtain ⟨y, rfl⟩ := d2
  rw [Int.mul_tdiv_cancel_left _ (by omega), Int.mul_tdiv_cancel_left _ (by omega)]
  refine ⟨by grind, ?_, ?_⟩
  · rcases Int.lt_or_le 0 x with h | h
    · exact h
    · have := Int.mul_nonpos_of_nonneg_of_nonpos (Int.le_of_lt g1) h
      omega
  · rcases Int.lt_or_le 0 y with h | h
    · exact h
    · have := Int.mul_nonpos_of_nonneg_of_nonpos (Int.le_of_lt g1) h
      omega
theorem close_zero {A B C D : Int} (ha : 1 ≤ A) (hb : 1 ≤ B) (hc : 1 ≤ C) (hd : 1 ≤ D) : closeV (ratN A B) (ratD A B) (ratN C D) (ratD C D) 0 = decide (A * D = C * B) := by
  obtain ⟨h1, h2, h3⟩ := ratio_cross ha hb
  obtain ⟨h4, h5, h6⟩ := ratio_cross hc hd
  unfold closeV
  generalize ratN A B = x at *
  generalize ratD A B = y at *
  generalize ratN C D = u at *
  generalize ratD C D = v at *
  have key : A * D = C * B ↔ x * v = u * y := by
    have e1 : x * v * (B * D) = A * D * (y * v) := by
      rw [show x * v * (B * D) = (x * B) * (D * v) by grind, h1]; grind
    have e2 : u * y * (B * D) = C * B * (y * v) := by
      rw [show u * y * (B * D) = (u * D) * (B * y) by grind, h4]; grind
    have hbd : B * D ≠ 0 := Int.mul_ne_zero (by omega) (by omega)
    have hyv : y * v ≠ 0 := Int.mul_ne_zero (by omega) (by omega)
    constructor
    · intro h
      rw [h, ← e2] at e1
      exact Int.eq_of_mul_eq_mul_right hbd e1
    · intro h
      rw [h, e2] at e1
      exact (Int.eq_of_mul_eq_mul_right hyv e1).symm
  by_cases h : x * v = u * y
  · rw [decide_eq_true (key.2 h), h]
    simp
  · rw [decide_eq_false (fun hh => h (key.1 hh))]
    rw [Bool.and_eq_false_iff]
    rcases Int.lt_trichotomy (x * v) (u * y) with h7 | h7 | h7
    · exact .inr (decide_eq_false (by omega))
    · exact absurd h7 h
    · exact .inl (decide_eq_false (by omega))
/-- The low-voltage phasors that belong to one high voltage are equal exactly if clock numbers and ratios are. -/
theorem par_same {a b c d : Wind} (ha : a.ok) (hb : b.ok) (hc : c.ok) (hd : d.ok) :
    (((whV a.kind a.shift a.rev - whV b.kind b.shift b.rev) % 12) == ((whV c.kind c.shift c.rev - whV d.kind d.shift d.rev) % 12) && closeV (ratN (sqW a.kind a.turns) (sqW b.kind b.turns)) (ratD (sqW a.kind a.turns) (sqW b.kind b.turns)) (ratN (sqW c.kind c.turns) (sqW d.kind d.turns)) (ratD (sqW c.kind c.turns) (sqW d.kind d.turns)) 0) =
      phB (mulP (phP (linesV b).x) (phQ (linesV b).x) (phP (linesV c).x) (phQ (linesV c).x)) (mulQ (phP (linesV b).x) (phQ (linesV b).x) (phP (linesV c).x) (phQ (linesV c).x))
        (mulP (phP (linesV d).x) (phQ (linesV d).x) (phP (linesV a).x) (phQ (linesV a).x)) (mulQ (phP (linesV d).x) (phQ (linesV d).x) (phP (linesV a).x) (phQ (linesV a).x)) := by
  have x := hoursV_mul (lines_hours hb) (lines_hours hc)
  have y := hoursV_mul (lines_hours hd) (lines_hours ha)
  have sx := sq_mul (phP (linesV b).x) (phQ (linesV b).x) (phP (linesV c).x) (phQ (linesV c).x)
  have sy := sq_mul (phP (linesV d).x) (phQ (linesV d).x) (phP (linesV a).x) (phQ (linesV a).x)
  rw [lines_sq hb, lines_sq hc] at sx
  rw [lines_sq hd, lines_sq ha] at sy
  rw [close_zero (sqW_range ha).1 (sqW_range hb).1 (sqW_range hc).1 (sqW_range hd).1]
  have r1 := wh_range a.kind a.shift a.rev
  have r2 := wh_range b.kind b.shift b.rev
  have r3 := wh_range c.kind c.shift c.rev
  have r4 := wh_range d.kind d.shift d.rev
  generalize mulP (phP (linesV b).x) (phQ (linesV b).x) (phP (linesV c).x) (phQ (linesV c).x) = p at *
  generalize mulQ (phP (linesV b).x) (phQ (linesV b).x) (phP (linesV c).x) (phQ (linesV c).x) = q at *
  generalize mulP (phP (linesV d).x) (phQ (linesV d).x) (phP (linesV a).x) (phQ (linesV a).x) = r at *
  generalize mulQ (phP (linesV d).x) (phQ (linesV d).x) (phP (linesV a).x) (phQ (linesV a).x) = s at *
  generalize whV a.kind a.shift a.rev = w1 at *
  generalize whV b.kind b.shift b.rev = w2 at *
  generalize whV c.kind c.shift c.rev = w3 at *
  generalize whV d.kind d.shift d.rev = w4 at *
  by_cases h : (w1 - w2) % 12 = (w3 - w4) % 12
  · have e : (w2 + w3) % 12 = (w4 + w1) % 12 := by omega
    rw [e] at x
    rw [ph_eq x y, sx, sy, h]
    unfold sqW
    have ek : (a.turns * a.turns * (if a.kind = 0 then 3 else if a.kind = 1 then 1 else 9) * (d.turns * d.turns * if d.kind = 0 then 3 else if d.kind = 1 then 1 else 9) = c.turns * c.turns * (if c.kind = 0 then 3 else if c.kind = 1 then 1 else 9) * (b.turns * b.turns * if b.kind = 0 then 3 else if b.kind = 1 then 1 else 9)) ↔ (b.turns * b.turns * (if b.kind = 0 then 3 else if b.kind = 1 then 1 else 9) * (c.turns * c.turns * if c.kind = 0 then 3 else if c.kind = 1 then 1 else 9) = d.turns * d.turns * (if d.kind = 0 then 3 else if d.kind = 1 then 1 else 9) * (a.turns * a.turns * if a.kind = 0 then 3 else if a.kind = 1 then 1 else 9)) := by
      constructor
      · intro h; rw [Int.mul_comm, ← h, Int.mul_comm]
      · intro h; rw [Int.mul_comm, ← h, Int.mul_comm]
    rw [show (((w3 - w4) % 12 == (w3 - w4) % 12) = true) from beq_self_eq_true _, Bool.true_and]
    exact decide_eq_decide.2 ek
  · rw [show ((w1 - w2) % 12 == (w3 - w4) % 12) = false from beq_eq_false_iff_ne.2 h, Bool.false_and]
    cases hb : phB p q r s with
    | false => rfl
    | true =>
      have h5 := (phB_iff _ _ _ _).1 hb
      injection h5 with h6 h7
      rw [h6, h7, y] at x
      injection x with x
      omega
end Go.Proofs.YtpdkbhjcpddnpaaGreatDoor
end
