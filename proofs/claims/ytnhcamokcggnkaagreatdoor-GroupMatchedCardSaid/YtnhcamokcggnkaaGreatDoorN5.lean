/- Contracts: base.Floor for a divisor above 0, base.Compare for denominators above 0.
Contracts: group.areClose and the specification's IsNear.
Contract of the specification's IsNear.
Contracts: bothErr, MayRun, the specification's PercentErr and MayRun.
Contract of the specification's MayRun. -/
import Derived.Test.YtnhcamokcggnkaaGreatDoorN2
import Derived.Test.YtnhcamokcggnkaaGreatDoorHAStore
import Derived.Test.YtnhcamokcggnkaaGreatDoorN1
import Derived.Test.YtnhcamokcggnkaaGreatDoorGBClock
import Derived.Test.YtnhcamokcggnkaaGreatDoorGZLow

section
namespace Go.Proofs.YtnhcamokcggnkaaGreatDoor
open Go.RowKit
attribute [local go_sem ↓] Go.wp_at_zero Go.wp_at_succ

theorem floor_neg {a b : Int} (hb : 0 < b) (h : a.tmod b < 0) : a / b = a.tdiv b - 1 := by
  have h1 := Int.mul_tdiv_add_tmod a b
  have h3 := Int.lt_tmod_of_pos a hb
  refine ((Int.ediv_emod_unique (r := a.tmod b + b) hb).2 ⟨?_, by omega, by omega⟩).1
  rw [Int.mul_sub]; omega
theorem floor_pos {a b : Int} (hb : 0 < b) (h : ¬ a.tmod b < 0) : a / b = a.tdiv b := by
  have h1 := Int.mul_tdiv_add_tmod a b
  have h2 := Int.tmod_lt_of_pos a hb
  exact ((Int.ediv_emod_unique (r := a.tmod b) hb).2 ⟨by omega, by omega, h2⟩).1

set_option maxHeartbeats 1000000 in
theorem refFloor_any (a b : Int) (ha : Sm 4000000000000000 a) (hb : 0 < b) (w : World) :
    Calls Tryz.prog 130 #[.int .i64 a, .int .i64 b] w fun e w' => e = .returned (.int .i64 (a / b)) ∧ Below w.heap.size w w' := by
  have d1 := tdiv_sm (b := b) ha (by decide)
  have hf1 := @floor_neg a b hb
  have hf2 := @floor_pos a b hb
  have m1 := Int.tmod_lt_of_pos a hb
  have m2 := Int.lt_tmod_of_pos a hb
  have m3 : Sm 4000000000000000 (a.tmod b) := by
    have : (a.tmod b).natAbs ≤ a.natAbs := by rw [Int.natAbs_tmod]; exact Nat.mod_le _ _
    unfold Sm at *; omega
  unfold Sm at d1 m3
  have w1 : IntKind.i64.wrap (a.tdiv b) = a.tdiv b := IntWalk.i64_in _ (by omega)
  have w2 : IntKind.i64.wrap (a.tmod b) = a.tmod b := IntWalk.i64_in _ (by omega)
  have w3 : IntKind.i64.wrap (a.tdiv b - 1) = a.tdiv b - 1 := IntWalk.i64_in _ (by omega)
  have hb0 : ¬ b = 0 := by omega
  have hb1 : (b == 0) = false := by simpa using hb0
  clear ha d1 m1 m2 m3
  by_cases h : a.tmod b < 0
  · have HV := Lib.hid (hf1 h)
    clear hf1 hf2
    go_enter Tryz.func130, Tryz.ntmps130
    go_wp2
    go_ret
    exact ⟨ret_int HV.out.symm, pr⟩
  · have HV := Lib.hid (hf2 h)
    clear hf1 hf2
    go_enter Tryz.func130, Tryz.ntmps130
    go_wp2
    go_ret
    exact ⟨ret_int HV.out.symm, pr⟩

theorem sgn_neg {x : Int} (h : x < 0) : sgnV x = -1 := by simp [sgnV, h]
theorem sgn_pos {x : Int} (h : 0 < x) : sgnV x = 1 := by
  unfold sgnV; rw [if_neg (by omega), if_neg (by omega)]

set_option maxHeartbeats 2000000 in
theorem refCompare_any (n d m k : Int) (hn : Sm 1000000000000000 n) (hm : Sm 1000000000000000 m) (hd : 0 < d) (hk : 0 < k) (hd' : Sm 1000000000000000 d) (hk' : Sm 1000000000000000 k) (w : World) :
    Calls Tryz.prog 82 #[.int .i64 n, .int .i64 d, .int .i64 m, .int .i64 k] w fun e w' => e = .returned (.int .i64 (sgnV (n * k - m * d))) ∧ Below w.heap.size w w' := by
  go_enter Tryz.func82, Tryz.ntmps82
  go_wp2
  go_loopw [0, 1, 2, 3] (fun x y z v wr => ∃ a b c e : Int, x = .int .i64 a ∧ y = .int .i64 b ∧ z = .int .i64 c ∧ v = .int .i64 e ∧ Sm 1000000000000000 a ∧ Sm 1000000000000000 c ∧ 0 < b ∧ 0 < e ∧ Sm 1000000000000000 b ∧ Sm 1000000000000000 e ∧ sgnV (n * k - m * d) = sgnV (a * e - c * b) ∧ Below w.heap.size w wr) (fun _ y _ v _ => (intOf y).toNat + (intOf v).toNat)
  case atStart => exact ⟨n, d, m, k, rfl, rfl, rfl, rfl, hn, hm, hd, hk, hd', hk', rfl, pr⟩
  case round =>
    obtain ⟨a, b, c, e, rfl, rfl, rfl, rfl, h1, h2, h3, h4, h5, h6, hg, hS⟩ := hrel
    have HF1 := Lib.hid (refFloor_any a b (sm_more h1 (by decide)) h3)
    have HF2 := Lib.hid (refFloor_any c e (sm_more h2 (by decide)) h4)
    have q1 := rest_range a h3
    have q2 := rest_range c h4
    have HL1 := Lib.hid (@cmp_lt a b c e h3 h4)
    have HL2 := Lib.hid (@cmp_lt c e a b h4 h3)
    have HL3 := Lib.hid (@cmp_rest a b c e)
    have HG := Lib.hid hg
    have HS := Lib.hid hS
    have H5 := Lib.hid h5
    have H6 := Lib.hid h6
    clear hg hS hn hm hd hk hd' hk'
    generalize a / b = p at *
    generalize c / e = q at *
    unfold Sm at h1 h2 h5 h6
    rcases Int.lt_trichotomy p q with hpq | rfl | hpq
    · have hlt : decide (p < q) = true := by simpa using hpq
      have HV := Lib.hid (sgn_neg (HL1.out hpq))
      clear q1 q2 HL1 HL2 HL3
      go_wp2_with (go_at_call 130; first | (with_reducible refine (HF1.out _).mono ?_; rintro e w1 ⟨rfl, hb1⟩) | (with_reducible refine (HF2.out _).mono ?_; rintro e w2 ⟨rfl, hb2⟩))
      go_ret
      exact ⟨ret_int ((HG.out.trans HV.out).symm), pt (pt HS.out hb1) hb2⟩
    · have hL := HL3.out rfl
      obtain ⟨r, hr⟩ : ∃ r, a - p * b = r := ⟨_, rfl⟩
      obtain ⟨t, ht⟩ : ∃ t, c - p * e = t := ⟨_, rfl⟩
      rw [hr] at q1 hL
      rw [ht] at q2 hL
      have z1 : IntKind.i64.wrap (p * b) = p * b := IntWalk.i64_in _ (by omega)
      have z2 : IntKind.i64.wrap (p * e) = p * e := IntWalk.i64_in _ (by omega)
      have z3 : IntKind.i64.wrap (a - p * b) = r := by rw [hr]; exact IntWalk.i64_in _ (by omega)
      have z4 : IntKind.i64.wrap (c - p * e) = t := by rw [ht]; exact IntWalk.i64_in _ (by omega)
      have HL := Lib.hid hL
      have HQ1 := Lib.hid q1
      have HQ2 := Lib.hid q2
      clear hr ht hL HL1 HL2 HL3
      by_cases hr0 : r = 0
      · subst hr0
        by_cases ht0 : t = 0
        · subst ht0
          clear q1 q2
          go_wp2_with (go_at_call 130; first | (with_reducible refine (HF1.out _).mono ?_; rintro e w1 ⟨rfl, hb1⟩) | (with_reducible refine (HF2.out _).mono ?_; rintro e w2 ⟨rfl, hb2⟩))
          go_ret
          refine ⟨ret_int ?_, pt (pt HS.out hb1) hb2⟩
          rw [HG.out, ← HL.out]
          simp [sgnV]
        · have t1 : (t == 0) = false := by simpa using ht0
          have HP : 0 < t * b := Int.mul_pos (by omega) h3
          have HP' := Lib.hid HP
          clear HP q1 q2
          go_wp2_with (go_at_call 130; first | (with_reducible refine (HF1.out _).mono ?_; rintro e w1 ⟨rfl, hb1⟩) | (with_reducible refine (HF2.out _).mono ?_; rintro e w2 ⟨rfl, hb2⟩))
          go_ret
          refine ⟨ret_int ?_, pt (pt HS.out hb1) hb2⟩
          rw [HG.out, ← HL.out]
          exact (sgn_neg (by have := HP'.out; omega)).symm
      · have r1 : (r == 0) = false := by simpa using hr0
        by_cases ht0 : t = 0
        · subst ht0
          have HP : 0 < r * e := Int.mul_pos (by omega) h4
          have HP' := Lib.hid HP
          clear HP q1 q2
          go_wp2_with (go_at_call 130; first | (with_reducible refine (HF1.out _).mono ?_; rintro e w1 ⟨rfl, hb1⟩) | (with_reducible refine (HF2.out _).mono ?_; rintro e w2 ⟨rfl, hb2⟩))
          go_ret
          refine ⟨ret_int ?_, pt (pt HS.out hb1) hb2⟩
          rw [HG.out, ← HL.out]
          exact (sgn_pos (by have := HP'.out; omega)).symm
        · have t1 : (t == 0) = false := by simpa using ht0
          clear q1 q2
          go_wp2_with (go_at_call 130; first | (with_reducible refine (HF1.out _).mono ?_; rintro e w1 ⟨rfl, hb1⟩) | (with_reducible refine (HF2.out _).mono ?_; rintro e w2 ⟨rfl, hb2⟩))
          go_roundw
          case rel =>
            have Q1 := HQ1.out
            have Q2 := HQ2.out
            have X5 := H5.out
            have X6 := H6.out
            refine ⟨e, t, b, r, rfl, rfl, rfl, rfl, X6, X5, by omega, by omega, by unfold Sm at *; omega, by unfold Sm at *; omega, ?_, pt (pt HS.out hb1) hb2⟩
            rw [HG.out, ← HL.out, Int.mul_comm r e, Int.mul_comm t b]
          case measure =>
            have Q1 := HQ1.out
            have Q2 := HQ2.out
            simp only [intOf]
            omega
    · have hlt : decide (p < q) = false := by simp; omega
      have hgt : decide (q < p) = true := by simpa using hpq
      have HV := Lib.hid (HL2.out hpq)
      have hnl : ¬ p < q := by omega
      clear q1 q2 HL1 HL2 HL3
      go_wp2_with (go_at_call 130; first | (with_reducible refine (HF1.out _).mono ?_; rintro e w1 ⟨rfl, hb1⟩) | (with_reducible refine (HF2.out _).mono ?_; rintro e w2 ⟨rfl, hb2⟩))
      go_ret
      refine ⟨ret_int ?_, pt (pt HS.out hb1) hb2⟩
      rw [HG.out]
      exact (sgn_pos (by have := HV.out; omega)).symm

end Go.Proofs.YtnhcamokcggnkaaGreatDoor
end

section
namespace Go.Proofs.YtnhcamokcggnkaaGreatDoor
open Go.RowKit
attribute [local go_sem ↓] Go.wp_at_zero Go.wp_at_succ

theorem frac_size : (Tryz.prog.info? 33).map (·.size) = some 2 := by kernel_rfl

/-- Two fractions a/b and c/d differ by at most p percent. -/
def closeV (a b c d p : Int) : Bool := decide (100 * (a * d) ≤ (100 + p) * (c * b)) && decide (100 * (c * b) ≤ (100 + p) * (a * d))
theorem closeV_comm (a b c d p : Int) : closeV a b c d p = closeV c d a b p := by simp [closeV, Bool.and_comm]
theorem rat_range {a b m : Int} (ha : 1 ≤ a ∧ a ≤ m) (hb : 1 ≤ b ∧ b ≤ m) : (1 ≤ ratN a b ∧ ratN a b ≤ m) ∧ (1 ≤ ratD a b ∧ ratD a b ≤ m) := by
  have g1 : 0 < gcdI a b := gcd_pos (by omega)
  have d1 : gcdI a b ∣ a := Int.gcd_dvd_left ..
  have d2 : gcdI a b ∣ b := Int.gcd_dvd_right ..
  unfold ratN ratD
  generalize gcdI a b = g at *
  obtain ⟨x, rfl⟩ := d1
  obtain ⟨y, rfl⟩ := d2
  rw [Int.mul_tdiv_cancel_left _ (by omega), Int.mul_tdiv_cancel_left _ (by omega)]
  have hx : 1 ≤ x := by
    rcases Int.lt_or_le 0 x with h | h
    · omega
    · have := Int.mul_le_mul_of_nonneg_left h (show 0 ≤ g by omega); omega
  have hy : 1 ≤ y := by
    rcases Int.lt_or_le 0 y with h | h
    · omega
    · have := Int.mul_le_mul_of_nonneg_left h (show 0 ≤ g by omega); omega
  have e1 : 1 * x ≤ g * x := Int.mul_le_mul_of_nonneg_right (by omega) (by omega)
  have e2 : 1 * y ≤ g * y := Int.mul_le_mul_of_nonneg_right (by omega) (by omega)
  omega
theorem prod_range {a b m : Int} (ha : 1 ≤ a ∧ a ≤ m) (hb : 1 ≤ b ∧ b ≤ m) : 1 ≤ a * b ∧ a * b ≤ m * m := by
  have e1 : 1 * 1 ≤ a * b := Int.mul_le_mul ha.1 hb.1 (by omega) (by omega)
  have e2 : a * b ≤ m * m := Int.mul_le_mul ha.2 hb.2 (by omega) (by omega)
  omega

set_option maxHeartbeats 4000000 in
set_option maxRecDepth 100000 in
theorem areClose_any (k t s : Int) (r : Bool) (k2 t2 s2 : Int) (r2 : Bool) (n : Int) (l u o : Int) (z : Bool) (l2 u2 o2 : Int) (z2 : Bool) (m p : Int)
    (h1 : (Wind.mk k t s r).ok) (h2 : (Wind.mk k2 t2 s2 r2).ok) (h3 : (Wind.mk l u o z).ok) (h4 : (Wind.mk l2 u2 o2 z2).ok) (hp : 0 ≤ p ∧ p ≤ 100) (w : World) (hP : PatIn w) :
    Calls Tryz.prog 77 #[.agg #[.int .i64 k, .int .i64 t, .int .i64 s, .bool r, .int .i64 k2, .int .i64 t2, .int .i64 s2, .bool r2, .int .i64 n], .agg #[.int .i64 l, .int .i64 u, .int .i64 o, .bool z, .int .i64 l2, .int .i64 u2, .int .i64 o2, .bool z2, .int .i64 m], .int .i64 p] w fun e w' =>
      e = .returned (.bool (closeV (ratN (sqW k t) (sqW k2 t2)) (ratD (sqW k t) (sqW k2 t2)) (ratN (sqW l u) (sqW l2 u2)) (ratD (sqW l u) (sqW l2 u2)) p)) ∧ Below w.heap.size w w' := by
  have HR1 := Lib.hid (ratio_any k t s r k2 t2 s2 r2 n h1 h2)
  have HR2 := Lib.hid (ratio_any l u o z l2 u2 o2 z2 m h3 h4)
  obtain ⟨b1, b2⟩ := rat_range (sqW_range h1) (sqW_range h2)
  obtain ⟨b3, b4⟩ := rat_range (sqW_range h3) (sqW_range h4)
  dsimp only at b1 b2 b3 b4
  generalize ratN (sqW k t) (sqW k2 t2) = A at *
  generalize ratD (sqW k t) (sqW k2 t2) = B at *
  generalize ratN (sqW l u) (sqW l2 u2) = C at *
  generalize ratD (sqW l u) (sqW l2 u2) = D at *
  have p1 := prod_range b1 b4
  have p2 := prod_range b3 b2
  have HP := Lib.hid (fun w' (h : Below w.heap.size w w') => hP.below h)
  clear h1 h2 h3 h4 b1 b2 b3 b4 hP
  have e1 : IntKind.i64.wrap (A * D) = A * D := IntWalk.i64_in _ (by omega)
  have e2 : IntKind.i64.wrap (C * B) = C * B := IntWalk.i64_in _ (by omega)
  have e3 : IntKind.i64.wrap (100 + p) = 100 + p := IntWalk.i64_in _ (by omega)
  have q1 : 0 ≤ (100 + p) * (A * D) ∧ (100 + p) * (A * D) ≤ 200 * (36000000 * 36000000) := ⟨Int.mul_nonneg (by omega) (by omega), Int.mul_le_mul (by omega) (by omega) (by omega) (by omega)⟩
  have q2 : 0 ≤ (100 + p) * (C * B) ∧ (100 + p) * (C * B) ≤ 200 * (36000000 * 36000000) := ⟨Int.mul_nonneg (by omega) (by omega), Int.mul_le_mul (by omega) (by omega) (by omega) (by omega)⟩
  unfold closeV
  generalize hx : A * D = X at *
  generalize hy : C * B = Y at *
  have e4 : IntKind.i64.wrap (100 * X) = 100 * X := IntWalk.i64_in _ (by omega)
  have e5 : IntKind.i64.wrap (100 * Y) = 100 * Y := IntWalk.i64_in _ (by omega)
  have e6 : IntKind.i64.wrap ((100 + p) * X) = (100 + p) * X := IntWalk.i64_in _ (by omega)
  have e7 : IntKind.i64.wrap ((100 + p) * Y) = (100 + p) * Y := IntWalk.i64_in _ (by omega)
  clear p1 p2 q1 q2 hp
  go_enter Tryz.func77, Tryz.ntmps77
  go_wp2
  refine region_allocC2 (zc1 := (.cells #[.int .i64 0, .int .i64 0] 33)) (zc2 := (.cells #[.int .i64 0, .int .i64 0] 33)) 4 follows_mixed (by kernel_rfl) rfl rfl (fun _ _ => by kernel_rfl) (fun _ _ => by kernel_rfl) ?_
  simp only [List.take_succ_cons, List.take_zero, List.drop_succ_cons, List.drop_zero]
  repeat (first
    | ((with_reducible apply grow_plain); (focus rfl); (focus (intro w' hw; obtain ⟨hcq, hfq⟩ := bcell hw; go_simp; (first | done | rfl | (with_reducible exact HR1.out _ (HP.out _ (pt (pa (pa pr)) hw))) | (with_reducible exact HR2.out _ (HP.out _ (pt (pa (pa pr)) hw)))))); (simp only [Act.put, List.setIfInBounds_toArray, List.set_cons_succ, List.set_cons_zero]))
    | ((with_reducible apply grow_skip); (focus (first | (simp [Region.wanted, yielded]; done) | (simp [Region.wanted, yielded, undef]; done))); simp only [Act.put, List.setIfInBounds_toArray, List.set_cons_succ, List.set_cons_zero])
    | ((with_reducible apply grow_go); (focus (first | (simp [Region.wanted, yielded]; done) | (simp [Region.wanted, yielded, undef]; done))); (focus (intro w' hw; obtain ⟨hcq, hfq⟩ := bcell hw; go_simp; (first | done | rfl | (with_reducible exact HR1.out _ (HP.out _ (pt (pa (pa pr)) hw))) | (with_reducible exact HR2.out _ (HP.out _ (pt (pa (pa pr)) hw)))))); (simp only [Act.put, List.setIfInBounds_toArray, List.set_cons_succ, List.set_cons_zero])))
  refine grow_nil ?_
  intro qb1 qb2 w1 hb1 hn1 hn2 hq12
  simp only [Act.put, List.setIfInBounds_toArray, List.set_cons_succ, List.set_cons_zero]
  have A_1 : Blk w1 qb1 33 #[.int .i64 0, .int .i64 0] := hn1.at_
  have ge_A : w.heap.size ≤ qb1 := by have := hn1.ge; simp at this; omega
  have B_1 : Blk w1 qb2 33 #[.int .i64 0, .int .i64 0] := hn2.at_
  have ge_B : w.heap.size ≤ qb2 := by have := hn2.ge; simp at this; omega
  have S_1 := pt (pa (pa pr)) hb1
  have ne_A_B := hq12
  clear hb1 hn1 hn2 hq12
  go_wp2_with (first
    | ((with_reducible refine store_sub (T := 33) (x := .tmp 7) (y := .tmp 12) (o := 0) (cs' := #[.int .i64 A, .int .i64 B]) (vs := #[.int .i64 A, .int .i64 B]) (show Blk _ (qb1) 33 #[.int .i64 0, .int .i64 0] from (A_1)) ?_ ?_ ?_ ?_ ?_ ?_ ?_); (focus rfl); (focus rfl); (focus rfl); (focus exact Nat.le_of_ble_eq_true rfl); (focus exact frac_size); (focus (simp [Value.oneCell']; done)); intro w2_ b2_ h2_; have A_2 : Blk w2_ (qb1) 33 #[.int .i64 A, .int .i64 B] := b2_; have B_2 : Blk w2_ (qb2) 33 #[.int .i64 0, .int .i64 0] := (B_1).put h2_ (Ne.symm ne_A_B); have S_2 := pp (S_1) h2_ ge_A; clear A_1 B_1 S_1; clear h2_ b2_)
    | ((with_reducible refine store_sub (T := 33) (x := .tmp 8) (y := .tmp 14) (o := 0) (cs' := #[.int .i64 C, .int .i64 D]) (vs := #[.int .i64 C, .int .i64 D]) (show Blk _ (qb2) 33 #[.int .i64 0, .int .i64 0] from (B_2)) ?_ ?_ ?_ ?_ ?_ ?_ ?_); (focus rfl); (focus rfl); (focus rfl); (focus exact Nat.le_of_ble_eq_true rfl); (focus exact frac_size); (focus (simp [Value.oneCell']; done)); intro w3_ b3_ h3_; have A_3 : Blk w3_ (qb1) 33 #[.int .i64 A, .int .i64 B] := (A_2).put h3_ ne_A_B; have B_3 : Blk w3_ (qb2) 33 #[.int .i64 C, .int .i64 D] := b3_; have S_3 := pp (S_2) h3_ ge_B; clear A_2 B_2 S_2; have Ac0 := A_3.cellAt 0 rfl; have Ac1 := A_3.cellAt 1 rfl; have Al := A_3.lt; have Bc0 := B_3.cellAt 0 rfl; have Bc1 := B_3.cellAt 1 rfl; have Bl := B_3.lt; clear h3_ b3_))
  go_quiet (fail)
  go_wp2
  all_goals
    go_ret
    exact ⟨ret_bool (by first | (simp [*]; done) | (simp; omega)), by first | exact S_3 | exact below_drewN' S_3 _⟩

end Go.Proofs.YtnhcamokcggnkaaGreatDoor
end

section
namespace Go.Proofs.YtnhcamokcggnkaaGreatDoor
open Go.RowKit
attribute [local go_sem ↓] Go.wp_at_zero Go.wp_at_succ

theorem sgn_le {x : Int} : (sgnV x ≤ 0) ↔ x ≤ 0 := by
  unfold sgnV
  split
  · omega
  · split <;> omega
theorem near_eq {A B C D p : Int} : closeV A B C D p = (decide (sgnV (100 * A * D - (100 + p) * C * B) ≤ 0) && decide (sgnV (100 * C * B - (100 + p) * A * D) ≤ 0)) := by
  unfold closeV
  have e1 : (100 * (A * D) ≤ (100 + p) * (C * B)) ↔ (sgnV (100 * A * D - (100 + p) * C * B) ≤ 0) := by
    rw [sgn_le, Int.mul_assoc, Int.mul_assoc]; omega
  have e2 : (100 * (C * B) ≤ (100 + p) * (A * D)) ↔ (sgnV (100 * C * B - (100 + p) * A * D) ≤ 0) := by
    rw [sgn_le, Int.mul_assoc, Int.mul_assoc]; omega
  simp only [e1, e2]

set_option maxHeartbeats 4000000 in
set_option maxRecDepth 100000 in
theorem refIsNear_any (k t s : Int) (r : Bool) (k2 t2 s2 : Int) (r2 : Bool) (n : Int) (l u o : Int) (z : Bool) (l2 u2 o2 : Int) (z2 : Bool) (m p : Int)
    (h1 : (Wind.mk k t s r).ok) (h2 : (Wind.mk k2 t2 s2 r2).ok) (h3 : (Wind.mk l u o z).ok) (h4 : (Wind.mk l2 u2 o2 z2).ok) (hp : 0 ≤ p ∧ p ≤ 100) (w : World) :
    Calls Tryz.prog 32 #[.agg #[.int .i64 k, .int .i64 t, .int .i64 s, .bool r, .int .i64 k2, .int .i64 t2, .int .i64 s2, .bool r2, .int .i64 n], .agg #[.int .i64 l, .int .i64 u, .int .i64 o, .bool z, .int .i64 l2, .int .i64 u2, .int .i64 o2, .bool z2, .int .i64 m], .int .i64 p] w fun e w' =>
      e = .returned (.bool (closeV (ratN (sqW k t) (sqW k2 t2)) (ratD (sqW k t) (sqW k2 t2)) (ratN (sqW l u) (sqW l2 u2)) (ratD (sqW l u) (sqW l2 u2)) p)) ∧ Below w.heap.size w w' := by
  have HR1 := Lib.hid (refRatio_any k t s r k2 t2 s2 r2 n h1 h2)
  have HR2 := Lib.hid (refRatio_any l u o z l2 u2 o2 z2 m h3 h4)
  obtain ⟨b1, b2⟩ := rat_range (sqW_range h1) (sqW_range h2)
  obtain ⟨b3, b4⟩ := rat_range (sqW_range h3) (sqW_range h4)
  dsimp only at b1 b2 b3 b4
  generalize ratN (sqW k t) (sqW k2 t2) = A at *
  generalize ratD (sqW k t) (sqW k2 t2) = B at *
  generalize ratN (sqW l u) (sqW l2 u2) = C at *
  generalize ratD (sqW l u) (sqW l2 u2) = D at *
  clear h1 h2 h3 h4
  have e3 : IntKind.i64.wrap (100 + p) = 100 + p := IntWalk.i64_in _ (by omega)
  have e4 : IntKind.i64.wrap (100 * A) = 100 * A := IntWalk.i64_in _ (by omega)
  have e5 : IntKind.i64.wrap (100 * C) = 100 * C := IntWalk.i64_in _ (by omega)
  have q1 : 0 ≤ (100 + p) * A ∧ (100 + p) * A ≤ 200 * 36000000 := ⟨Int.mul_nonneg (by omega) (by omega), Int.mul_le_mul (by omega) (by omega) (by omega) (by omega)⟩
  have q2 : 0 ≤ (100 + p) * C ∧ (100 + p) * C ≤ 200 * 36000000 := ⟨Int.mul_nonneg (by omega) (by omega), Int.mul_le_mul (by omega) (by omega) (by omega) (by omega)⟩
  have e6 : IntKind.i64.wrap ((100 + p) * A) = (100 + p) * A := IntWalk.i64_in _ (by omega)
  have e7 : IntKind.i64.wrap ((100 + p) * C) = (100 + p) * C := IntWalk.i64_in _ (by omega)
  have HC1 := Lib.hid (refCompare_any (100 * A) B ((100 + p) * C) D (by unfold Sm; omega) (by unfold Sm; omega) (by omega) (by omega) (by unfold Sm; omega) (by unfold Sm; omega))
  have HC2 := Lib.hid (refCompare_any (100 * C) D ((100 + p) * A) B (by unfold Sm; omega) (by unfold Sm; omega) (by omega) (by omega) (by unfold Sm; omega) (by unfold Sm; omega))
  have hE := @near_eq A B C D p
  have sw : 100 * C * B - (100 + p) * A * D = 100 * C * B - (100 + p) * A * D := rfl
  rw [hE]
  clear q1 q2 hp b1 b2 b3 b4 hE sw
  generalize sgnV (100 * A * D - (100 + p) * C * B) = X at *
  generalize sgnV (100 * C * B - (100 + p) * A * D) = Y at *
  go_enter Tryz.func32, Tryz.ntmps32
  go_wp2
  refine region_allocC2 (zc1 := (.cells #[.int .i64 0, .int .i64 0] 33)) (zc2 := (.cells #[.int .i64 0, .int .i64 0] 33)) 4 follows_mixed (by kernel_rfl) rfl rfl (fun _ _ => by kernel_rfl) (fun _ _ => by kernel_rfl) ?_
  simp only [List.take_succ_cons, List.take_zero, List.drop_succ_cons, List.drop_zero]
  repeat (first
    | ((with_reducible apply grow_plain); (focus rfl); (focus (intro w' hw; obtain ⟨hcq, hfq⟩ := bcell hw; go_simp; (first | done | rfl | (with_reducible exact HR1.out _) | (with_reducible exact HR2.out _)))); (simp only [Act.put, List.setIfInBounds_toArray, List.set_cons_succ, List.set_cons_zero]))
    | ((with_reducible apply grow_skip); (focus (first | (simp [Region.wanted, yielded]; done) | (simp [Region.wanted, yielded, undef]; done))); simp only [Act.put, List.setIfInBounds_toArray, List.set_cons_succ, List.set_cons_zero])
    | ((with_reducible apply grow_go); (focus (first | (simp [Region.wanted, yielded]; done) | (simp [Region.wanted, yielded, undef]; done))); (focus (intro w' hw; obtain ⟨hcq, hfq⟩ := bcell hw; go_simp; (first | done | rfl | (with_reducible exact HR1.out _) | (with_reducible exact HR2.out _)))); (simp only [Act.put, List.setIfInBounds_toArray, List.set_cons_succ, List.set_cons_zero])))
  refine grow_nil ?_
  intro qb1 qb2 w1 hb1 hn1 hn2 hq12
  simp only [Act.put, List.setIfInBounds_toArray, List.set_cons_succ, List.set_cons_zero]
  have A_1 : Blk w1 qb1 33 #[.int .i64 0, .int .i64 0] := hn1.at_
  have ge_A : w.heap.size ≤ qb1 := by have := hn1.ge; simp at this; omega
  have B_1 : Blk w1 qb2 33 #[.int .i64 0, .int .i64 0] := hn2.at_
  have ge_B : w.heap.size ≤ qb2 := by have := hn2.ge; simp at this; omega
  have S_1 := pt (pa (pa pr)) hb1
  have ne_A_B := hq12
  clear hb1 hn1 hn2 hq12
  go_wp2_with (first
    | ((with_reducible refine store_sub (T := 33) (x := .tmp 7) (y := .tmp 10) (o := 0) (cs' := #[.int .i64 A, .int .i64 B]) (vs := #[.int .i64 A, .int .i64 B]) (show Blk _ (qb1) 33 #[.int .i64 0, .int .i64 0] from (A_1)) ?_ ?_ ?_ ?_ ?_ ?_ ?_); (focus rfl); (focus rfl); (focus rfl); (focus exact Nat.le_of_ble_eq_true rfl); (focus exact frac_size); (focus (simp [Value.oneCell']; done)); intro w2_ b2_ h2_; have A_2 : Blk w2_ (qb1) 33 #[.int .i64 A, .int .i64 B] := b2_; have B_2 : Blk w2_ (qb2) 33 #[.int .i64 0, .int .i64 0] := (B_1).put h2_ (Ne.symm ne_A_B); have S_2 := pp (S_1) h2_ ge_A; clear A_1 B_1 S_1; clear h2_ b2_)
    | ((with_reducible refine store_sub (T := 33) (x := .tmp 8) (y := .tmp 12) (o := 0) (cs' := #[.int .i64 C, .int .i64 D]) (vs := #[.int .i64 C, .int .i64 D]) (show Blk _ (qb2) 33 #[.int .i64 0, .int .i64 0] from (B_2)) ?_ ?_ ?_ ?_ ?_ ?_ ?_); (focus rfl); (focus rfl); (focus rfl); (focus exact Nat.le_of_ble_eq_true rfl); (focus exact frac_size); (focus (simp [Value.oneCell']; done)); intro w3_ b3_ h3_; have A_3 : Blk w3_ (qb1) 33 #[.int .i64 A, .int .i64 B] := (A_2).put h3_ ne_A_B; have B_3 : Blk w3_ (qb2) 33 #[.int .i64 C, .int .i64 D] := b3_; have S_3 := pp (S_2) h3_ ge_B; clear A_2 B_2 S_2; have Ac0 := A_3.cellAt 0 rfl; have Ac1 := A_3.cellAt 1 rfl; have Al := A_3.lt; have Bc0 := B_3.cellAt 0 rfl; have Bc1 := B_3.cellAt 1 rfl; have Bl := B_3.lt; clear h3_ b3_)
    | (go_at_call 82; (with_reducible refine (HC1.out _).mono ?_); rintro e w4_ ⟨rfl, h4_⟩; have A_4 := A_3.past h4_; have B_4 := B_3.past h4_; have S_4 := pt S_3 h4_; clear A_3 B_3 S_3 Ac0 Ac1 Al Bc0 Bc1 Bl h4_; have Ac0 := A_4.cellAt 0 rfl; have Ac1 := A_4.cellAt 1 rfl; have Al := A_4.lt; have Bc0 := B_4.cellAt 0 rfl; have Bc1 := B_4.cellAt 1 rfl; have Bl := B_4.lt)
    | (go_at_call 82; (with_reducible refine (HC2.out _).mono ?_); rintro e w5_ ⟨rfl, h5_⟩; have S_5 := pt S_4 h5_; clear S_4))
  all_goals
    go_ret
    exact ⟨ret_bool (by first | (simp [*]; done) | (simp; omega)), by first | exact S_5 | exact S_4⟩

end Go.Proofs.YtnhcamokcggnkaaGreatDoor
end

section
namespace Go.Proofs.YtnhcamokcggnkaaGreatDoor
open Go.RowKit
attribute [local go_sem ↓] Go.wp_at_zero Go.wp_at_succ

/-- The error of two units and a percentage, from the errors of the units. -/
def bothE (a b p : Int) : Int := firstV [a, b, unlessV (withinB p 0 100) 2]
theorem bothE_zero {a b p : Int} : bothE a b p = 0 ↔ a = 0 ∧ b = 0 ∧ withinB p 0 100 = true := by
  unfold bothE
  rw [firstV_zero, firstV_zero, firstV_zero, unless_ne (by decide)]
  simp [firstV]

set_option maxHeartbeats 2000000 in
set_option maxRecDepth 100000 in
theorem bothErr_any (k t s : Int) (r : Bool) (k2 t2 s2 : Int) (r2 : Bool) (n : Int) (l u o : Int) (z : Bool) (l2 u2 o2 : Int) (z2 : Bool) (m p : Int) (w : World) :
    Calls Tryz.prog 76 #[.agg #[.int .i64 k, .int .i64 t, .int .i64 s, .bool r, .int .i64 k2, .int .i64 t2, .int .i64 s2, .bool r2, .int .i64 n], .agg #[.int .i64 l, .int .i64 u, .int .i64 o, .bool z, .int .i64 l2, .int .i64 u2, .int .i64 o2, .bool z2, .int .i64 m], .int .i64 p] w fun e w' =>
      e = .returned (.int .i64 (bothE (unitE k t s k2 t2 s2 n) (unitE l u o l2 u2 o2 m) p)) ∧ Below w.heap.size w w' := by
  have H1 := Lib.hid (checkUnit_any k t s r k2 t2 s2 r2 n)
  have H2 := Lib.hid (checkUnit_any l u o z l2 u2 o2 z2 m)
  have HV := Lib.hid (show firstV [unitE k t s k2 t2 s2 n, unitE l u o l2 u2 o2 m, unlessV (withinB p 0 100) 2] = bothE (unitE k t s k2 t2 s2 n) (unitE l u o l2 u2 o2 m) p from rfl)
  generalize bothE (unitE k t s k2 t2 s2 n) (unitE l u o l2 u2 o2 m) p = E at *
  generalize unitE k t s k2 t2 s2 n = a at *
  generalize unitE l u o l2 u2 o2 m = b at *
  go_enter Tryz.func76, Tryz.ntmps76
  go_wp2
  refine region_below 7 follows_mixed (by kernel_rfl) ?_
  intro C hC
  simp only [List.take_succ_cons, List.take_zero, List.drop_succ_cons, List.drop_zero]
  repeat (first
    | ((with_reducible refine quiet_plain rfl (fun K hK => ?_)); (focus (apply quiet_val; (focus (intro w' hw; obtain ⟨hcq, hfq⟩ := bcell ((hC.out _).1 hw); go_simp; (first | done | rfl | (with_reducible exact call_below hC hw (H1.out _)) | (with_reducible exact call_below hC hw (H2.out _)) | (with_reducible exact call_same hw (within_any _ _ _ _)) | (with_reducible exact call_same hw (unless_any _ _ _))))); (simp only [Act.put, List.setIfInBounds_toArray, List.set_cons_succ, List.set_cons_zero]); (with_reducible refine hK _ ?_); clear hK K)))
    | ((with_reducible refine quiet_skip ?_ ?_); (focus (first | (simp [Region.wanted, yielded]; done) | (simp [Region.wanted, yielded, undef]; done))); simp only [Act.put, List.setIfInBounds_toArray, List.set_cons_succ, List.set_cons_zero])
    | ((with_reducible refine quiet_go ?_ (fun K hK => ?_)); (focus (first | (simp [Region.wanted, yielded]; done) | (simp [Region.wanted, yielded, undef]; done))); (focus (apply quiet_val; (focus (intro w' hw; obtain ⟨hcq, hfq⟩ := bcell ((hC.out _).1 hw); go_simp; (first | done | rfl | (with_reducible exact call_below hC hw (H1.out _)) | (with_reducible exact call_below hC hw (H2.out _)) | (with_reducible exact call_same hw (within_any _ _ _ _)) | (with_reducible exact call_same hw (unless_any _ _ _))))); (simp only [Act.put, List.setIfInBounds_toArray, List.set_cons_succ, List.set_cons_zero]); (with_reducible refine hK _ ?_); clear hK K))))
  refine wpQuiet_nil ?_
  intro w1 hb1
  replace hb1 := (hC.out _).1 hb1
  clear hC C
  obtain ⟨hc1, hf1⟩ := bcell hb1
  go_wp2_with (go_at_call 48; refine (gfirst3 _ _ _ _ _ _ (by first | (go_simp; done) | (go_simp; rfl)) (by first | (go_simp; done) | (go_simp; rfl)) (by first | (go_simp; done) | (go_simp; rfl)) _ HV.out).mono ?_; rintro e w' ⟨rfl, rfl⟩)
  go_ret
  exact ⟨rfl, pa (pt (pa (pa pr)) hb1)⟩

theorem refPercentErr_any (p : Int) (w : World) :
    Calls Tryz.prog 29 #[.int .i64 p] w fun e w' => e = .returned (.int .i64 (unlessV (withinB p 0 100) 2)) ∧ w = w' := by
  have H := Lib.hid (refWithin_any p 0 100)
  cases h : withinB p 0 100
  all_goals
    rw [h] at H
    go_enter Tryz.func29, Tryz.ntmps29
    go_wp2_with (go_at_call 33; (with_reducible refine (H.out _).mono ?_); rintro e w' ⟨rfl, rfl⟩)
    go_ret
    exact ⟨by simp [unlessV], rfl⟩

set_option maxHeartbeats 2000000 in
set_option maxRecDepth 100000 in
theorem MayRun_bad (k t s : Int) (r : Bool) (k2 t2 s2 : Int) (r2 : Bool) (n : Int) (l u o : Int) (z : Bool) (l2 u2 o2 : Int) (z2 : Bool) (m p : Int) (he : bothE (unitE k t s k2 t2 s2 n) (unitE l u o l2 u2 o2 m) p ≠ 0) (w : World) :
    Calls Tryz.prog 27 #[.agg #[.int .i64 k, .int .i64 t, .int .i64 s, .bool r, .int .i64 k2, .int .i64 t2, .int .i64 s2, .bool r2, .int .i64 n], .agg #[.int .i64 l, .int .i64 u, .int .i64 o, .bool z, .int .i64 l2, .int .i64 u2, .int .i64 o2, .bool z2, .int .i64 m], .int .i64 p] w fun e w' =>
      e = .returned (.tuple #[.bool false, .int .i64 (bothE (unitE k t s k2 t2 s2 n) (unitE l u o l2 u2 o2 m) p)]) ∧ Below w.heap.size w w' := by
  have HB := Lib.hid (bothErr_any k t s r k2 t2 s2 r2 n l u o z l2 u2 o2 z2 m p)
  have h0 : (bothE (unitE k t s k2 t2 s2 n) (unitE l u o l2 u2 o2 m) p == 0) = false := by simpa using he
  have h1 : (bothE (unitE k t s k2 t2 s2 n) (unitE l u o l2 u2 o2 m) p != 0) = true := by simpa using he
  generalize bothE (unitE k t s k2 t2 s2 n) (unitE l u o l2 u2 o2 m) p = E at *
  clear he
  go_enter Tryz.func27, Tryz.ntmps27
  go_wp2_with (go_at_call 76; (with_reducible refine (HB.out _).mono ?_); rintro e w1 ⟨rfl, hb1⟩)
  go_ret2
  exact ⟨rfl, pt (pa (pa pr)) hb1⟩

set_option maxHeartbeats 4000000 in
set_option maxRecDepth 100000 in
theorem MayRun_ok (k t s : Int) (r : Bool) (k2 t2 s2 : Int) (r2 : Bool) (n : Int) (l u o : Int) (z : Bool) (l2 u2 o2 : Int) (z2 : Bool) (m p : Int) (e1 : unitE k t s k2 t2 s2 n = 0) (e2 : unitE l u o l2 u2 o2 m = 0) (hp : withinB p 0 100 = true) (w : World) (hT : TwIn w) (hP : PatIn w) :
    Calls Tryz.prog 27 #[.agg #[.int .i64 k, .int .i64 t, .int .i64 s, .bool r, .int .i64 k2, .int .i64 t2, .int .i64 s2, .bool r2, .int .i64 n], .agg #[.int .i64 l, .int .i64 u, .int .i64 o, .bool z, .int .i64 l2, .int .i64 u2, .int .i64 o2, .bool z2, .int .i64 m], .int .i64 p] w fun e w' =>
      e = .returned (.tuple #[.bool (((whV k s r - whV k2 s2 r2) % 12) == ((whV l o z - whV l2 o2 z2) % 12) && closeV (ratN (sqW k t) (sqW k2 t2)) (ratD (sqW k t) (sqW k2 t2)) (ratN (sqW l u) (sqW l2 u2)) (ratD (sqW l u) (sqW l2 u2)) p), .int .i64 0]) ∧ Below w.heap.size w w' := by
  have HB := bothErr_any k t s r k2 t2 s2 r2 n l u o z l2 u2 o2 z2 m p
  rw [bothE_zero.2 ⟨e1, e2, hp⟩] at HB
  replace HB := Lib.hid HB
  obtain ⟨u1, u2', _, _⟩ := unitE_ok r r2 e1
  obtain ⟨u3, u4, _, _⟩ := unitE_ok z z2 e2
  have hp' : 0 ≤ p ∧ p ≤ 100 := by simpa [withinB] using hp
  have HK1 := Lib.hid (clock_any k t s r k2 t2 s2 r2 n u1 u2')
  have HK2 := Lib.hid (clock_any l u o z l2 u2 o2 z2 m u3 u4)
  have HA := Lib.hid (areClose_any k t s r k2 t2 s2 r2 n l u o z l2 u2 o2 z2 m p u1 u2' u3 u4 hp')
  have HT := Lib.hid (fun w' (h : Below w.heap.size w w') => hT.below h)
  have HP := Lib.hid (fun w' (h : Below w.heap.size w w') => hP.below h)
  clear e1 e2 u1 u2' u3 u4 hp hp' hT hP
  generalize closeV (ratN (sqW k t) (sqW k2 t2)) (ratD (sqW k t) (sqW k2 t2)) (ratN (sqW l u) (sqW l2 u2)) (ratD (sqW l u) (sqW l2 u2)) p = X at *
  generalize ((whV k s r - whV k2 s2 r2) % 12) = c1 at *
  generalize ((whV l o z - whV l2 o2 z2) % 12) = c2 at *
  cases hq : (c1 == c2)
  all_goals
    go_enter Tryz.func27, Tryz.ntmps27
    go_wp2_with (go_at_call 76; (with_reducible refine (HB.out _).mono ?_); rintro e w1 ⟨rfl, hb1⟩)
    have S1 := pt (pa (o := .cells #[.int .i64 k, .int .i64 t, .int .i64 s, .bool r, .int .i64 k2, .int .i64 t2, .int .i64 s2, .bool r2, .int .i64 n] 25) pr |> pa (o := .cells #[.int .i64 l, .int .i64 u, .int .i64 o, .bool z, .int .i64 l2, .int .i64 u2, .int .i64 o2, .bool z2, .int .i64 m] 25)) hb1
    have A_1 : Blk w1 w.heap.size 25 #[.int .i64 k, .int .i64 t, .int .i64 s, .bool r, .int .i64 k2, .int .i64 t2, .int .i64 s2, .bool r2, .int .i64 n] := (Blk.newAt (by simp)).alloc.past hb1
    have B_1 : Blk w1 (w.heap.size + 1) 25 #[.int .i64 l, .int .i64 u, .int .i64 o, .bool z, .int .i64 l2, .int .i64 u2, .int .i64 o2, .bool z2, .int .i64 m] := (Blk.newAt (by simp)).past hb1
    clear hb1
    obtain ⟨v, rfl⟩ : ∃ v, v = w1 := ⟨_, rfl⟩
    have Ac0 := A_1.cellAt 0 rfl
    have Ac1 := A_1.cellAt 1 rfl
    have Ac2 := A_1.cellAt 2 rfl
    have Ac3 := A_1.cellAt 3 rfl
    have Ac4 := A_1.cellAt 4 rfl
    have Ac5 := A_1.cellAt 5 rfl
    have Ac6 := A_1.cellAt 6 rfl
    have Ac7 := A_1.cellAt 7 rfl
    have Ac8 := A_1.cellAt 8 rfl
    have Al := A_1.lt
    have Bc0 := B_1.cellAt 0 rfl
    have Bc1 := B_1.cellAt 1 rfl
    have Bc2 := B_1.cellAt 2 rfl
    have Bc3 := B_1.cellAt 3 rfl
    have Bc4 := B_1.cellAt 4 rfl
    have Bc5 := B_1.cellAt 5 rfl
    have Bc6 := B_1.cellAt 6 rfl
    have Bc7 := B_1.cellAt 7 rfl
    have Bc8 := B_1.cellAt 8 rfl
    have Bl := B_1.lt
    refine region_below 11 follows_mixed (by kernel_rfl) ?_
    intro C hC
    simp only [List.take_succ_cons, List.take_zero, List.drop_succ_cons, List.drop_zero]
    repeat (first
      | ((with_reducible refine quiet_plain rfl (fun K hK => ?_)); (focus (apply quiet_val; (focus (intro w' hw; obtain ⟨hcq, hfq⟩ := bcell ((hC.out _).1 hw); go_simp; (first | done | rfl | (with_reducible exact call_below hC hw (HK1.out _ (HT.out _ (pt S1 ((hC.out _).1 hw))) (HP.out _ (pt S1 ((hC.out _).1 hw))))) | (with_reducible exact call_below hC hw (HK2.out _ (HT.out _ (pt S1 ((hC.out _).1 hw))) (HP.out _ (pt S1 ((hC.out _).1 hw))))) | (with_reducible exact call_below hC hw (HA.out _ (HP.out _ (pt S1 ((hC.out _).1 hw)))))))); (simp only [Act.put, List.setIfInBounds_toArray, List.set_cons_succ, List.set_cons_zero]); (with_reducible refine hK _ ?_); clear hK K)))
      | ((with_reducible refine quiet_skip ?_ ?_); (focus (first | (simp [Region.wanted, yielded]; done) | (simp [Region.wanted, yielded, undef]; done))); simp only [Act.put, List.setIfInBounds_toArray, List.set_cons_succ, List.set_cons_zero])
      | ((with_reducible refine quiet_go ?_ (fun K hK => ?_)); (focus (first | (simp [Region.wanted, yielded]; done) | (simp [Region.wanted, yielded, undef]; done))); (focus (apply quiet_val; (focus (intro w' hw; obtain ⟨hcq, hfq⟩ := bcell ((hC.out _).1 hw); go_simp; (first | done | rfl | (with_reducible exact call_below hC hw (HK1.out _ (HT.out _ (pt S1 ((hC.out _).1 hw))) (HP.out _ (pt S1 ((hC.out _).1 hw))))) | (with_reducible exact call_below hC hw (HK2.out _ (HT.out _ (pt S1 ((hC.out _).1 hw))) (HP.out _ (pt S1 ((hC.out _).1 hw))))) | (with_reducible exact call_below hC hw (HA.out _ (HP.out _ (pt S1 ((hC.out _).1 hw)))))))); (simp only [Act.put, List.setIfInBounds_toArray, List.set_cons_succ, List.set_cons_zero]); (with_reducible refine hK _ ?_); clear hK K))))
    refine wpQuiet_nil ?_
    intro w1 hb1
    replace hb1 := (hC.out _).1 hb1
    clear hC C
    obtain ⟨hc1, hf1⟩ := bcell hb1
    go_wp2
    go_ret2
    exact ⟨rfl, pt S1 hb1⟩

end Go.Proofs.YtnhcamokcggnkaaGreatDoor
end

section
namespace Go.Proofs.YtnhcamokcggnkaaGreatDoor
open Go.RowKit
attribute [local go_sem ↓] Go.wp_at_zero Go.wp_at_succ

set_option maxHeartbeats 4000000 in
set_option maxRecDepth 100000 in
theorem refMayRun_any (k t s : Int) (r : Bool) (k2 t2 s2 : Int) (r2 : Bool) (n : Int) (l u o : Int) (z : Bool) (l2 u2 o2 : Int) (z2 : Bool) (m p : Int) (e1 : unitE k t s k2 t2 s2 n = 0) (e2 : unitE l u o l2 u2 o2 m = 0) (hp : withinB p 0 100 = true) (w : World) :
    Calls Tryz.prog 30 #[.agg #[.int .i64 k, .int .i64 t, .int .i64 s, .bool r, .int .i64 k2, .int .i64 t2, .int .i64 s2, .bool r2, .int .i64 n], .agg #[.int .i64 l, .int .i64 u, .int .i64 o, .bool z, .int .i64 l2, .int .i64 u2, .int .i64 o2, .bool z2, .int .i64 m], .int .i64 p] w fun e w' =>
      e = .returned (.bool (((whV k s r - whV k2 s2 r2) % 12) == ((whV l o z - whV l2 o2 z2) % 12) && closeV (ratN (sqW k t) (sqW k2 t2)) (ratD (sqW k t) (sqW k2 t2)) (ratN (sqW l u) (sqW l2 u2)) (ratD (sqW l u) (sqW l2 u2)) p)) ∧ Below w.heap.size w w' := by
  obtain ⟨u1, u2', _, _⟩ := unitE_ok r r2 e1
  obtain ⟨u3, u4, _, _⟩ := unitE_ok z z2 e2
  have hp' : 0 ≤ p ∧ p ≤ 100 := by simpa [withinB] using hp
  have HK1 := Lib.hid (refClock_any k t s r k2 t2 s2 r2 n u1 u2')
  have HK2 := Lib.hid (refClock_any l u o z l2 u2 o2 z2 m u3 u4)
  have HA := Lib.hid (refIsNear_any k t s r k2 t2 s2 r2 n l u o z l2 u2 o2 z2 m p u1 u2' u3 u4 hp')
  clear e1 e2 u1 u2' u3 u4 hp hp'
  generalize closeV (ratN (sqW k t) (sqW k2 t2)) (ratD (sqW k t) (sqW k2 t2)) (ratN (sqW l u) (sqW l2 u2)) (ratD (sqW l u) (sqW l2 u2)) p = X at *
  generalize ((whV k s r - whV k2 s2 r2) % 12) = c1 at *
  generalize ((whV l o z - whV l2 o2 z2) % 12) = c2 at *
  cases hq : (c1 == c2)
  all_goals
    go_enter Tryz.func30, Tryz.ntmps30
    go_wp2
    refine region_below 11 follows_mixed (by kernel_rfl) ?_
    intro C hC
    simp only [List.take_succ_cons, List.take_zero, List.drop_succ_cons, List.drop_zero]
    repeat (first
      | ((with_reducible refine quiet_plain rfl (fun K hK => ?_)); (focus (apply quiet_val; (focus (intro w' hw; obtain ⟨hcq, hfq⟩ := bcell ((hC.out _).1 hw); go_simp; (first | done | rfl | (with_reducible exact call_below hC hw (HK1.out _)) | (with_reducible exact call_below hC hw (HK2.out _)) | (with_reducible exact call_below hC hw (HA.out _))))); (simp only [Act.put, List.setIfInBounds_toArray, List.set_cons_succ, List.set_cons_zero]); (with_reducible refine hK _ ?_); clear hK K)))
      | ((with_reducible refine quiet_skip ?_ ?_); (focus (first | (simp [Region.wanted, yielded]; done) | (simp [Region.wanted, yielded, undef]; done))); simp only [Act.put, List.setIfInBounds_toArray, List.set_cons_succ, List.set_cons_zero])
      | ((with_reducible refine quiet_go ?_ (fun K hK => ?_)); (focus (first | (simp [Region.wanted, yielded]; done) | (simp [Region.wanted, yielded, undef]; done))); (focus (apply quiet_val; (focus (intro w' hw; obtain ⟨hcq, hfq⟩ := bcell ((hC.out _).1 hw); go_simp; (first | done | rfl | (with_reducible exact call_below hC hw (HK1.out _)) | (with_reducible exact call_below hC hw (HK2.out _)) | (with_reducible exact call_below hC hw (HA.out _))))); (simp only [Act.put, List.setIfInBounds_toArray, List.set_cons_succ, List.set_cons_zero]); (with_reducible refine hK _ ?_); clear hK K))))
    refine wpQuiet_nil ?_
    intro w1 hb1
    replace hb1 := (hC.out _).1 hb1
    clear hC C
    obtain ⟨hc1, hf1⟩ := bcell hb1
    go_wp2
    go_ret
    exact ⟨rfl, pt (pa (pa pr)) hb1⟩

end Go.Proofs.YtnhcamokcggnkaaGreatDoor
end
