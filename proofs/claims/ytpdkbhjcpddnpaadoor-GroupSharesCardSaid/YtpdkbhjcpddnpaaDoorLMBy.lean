/- Contracts: the bus by a current; equal products. -/
import Derived.Test.YtpdkbhjcpddnpaaDoorLLBus
import Derived.Test.YtpdkbhjcpddnpaaDoorShelfM
namespace Go.Proofs.YtpdkbhjcpddnpaaDoor
open Go.RowKit
attribute [local go_sem ↓] Go.wp_at_zero Go.wp_at_succ

theorem prod_bdg {v a K M : Int} (h : -K ≤ v ∧ v ≤ K) (g : 0 ≤ a) (hM : a ≤ M) (hK : 0 ≤ K) : -(K * M) ≤ v * a ∧ v * a ≤ K * M := by
  have h1 := Int.mul_le_mul h.2 hM g hK
  have h2 := Int.mul_le_mul (show -v ≤ K by omega) hM g hK
  rw [Int.neg_mul] at h2
  omega
theorem by_bds {s : Src} (hs : SrcOk s) {v n d : Int} (hv : -1000000 ≤ v ∧ v ≤ 1000000) (hf : FrOk n d) :
    (1 ≤ busD s d ∧ busD s d ≤ 100000000000) ∧ (-100000000000000000 ≤ v * busD s d ∧ v * busD s d ≤ 100000000000000000) ∧ (-100000000000 ≤ s.n * n ∧ s.n * n ≤ 100000000000) ∧ (-200000000000000000 ≤ busN v s n d ∧ busN v s n d ≤ 200000000000000000) := by
  obtain ⟨_, _, h3, h4⟩ := hs
  obtain ⟨_, f1, f2, f3⟩ := hf
  have d1 := Int.mul_le_mul (show (1 : Int) ≤ s.d by omega) (show (1 : Int) ≤ d by omega) (by decide) (by omega)
  have d2 := Int.mul_le_mul h4.2 f3 (by omega) (by decide)
  have d3 := prod_bdg (K := 1000000) hv (show 0 ≤ s.d * d by omega) d2 (by decide)
  have d4 := prod_bdg (K := 1000000000) f1 (show 0 ≤ s.n by omega) h3.2 (by decide)
  rw [Int.mul_comm n s.n] at d4
  unfold busN busD
  refine ⟨⟨by omega, by omega⟩, ⟨by omega, by omega⟩, ⟨by omega, by omega⟩, by omega, by omega⟩
theorem lowest_bus {s : Src} (hs : SrcOk s) {v n d : Int} (hv : -1000000 ≤ v ∧ v ≤ 1000000) (hf : FrOk n d) (w : World) :
    Calls Tryd.prog 24 #[.int .i64 (busN v s n d), .int .i64 (busD s d)] w fun e w' => e = .returned (.agg #[.int .i64 (busF v s n d).num, .int .i64 ((busF v s n d).den : Int)]) ∧ Below w.heap.size w w' := by
  obtain ⟨b1, _, _, b4⟩ := by_bds hs hv hf
  have q := lowest_any (busN v s n d) (busD s d) (by unfold Sm; omega) (by unfold Sm; omega) (by omega) w
  have l := lo_rat (busN v s n d) (show 0 < busD s d by omega)
  rw [show (busN v s n d).tdiv (gcdI (busN v s n d) (busD s d)) = (busF v s n d).num from l.1, show (busD s d).tdiv (gcdI (busN v s n d) (busD s d)) = ((busF v s n d).den : Int) from l.2] at q
  exact q
theorem frac_size0 : (Tryd.prog.info? 40).map (·.size) = some 2 := by kernel_rfl

set_option maxHeartbeats 4000000 in
set_option maxRecDepth 100000 in
theorem busBy_any (sp sq sn sd v n d : Int) (hs : SrcOk ⟨sp, sq, sn, sd⟩) (hv : -1000000 ≤ v ∧ v ≤ 1000000) (hf : FrOk n d) (w : World) :
    Calls Tryd.prog 29 #[.agg #[.int .i64 sp, .int .i64 sq, .int .i64 sn, .int .i64 sd], .int .i64 v, .agg #[.int .i64 n, .int .i64 d]] w fun e w' => e = .returned (.agg #[.int .i64 (busF v ⟨sp, sq, sn, sd⟩ n d).num, .int .i64 ((busF v ⟨sp, sq, sn, sd⟩ n d).den : Int)]) ∧ Below w.heap.size w w' := by
  have HLo := Lib.hid (lowest_bus hs hv hf)
  obtain ⟨b1, b2, b3, b4⟩ := by_bds hs hv hf
  obtain ⟨e1, e1'⟩ := wrap_eq (show sd * d = busD ⟨sp, sq, sn, sd⟩ d from rfl) (by omega)
  obtain ⟨e4, e4'⟩ := wrap_eq (show v * busD ⟨sp, sq, sn, sd⟩ d - sn * n = busN v ⟨sp, sq, sn, sd⟩ n d from rfl) (by omega)
  have b3 : -100000000000 ≤ sn * n ∧ sn * n ≤ 100000000000 := b3
  generalize (busF v ⟨sp, sq, sn, sd⟩ n d).num = fn at *
  generalize ((busF v ⟨sp, sq, sn, sd⟩ n d).den : Int) = fd at *
  generalize busD ⟨sp, sq, sn, sd⟩ d = bd at *
  generalize busN v ⟨sp, sq, sn, sd⟩ n d = bn at *
  obtain ⟨p, hp⟩ : ∃ p, v * bd = p := ⟨_, rfl⟩
  obtain ⟨q, hq⟩ : ∃ q, sn * n = q := ⟨_, rfl⟩
  rw [hp] at b2 e4 e4'
  rw [hq] at b3 e4 e4'
  obtain ⟨e2, e2'⟩ := wrap_eq hp (by omega)
  obtain ⟨e3, e3'⟩ := wrap_eq hq (by omega)
  clear b1 b2 b3 b4 hp hq hs hv hf
  go_enter Tryd.func29, Tryd.ntmps29
  go_wp2_with (first
    | (go_at_call 24; (with_reducible refine (HLo.out _).mono ?_); rintro e w1 ⟨rfl, hb1⟩; have R1 := (Blk.newAt (w := (w.alloc (Obj.cells #[.int .i64 sp, .int .i64 sq, .int .i64 sn, .int .i64 sd] 42)).alloc (Obj.cells #[.int .i64 n, .int .i64 d] 40)) (t := 40) (cs := #[.int .i64 0, .int .i64 0]) (n := w.heap.size + 1 + 1) (by simp)).past hb1; have S1 := pt (pa (pa (pa (pr (w := w))))) hb1; clear hb1)
    | ((with_reducible refine store_blk (T := 40) (x := .tmp 6) (y := .tmp 25) (vs := #[.int .i64 fn, .int .i64 fd]) R1 ?_ ?_ ?_ ?_ ?_ ?_); (focus rfl); (focus exact frac_size0); (focus (simp [Value.oneCell']; done)); (focus rfl); (focus rfl); intro WF RF PF))
  have g0 := RF.cellAt 0 rfl
  have g1 := RF.cellAt 1 rfl
  exact bodyPost_ret (v := .agg #[.int .i64 fn, .int .i64 fd]) (by simp [results, Tryd.results29, go_sem, g0, g1]) rfl ⟨rfl, pp S1 PF (Nat.le_add_right _ 2)⟩

/-! Equal products. -/
def sgP (x y : Int) : Int := if x = 0 ∨ y = 0 then 0 else if (decide (x < 0) != decide (y < 0)) = true then -1 else 1
theorem sgP_sign (x y : Int) : sgP x y = (x * y).sign := by
  unfold sgP
  rw [Int.sign_mul]
  by_cases hx : x = 0
  · subst hx; simp
  · by_cases hy : y = 0
    · subst hy; simp
    · rw [if_neg (by omega)]
      rcases Int.lt_or_lt_of_ne hx with h1 | h1 <;> rcases Int.lt_or_lt_of_ne hy with h2 | h2
      · rw [Int.sign_eq_neg_one_of_neg h1, Int.sign_eq_neg_one_of_neg h2]; simp [h1, h2]
      · rw [Int.sign_eq_neg_one_of_neg h1, Int.sign_eq_one_of_pos h2]; simp [h1, show ¬ y < 0 by omega]
      · rw [Int.sign_eq_one_of_pos h1, Int.sign_eq_neg_one_of_neg h2]; simp [h2, show ¬ x < 0 by omega]
      · rw [Int.sign_eq_one_of_pos h1, Int.sign_eq_one_of_pos h2]; simp [show ¬ x < 0 by omega, show ¬ y < 0 by omega]
theorem prod_eq (a b c d : Int) : decide (a * b = c * d) = (decide (sgP a b = sgP c d) && (decide (a.natAbs * b.natAbs / 18446744073709551616 = c.natAbs * d.natAbs / 18446744073709551616) && decide (a.natAbs * b.natAbs % 18446744073709551616 = c.natAbs * d.natAbs % 18446744073709551616))) := by
  rw [sgP_sign, sgP_sign, ← Int.natAbs_mul, ← Int.natAbs_mul]
  generalize a * b = x
  generalize c * d = y
  rw [Bool.eq_iff_iff, Bool.and_eq_true, Bool.and_eq_true]
  simp only [decide_eq_true_eq]
  constructor
  · rintro rfl; exact ⟨rfl, rfl, rfl⟩
  · rintro ⟨h1, h2, h3⟩
    have h4 : x.natAbs = y.natAbs := by
      rw [← Nat.div_add_mod x.natAbs 18446744073709551616, h2, h3, Nat.div_add_mod]
    rw [← Int.sign_mul_natAbs x, ← Int.sign_mul_natAbs y, h1, h4]

set_option maxHeartbeats 1000000 in
theorem eqSign_any (x y : Int) (w : World) :
    Calls Tryd.prog 51 #[.int .i64 x, .int .i64 y] w fun e w' => e = .returned (.int .i64 (sgP x y)) ∧ w = w' := by
  by_cases hx : x = 0
  · subst hx
    rw [show sgP 0 y = 0 by simp [sgP]]
    go_enter Tryd.func51, Tryd.ntmps51
    go_wp2
    go_ret
    exact ⟨rfl, rfl⟩
  · have hx1 : (x == 0) = false := beq_eq_false_iff_ne.2 hx
    by_cases hy : y = 0
    · subst hy
      rw [show sgP x 0 = 0 by simp [sgP]]
      go_enter Tryd.func51, Tryd.ntmps51
      go_wp2
      go_ret
      exact ⟨rfl, rfl⟩
    · have hy1 : (y == 0) = false := beq_eq_false_iff_ne.2 hy
      have hv : sgP x y = if (decide (x < 0) != decide (y < 0)) = true then -1 else 1 := by unfold sgP; rw [if_neg (by omega)]
      rw [hv]
      clear hv
      by_cases h1 : x < 0 <;> by_cases h2 : y < 0
      all_goals
        have d1 := h1
        have d2 := h2
        simp only [h1, h2, decide_true, decide_false]
        go_enter Tryd.func51, Tryd.ntmps51
        go_wp2
        go_ret
        exact ⟨rfl, rfl⟩

set_option maxHeartbeats 1000000 in
theorem eqSize_any (n : Int) (hn : Sm 9223372036854775807 n) (w : World) :
    Calls Tryd.prog 52 #[.int .i64 n] w fun e w' => e = .returned (.int .u64 (n.natAbs : Int)) ∧ w = w' := by
  unfold Sm at hn
  have e1 : IntKind.i64.wrap (-n) = -n := IntWalk.i64_in _ (by omega)
  go_enter Tryd.func52, Tryd.ntmps52
  go_wp2
  all_goals
    go_ret
    refine ⟨ret_int ?_, rfl⟩
    first | omega | (split <;> omega) | (simp only [IntKind.wrap] <;> omega)

set_option maxHeartbeats 4000000 in
set_option maxRecDepth 100000 in
theorem equalProducts_any (a b c d : Int) (ha : Sm 9223372036854775807 a) (hb : Sm 9223372036854775807 b) (hc : Sm 9223372036854775807 c) (hd : Sm 9223372036854775807 d) (w : World) :
    Calls Tryd.prog 30 #[.int .i64 a, .int .i64 b, .int .i64 c, .int .i64 d] w fun e w' => e = .returned (.bool (decide (a * b = c * d))) ∧ w = w' := by
  rw [prod_eq]
  have HA := Lib.hid (fun w => eqSize_any a ha w)
  have HB := Lib.hid (fun w => eqSize_any b hb w)
  have HC := Lib.hid (fun w => eqSize_any c hc w)
  have HD := Lib.hid (fun w => eqSize_any d hd w)
  have hm1 := fun w => Tryd.bits_Mul64 a.natAbs b.natAbs (by unfold Sm at ha; omega) (by unfold Sm at hb; omega) w
  have hm2 := fun w => Tryd.bits_Mul64 c.natAbs d.natAbs (by unfold Sm at hc; omega) (by unfold Sm at hd; omega) w
  have HM1 := Lib.hid hm1
  have HM2 := Lib.hid hm2
  have HS1 := Lib.hid (eqSign_any a b)
  have HS2 := Lib.hid (eqSign_any c d)
  clear ha hb hc hd hm1 hm2
  generalize sgP a b = s1 at *
  generalize sgP c d = s2 at *
  generalize a.natAbs * b.natAbs / 18446744073709551616 = h1 at *
  generalize a.natAbs * b.natAbs % 18446744073709551616 = l1 at *
  generalize c.natAbs * d.natAbs / 18446744073709551616 = h2 at *
  generalize c.natAbs * d.natAbs % 18446744073709551616 = l2 at *
  by_cases q1 : s1 = s2
  · subst q1
    by_cases q2 : h1 = h2
    · subst q2
      by_cases q3 : l1 = l2
      · subst q3
        go_enter Tryd.func30, Tryd.ntmps30
        go_wp2_with (first
          | (go_at_call 52; (first | (with_reducible refine (HA.out _).mono ?_) | (with_reducible refine (HB.out _).mono ?_) | (with_reducible refine (HC.out _).mono ?_) | (with_reducible refine (HD.out _).mono ?_)); rintro e w' ⟨rfl, rfl⟩)
          | (go_at_call 51; (first | (with_reducible refine (HS1.out _).mono ?_) | (with_reducible refine (HS2.out _).mono ?_)); rintro e w' ⟨rfl, rfl⟩)
          | (go_at_call 53; (first | (with_reducible refine (HM1.out _).mono ?_) | (with_reducible refine (HM2.out _).mono ?_)); rintro e w' ⟨rfl, rfl⟩))
        go_ret
        exact ⟨ret_bool (by simp), rfl⟩
      · have q3b : ((l1 : Int) == (l2 : Int)) = false := beq_eq_false_iff_ne.2 (by omega)
        go_enter Tryd.func30, Tryd.ntmps30
        go_wp2_with (first
          | (go_at_call 52; (first | (with_reducible refine (HA.out _).mono ?_) | (with_reducible refine (HB.out _).mono ?_) | (with_reducible refine (HC.out _).mono ?_) | (with_reducible refine (HD.out _).mono ?_)); rintro e w' ⟨rfl, rfl⟩)
          | (go_at_call 51; (first | (with_reducible refine (HS1.out _).mono ?_) | (with_reducible refine (HS2.out _).mono ?_)); rintro e w' ⟨rfl, rfl⟩)
          | (go_at_call 53; (first | (with_reducible refine (HM1.out _).mono ?_) | (with_reducible refine (HM2.out _).mono ?_)); rintro e w' ⟨rfl, rfl⟩))
        go_ret
        exact ⟨ret_bool (by simp [q3]), rfl⟩
    · have q2b : ((h1 : Int) == (h2 : Int)) = false := beq_eq_false_iff_ne.2 (by omega)
      go_enter Tryd.func30, Tryd.ntmps30
      go_wp2_with (first
        | (go_at_call 52; (first | (with_reducible refine (HA.out _).mono ?_) | (with_reducible refine (HB.out _).mono ?_) | (with_reducible refine (HC.out _).mono ?_) | (with_reducible refine (HD.out _).mono ?_)); rintro e w' ⟨rfl, rfl⟩)
        | (go_at_call 51; (first | (with_reducible refine (HS1.out _).mono ?_) | (with_reducible refine (HS2.out _).mono ?_)); rintro e w' ⟨rfl, rfl⟩)
        | (go_at_call 53; (first | (with_reducible refine (HM1.out _).mono ?_) | (with_reducible refine (HM2.out _).mono ?_)); rintro e w' ⟨rfl, rfl⟩))
      go_ret
      exact ⟨ret_bool (by simp [q2]), rfl⟩
  · have q1b : (s1 == s2) = false := beq_eq_false_iff_ne.2 q1
    go_enter Tryd.func30, Tryd.ntmps30
    go_wp2_with (first
      | (go_at_call 52; (first | (with_reducible refine (HA.out _).mono ?_) | (with_reducible refine (HB.out _).mono ?_) | (with_reducible refine (HC.out _).mono ?_) | (with_reducible refine (HD.out _).mono ?_)); rintro e w' ⟨rfl, rfl⟩)
      | (go_at_call 51; (first | (with_reducible refine (HS1.out _).mono ?_) | (with_reducible refine (HS2.out _).mono ?_)); rintro e w' ⟨rfl, rfl⟩)
      | (go_at_call 53; (first | (with_reducible refine (HM1.out _).mono ?_) | (with_reducible refine (HM2.out _).mono ?_)); rintro e w' ⟨rfl, rfl⟩))
    go_ret
    exact ⟨ret_bool (by simp [q1]), rfl⟩

end Go.Proofs.YtpdkbhjcpddnpaaDoor
