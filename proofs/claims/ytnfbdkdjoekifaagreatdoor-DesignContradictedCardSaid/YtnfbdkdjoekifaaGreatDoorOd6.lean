/- Plain facts: the root of a small whole number in double precision, cut to a whole number, is not negative and small. No program is in sight. -/
import Derived.Test.YtnfbdkdjoekifaaGreatDoorRows
import GoSem.Core.Float

section
namespace Go.Proofs.YtnfbdkdjoekifaaGreatDoor
open Ieee

theorem rootFrom_lt (n : Nat) : ∀ (t r : Nat), Datum.rootFrom n t r < r + 2 ^ t
  | 0, r => by simp [Datum.rootFrom]
  | t + 1, r => by
    rw [Datum.rootFrom]
    have h := rootFrom_lt n t
    have e : 2 ^ (t + 1) = 2 ^ t + 2 ^ t := by rw [Nat.pow_succ]; omega
    simp only [Nat.one_shiftLeft]
    split
    · have := h (r + 2 ^ t); omega
    · have := h r
      have h2 : 0 < 2 ^ t := Nat.pow_pos (by decide)
      omega
theorem cut_zero_drop (n : Nat) : Toward.even.cut false n 0 = n := by
  simp [Toward.cut, Nat.mod_one]
theorem binade_is : double.binade = 4503599627370496 := by decide
theorem least_is : double.leastPlace = -1074 := by decide
theorem inf_is : double.infRung = 9218868437227405312 := by decide
theorem weight_is : double.signWeight = 9223372036854775808 := by decide
theorem log2_bd {n k : Nat} (h0 : n ≠ 0) (h : n < 2 ^ k) : n.log2 < k := (Nat.log2_lt h0).2 h

/-- What a word of a small rung stands for. -/
theorem read_bd {r : Nat} (h : r < 4661225614328463360) : ∃ (m : Nat) (j : Int), double.read r = .number false m j ∧ m < 9007199254740992 ∧ j ≤ -40 := by
  have hn : (r / double.signWeight % 2 == 1) = false := by
    rw [weight_is, Nat.div_eq_of_lt (by omega)]
    decide
  have hm : r % double.signWeight = r := by rw [weight_is]; exact Nat.mod_eq_of_lt (by omega)
  unfold Format.read
  simp only [hn, hm]
  rw [binade_is, inf_is, least_is]
  by_cases h1 : r < 4503599627370496
  · rw [if_pos h1]
    exact ⟨_, _, rfl, by omega, by decide⟩
  · rw [if_neg h1, if_pos (by omega)]
    exact ⟨_, _, rfl, by omega, by omega⟩
/-- A small whole number, exactly. -/
theorem read_nearest {s : Nat} (h0 : s ≠ 0) (h : s < 4194304) : ∃ (k : Nat) (i : Int), double.read (double.nearest false s 0) = .number false k i ∧ (4503599627370496 ≤ k ∧ k < 9007199254740992) ∧ -52 ≤ i ∧ i ≤ -31 := by
  have hl1 := Nat.log2_self_le h0
  have hl2 := @Nat.lt_log2_self s
  have hl : s.log2 < 22 := log2_bd h0 (by simpa using h)
  have hp : 2 ^ s.log2 * 2 ^ (52 - s.log2) = 4503599627370496 := by
    rw [← Nat.pow_add, show s.log2 + (52 - s.log2) = 52 by omega]
  have hp2 : 2 ^ (s.log2 + 1) * 2 ^ (52 - s.log2) = 9007199254740992 := by
    rw [← Nat.pow_add, show s.log2 + 1 + (52 - s.log2) = 53 by omega]
  have hk1 : 4503599627370496 ≤ s * 2 ^ (52 - s.log2) := by
    rw [← hp]; exact Nat.mul_le_mul_right _ hl1
  have hk2 : s * 2 ^ (52 - s.log2) < 9007199254740992 := by
    rw [← hp2]; exact Nat.mul_lt_mul_of_pos_right hl2 (Nat.pow_pos (by decide))
  have hfb : double.fractionBits = 52 := rfl
  have hlast : max ((0 : Int) + (s.log2 : Int) - (double.fractionBits : Int)) double.leastPlace = (s.log2 : Int) - 52 := by
    rw [least_is, hfb]; omega
  have hw : double.nearest false s 0 = (s.log2 + 1022) * 4503599627370496 + s * 2 ^ (52 - s.log2) := by
    unfold Format.nearest
    rw [if_neg h0]
    simp only [hlast]
    rw [show ((0 : Int) - ((s.log2 : Int) - 52)).toNat = 52 - s.log2 by omega, show ((s.log2 : Int) - 52 - 0).toNat = 0 by omega, cut_zero_drop, least_is, binade_is, inf_is, Nat.shiftLeft_eq,
      show ((s.log2 : Int) - 52 - -1074).toNat = s.log2 + 1022 by omega]
    unfold Format.word
    simp only [Bool.false_eq_true, if_false]
    exact Nat.min_eq_left (by omega)
  rw [hw]
  generalize s * 2 ^ (52 - s.log2) = k at *
  generalize s.log2 = l at *
  have hn : (((l + 1022) * 4503599627370496 + k) / double.signWeight % 2 == 1) = false := by
    rw [weight_is, Nat.div_eq_of_lt (by omega)]
    decide
  have hm : ((l + 1022) * 4503599627370496 + k) % double.signWeight = (l + 1022) * 4503599627370496 + k := by rw [weight_is]; exact Nat.mod_eq_of_lt (by omega)
  unfold Format.read
  simp only [hn, hm]
  rw [binade_is, inf_is, least_is, if_neg (by omega), if_pos (by omega)]
  exact ⟨_, _, rfl, by omega, by omega, by omega⟩
theorem root_bd {k : Nat} {i : Int} (hk : 4503599627370496 ≤ k ∧ k < 9007199254740992) (hi : -52 ≤ i ∧ i ≤ -31) : ∃ (m : Nat) (p : Int), Datum.root 54 (.number false k i) = some (.number false m p) ∧ m < 72057594037927936 ∧ -60 ≤ p ∧ p ≤ -45 := by
  have h0 : k ≠ 0 := by omega
  have hl1 : k.log2 < 53 := log2_bd h0 (by omega)
  have hl2 : 52 ≤ k.log2 := by
    have h := @Nat.lt_log2_self k
    rcases Nat.lt_or_ge k.log2 52 with h1 | h1
    · have := Nat.pow_le_pow_right (show 0 < 2 by decide) (show k.log2 + 1 ≤ 52 by omega)
      omega
    · exact h1
  have hl : k.log2 = 52 := by omega
  unfold Datum.root
  simp only [hl, h0, Bool.false_eq_true, if_false]
  have hb : ((i - ((2 * 54 - 52 : Nat) : Int)) % 2).toNat ≤ 1 := by omega
  generalize ((i - ((2 * 54 - 52 : Nat) : Int)) % 2).toNat = b at *
  have hn : k <<< (2 * 54 - 52 + b) < 2 ^ 110 := by
    rw [Nat.shiftLeft_eq]
    have h1 : 2 ^ (2 * 54 - 52 + b) ≤ 2 ^ 57 := Nat.pow_le_pow_right (by decide) (by omega)
    have h2 := Nat.mul_le_mul (show k ≤ 9007199254740991 by omega) h1
    omega
  have hlog : (k <<< (2 * 54 - 52 + b)).log2 < 110 := by
    by_cases hz : k <<< (2 * 54 - 52 + b) = 0
    · rw [hz]; decide
    · exact log2_bd hz hn
  have hr := rootFrom_lt (k <<< (2 * 54 - 52 + b)) ((k <<< (2 * 54 - 52 + b)).log2 / 2 + 1) 0
  have hp := Nat.pow_le_pow_right (show 0 < 2 by decide) (show (k <<< (2 * 54 - 52 + b)).log2 / 2 + 1 ≤ 55 by omega)
  generalize Datum.rootFrom (k <<< (2 * 54 - 52 + b)) ((k <<< (2 * 54 - 52 + b)).log2 / 2 + 1) 0 = whole at *
  refine ⟨_, _, rfl, ?_, by omega, by omega⟩
  have : ∀ c : Bool, c.toNat ≤ 1 := fun c => by cases c <;> decide
  have := this (whole * whole != k <<< (2 * 54 - 52 + b))
  omega
theorem cut_even_le {n d : Nat} (h : n < 72057594037927936) (hd : d = n.log2 - 52) (hl : 52 < n.log2) : Toward.even.cut false n d ≤ 9007199254740992 := by
  have h0 : n ≠ 0 := fun e => by rw [e] at hl; exact absurd hl (by decide)
  have h1 : n.log2 < 56 := log2_bd h0 (by omega)
  unfold Toward.cut
  simp only [Nat.one_shiftLeft, show min d (n.log2 + 2) = d by omega]
  have h2 := @Nat.lt_log2_self n
  have h3 : n / 2 ^ d < 9007199254740992 := by
    rw [Nat.div_lt_iff_lt_mul (Nat.pow_pos (by decide))]
    refine Nat.lt_of_lt_of_le h2 ?_
    rw [show (9007199254740992 : Nat) = 2 ^ 53 from rfl, ← Nat.pow_add]
    exact Nat.pow_le_pow_right (by decide) (by omega)
  have : ∀ c : Bool, c.toNat ≤ 1 := fun c => by cases c <;> decide
  have := this (decide (2 ^ d < 2 * (n % 2 ^ d)) || (2 ^ d == 2 * (n % 2 ^ d) && n / 2 ^ d % 2 == 1))
  omega
theorem write_bd {m : Nat} {p : Int} (hm : m < 72057594037927936) (hp : -60 ≤ p ∧ p ≤ -45) : double.nearest false m p < 4661225614328463360 := by
  unfold Format.nearest
  by_cases h0 : m = 0
  · rw [if_pos h0]; decide
  · rw [if_neg h0]
    have hl : m.log2 < 56 := log2_bd h0 (by omega)
    have hl2 := @Nat.lt_log2_self m
    have hfb : double.fractionBits = 52 := rfl
    have hlast : max (p + (m.log2 : Int) - (double.fractionBits : Int)) double.leastPlace = p + (m.log2 : Int) - 52 := by
      rw [least_is, hfb]; omega
    simp only [hlast]
    have hkept : Toward.even.cut false (m <<< (p - (p + (m.log2 : Int) - 52)).toNat) (p + (m.log2 : Int) - 52 - p).toNat ≤ 9007199254740992 := by
      by_cases h1 : m.log2 ≤ 52
      · rw [show (p + (m.log2 : Int) - 52 - p).toNat = 0 by omega, cut_zero_drop, show (p - (p + (m.log2 : Int) - 52)).toNat = 52 - m.log2 by omega, Nat.shiftLeft_eq]
        have h3 : m * 2 ^ (52 - m.log2) ≤ 2 ^ (m.log2 + 1) * 2 ^ (52 - m.log2) := Nat.mul_le_mul_right _ (Nat.le_of_lt hl2)
        rw [← Nat.pow_add, show m.log2 + 1 + (52 - m.log2) = 53 by omega] at h3
        exact h3
      · rw [show (p - (p + (m.log2 : Int) - 52)).toNat = 0 by omega]
        exact cut_even_le (n := m) hm (by omega) (by omega)
    generalize Toward.even.cut false (m <<< (p - (p + (m.log2 : Int) - 52)).toNat) (p + (m.log2 : Int) - 52 - p).toNat = kept at *
    rw [least_is, binade_is, inf_is]
    unfold Format.word
    simp only [Bool.false_eq_true, if_false]
    omega
theorem toInt_bd {m : Nat} {j : Int} (hm : m < 9007199254740992) (hj : j ≤ -40) : ∃ n : Nat, Datum.toInt .zero (.number false m j) = some (n : Int) ∧ n < 8192 := by
  unfold Datum.toInt Datum.integral
  simp only
  refine ⟨_, rfl, ?_⟩
  rw [show j.toNat = 0 by omega]
  simp only [Nat.shiftLeft_zero]
  unfold Toward.cut
  simp only [Nat.one_shiftLeft, Bool.toNat_false, Nat.add_zero]
  rcases Nat.lt_or_ge (-j).toNat (m.log2 + 2) with h1 | h1
  · rw [Nat.min_eq_left (Nat.le_of_lt h1), Nat.div_lt_iff_lt_mul (Nat.pow_pos (by decide))]
    have : 2 ^ 40 ≤ 2 ^ (-j).toNat := Nat.pow_le_pow_right (by decide) (by omega)
    omega
  · rw [Nat.min_eq_right h1]
    have h2 := @Nat.lt_log2_self m
    have h3 : 2 ^ (m.log2 + 2) = 2 ^ (m.log2 + 1) * 2 := by rw [Nat.pow_succ]
    rw [Nat.div_eq_of_lt (by omega)]
    decide
theorem write_false (m : Nat) (p : Int) : double.write (.number false m p) = double.nearest false m p := rfl
/-- The root of a small number: a word that is cut to a small whole number. -/
theorem sqrt_ok {s : Int} (h0 : 0 ≤ s) (h : s < 4194304) : ∃ r : Nat, double.sqrt (FloatKind.f64.nearest s) = some r ∧ ∃ n : Nat, (double.read r).toInt .zero = some (n : Int) ∧ n < 8192 := by
  have e : FloatKind.f64.nearest s = double.nearest false s.toNat 0 := by
    have h1 : decide (s < 0) = false := decide_eq_false (by omega)
    have h2 : s.natAbs = s.toNat := by omega
    show double.nearest (decide (s < 0)) s.natAbs 0 = _
    rw [h1, h2]
  rw [e]
  unfold Format.sqrt
  by_cases hz : s.toNat = 0
  · rw [hz]
    exact ⟨0, by decide, 0, by decide, by decide⟩
  · obtain ⟨k, i, h1, h2, h3⟩ := read_nearest hz (by omega)
    obtain ⟨m, p, h4, h5, h6⟩ := root_bd h2 h3
    rw [h1, show double.fractionBits + 2 = 54 from rfl, h4]
    obtain ⟨m2, j, h7, h8, h9⟩ := read_bd (write_bd h5 h6)
    refine ⟨_, rfl, ?_⟩
    rw [write_false, h7]
    exact toInt_bd h8 h9

end Go.Proofs.YtnfbdkdjoekifaaGreatDoor
end
