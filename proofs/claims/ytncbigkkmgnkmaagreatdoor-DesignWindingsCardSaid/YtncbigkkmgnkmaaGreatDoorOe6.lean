/- Plain facts on windings of discs. No program is in sight. -/
import Derived.Test.YtncbigkkmgnkmaaGreatDoorRows

section
namespace Go.Proofs.YtncbigkkmgnkmaaGreatDoor
def ceilV (n m : Int) : Int := (n + m - 1) / m
theorem ceil_le {n m k : Int} (hm : 0 < m) : ceilV n m ≤ k ↔ n ≤ k * m := by
  unfold ceilV
  constructor
  · intro h
    have h1 := Int.lt_mul_ediv_self_add (x := n + m - 1) hm
    have h2 := Int.mul_le_mul_of_nonneg_left h (Int.le_of_lt hm)
    rw [Int.mul_comm m k] at h2
    omega
  · intro h
    have h1 : (n + m - 1) / m < k + 1 := Int.ediv_lt_of_lt_mul hm (by rw [Int.add_mul]; omega)
    omega
theorem ceil_pos {n m : Int} (hm : 0 < m) (hn : 1 ≤ n) : 1 ≤ ceilV n m := by
  rcases Int.lt_or_le (ceilV n m) 1 with h | h
  · have := (ceil_le (n := n) (k := 0) hm).1 (by omega)
    omega
  · exact h
/-- The minimum number of discs none of which has more turns. -/
theorem fewest {t d : Int} (hd : 1 ≤ d) (ht : 1 ≤ t) (n : Int) (hn : 1 ≤ n) : ceilV t n ≤ ceilV t d ↔ ceilV t (ceilV t d) ≤ n := by
  have h1 := ceil_pos (n := t) (m := d) (by omega) ht
  rw [ceil_le (by omega), ceil_le (by omega), Int.mul_comm]
/-- The turns of disc i. -/
def discV (t d : Int) (i : Nat) : Int := t / d + (if (i : Int) < t % d then 1 else 0)
def discsL (t d : Int) (k : Nat) : List Int := (List.range k).map (discV t d)
theorem discs_sum {t d : Int} (hd : 1 ≤ d) (k : Nat) : (discsL t d k).sum = k * (t / d) + min (k : Int) (t % d) := by
  have h0 := Int.emod_nonneg t (b := d) (by omega)
  induction k with
  | zero => simp [discsL]; omega
  | succ k ih =>
    have e : discsL t d (k + 1) = discsL t d k ++ [discV t d k] := by
      unfold discsL
      rw [List.range_succ, List.map_append]
      rfl
    rw [e, List.sum_append, ih]
    simp only [List.sum_cons, List.sum_nil, discV]
    push_cast
    rw [Int.add_mul, Int.one_mul]
    split <;> omega
theorem discs_all {t : Int} {n : Nat} (hd : 1 ≤ n) : (discsL t (n : Int) n).sum = t := by
  rw [discs_sum (by omega)]
  have h1 := Int.emod_lt_of_pos t (b := (n : Int)) (by omega)
  have h2 := Int.mul_ediv_add_emod t (n : Int)
  rw [Int.min_eq_right (by omega)]
  omega
theorem disc_zero {t d : Int} (hd : 1 ≤ d) : discV t d 0 = ceilV t d := by
  have h1 := Int.emod_lt_of_pos t (b := d) (by omega)
  have h0 := Int.emod_nonneg t (b := d) (by omega)
  have h2 := Int.mul_ediv_add_emod t d
  unfold discV ceilV
  by_cases h : t % d = 0
  · rw [if_neg (by omega)]
    have e : t + d - 1 = (d - 1) + d * (t / d) := by omega
    have e2 : (t + d - 1) / d = (d - 1) / d + t / d := by
      conv => lhs; rw [e]
      exact Int.add_mul_ediv_left _ _ (by omega)
    have e3 : (d - 1) / d = 0 := Int.ediv_eq_zero_of_lt (by omega) (by omega)
    rw [e2, e3]
    omega
  · rw [if_pos (by omega)]
    have e : t + d - 1 = (t % d - 1) + d * (t / d + 1) := by rw [Int.mul_add]; omega
    have e2 : (t + d - 1) / d = (t % d - 1) / d + (t / d + 1) := by
      conv => lhs; rw [e]
      exact Int.add_mul_ediv_left _ _ (by omega)
    have e3 : (t % d - 1) / d = 0 := Int.ediv_eq_zero_of_lt (by omega) (by omega)
    rw [e2, e3]
    omega
theorem disc_diff {t d : Int} (i : Nat) : 0 ≤ discV t d 0 - discV t d i ∧ discV t d 0 - discV t d i ≤ 1 := by
  unfold discV
  split <;> split <;> omega

end Go.Proofs.YtncbigkkmgnkmaaGreatDoor
end
