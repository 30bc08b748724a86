/- Plain facts on drying: more water dries to more, a higher rate to less; the first number of steps; a number modulo another one (contract). -/
import Derived.Test.YtlgioldmjohhlaaZJDry
namespace Go.Proofs.Ytlgioldmjohhlaa
open Go.RowKit

theorem dried_mono {fl w w' r : Int} (h : w ≤ w') (h5 : 0 ≤ r) (h6 : r ≤ 1000) : driedV fl w r ≤ driedV fl w' r := by
  unfold driedV
  obtain ⟨m, hm⟩ : ∃ m, m = max 0 (w - fl) := ⟨_, rfl⟩
  obtain ⟨m', hm'⟩ : ∃ m', m' = max 0 (w' - fl) := ⟨_, rfl⟩
  rw [← hm, ← hm']
  have h1 : m ≤ m' := by omega
  have h2 : m' - m ≤ w' - w := by omega
  have h3 : m * r ≤ m' * r := Int.mul_le_mul_of_nonneg_right h1 h5
  have h4 : (m' - m) * r ≤ (m' - m) * 1000 := Int.mul_le_mul_of_nonneg_left h6 (by omega)
  rw [Int.sub_mul] at h4
  generalize m * r = x at *
  generalize m' * r = y at *
  omega
theorem dried_anti {fl w r r' : Int} (h : r ≤ r') : driedV fl w r' ≤ driedV fl w r := by
  unfold driedV
  have h3 : max 0 (w - fl) * r ≤ max 0 (w - fl) * r' := Int.mul_le_mul_of_nonneg_left h (by omega)
  generalize max 0 (w - fl) * r = x at *
  generalize max 0 (w - fl) * r' = y at *
  omega

theorem stepsF_some {g : Nat → Int} {t : Int} : ∀ (m k n : Nat), stepsF g t m k = some n → k ≤ n ∧ n < k + m ∧ g n ≤ t ∧ ∀ j, k ≤ j → j < n → t < g j
  | 0, k, n, h => by cases h
  | m + 1, k, n, h => by
    unfold stepsF at h
    by_cases hk : g k ≤ t
    · rw [if_pos hk] at h
      injection h with h
      subst h
      exact ⟨Nat.le_refl _, by omega, hk, fun j h1 h2 => by omega⟩
    · rw [if_neg hk] at h
      obtain ⟨h1, h2, h3, h4⟩ := stepsF_some m (k + 1) n h
      refine ⟨by omega, by omega, h3, fun j h5 h6 => ?_⟩
      by_cases hj : j = k
      · subst hj; omega
      · exact h4 j (by omega) h6

theorem baseMod_any (n b : Int) (w : World) (h1 : 1 ≤ b) (h2 : b ≤ 4611686018427387904) :
    Calls Try.prog 52 #[.int .i64 n, .int .i64 b] w fun e w' => e = .returned (.int .i64 (n % b)) ∧ w = w' := by
  have hbne : (b == 0) = false := by rw [beq_eq_false_iff_ne]; omega
  have ht := Int.tmod_lt_of_pos n (show 0 < b by omega)
  have ht2 : -b < n.tmod b := by
    have := Int.lt_tmod_of_pos n (show 0 < b by omega)
    omega
  have he := Int.emod_nonneg n (show b ≠ 0 by omega)
  have hcase : (n.tmod b < 0 ∧ n.tmod b + b = n % b) ∨ (0 ≤ n.tmod b ∧ n.tmod b = n % b) := by
    rw [Int.tmod_eq_emod] at ht2 ⊢
    have h3 := Int.emod_lt_of_pos n (show 0 < b by omega)
    split <;> rename_i hc
    · omega
    · have h4 : 0 < n % b := by
        have : n % b ≠ 0 := fun e => hc (.inr (Int.dvd_of_emod_eq_zero e))
        omega
      omega
  clear he
  rcases hcase with ⟨h0, hr⟩ | ⟨h0, hr⟩
  all_goals
    have HR := Lib.hid hr
    clear hr
    go_enter Try.func52, Try.ntmps52
    go_wp2
    go_ret
    exact ⟨ret_int HR.out, rfl⟩

end Go.Proofs.Ytlgioldmjohhlaa
