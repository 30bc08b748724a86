/- Contracts of the small functions of package group: first, unless, within, isSized. Each computes just what its name says; nothing is written that was there. -/
import Derived.Test.YtpdkbhjcpddnpaaDoorAWords
import Derived.Test.YtpdkbhjcpddnpaaDoorAArith
import Derived.Test.YtpdkbhjcpddnpaaDoorG1Match
namespace Go.Proofs.YtpdkbhjcpddnpaaDoor
open Go.RowKit

/-- The first number that is not 0. -/
def firstV : List Int → Int
  | [] => 0
  | x :: l => if x = 0 then firstV l else x

def unlessV (ok : Bool) (e : Int) : Int := if ok then 0 else e
def withinB (n lo hi : Int) : Bool := decide (lo ≤ n) && decide (n ≤ hi)

theorem firstV_drop (xs : List Int) (k : Nat) (h : k < xs.length) : firstV (xs.drop k) = if xs.getD k 0 = 0 then firstV (xs.drop (k + 1)) else xs.getD k 0 := by
  rw [List.drop_eq_getElem_cons h, firstV]
  simp [List.getD, h]

set_option maxHeartbeats 400000 in
theorem first_any (B : Nat) (A : Option Addr) (c : Nat) (xs : List Int) (w : World) (hr : IntsIn B w A xs) (hm : xs.length ≤ 1000) :
    Calls Tryd.prog 26 #[.slice A xs.length c] w fun e w' => e = .returned (.int .i64 (firstV xs)) ∧ w = w' := by
  go_enter Tryd.func26, Tryd.ntmps26
  go_wp2
  go_loop [7] (fun i => ∃ k : Nat, k ≤ xs.length ∧ i = .int .i64 k ∧ firstV (xs.drop k) = firstV xs) (fun i => xs.length - (intOf i).toNat)
  case atStart => exact ⟨0, Nat.zero_le _, rfl, rfl⟩
  case round =>
    obtain ⟨k, hk, rfl, hf⟩ := hrel
    by_cases hlt : k < xs.length
    · obtain ⟨b, off, rfl, hb, hc⟩ := hr.at_ hlt
      have hcell := hc k hlt
      have HF := Lib.hid (hf.symm.trans (firstV_drop xs k hlt))
      clear hc hf hr
      generalize xs.getD k 0 = x at *
      go_wp2
      · go_ret
        exact ⟨ret_int (by rw [HF.out, if_neg (by simp_all)]), rfl⟩
      · go_round
        case rel => exact ⟨k + 1, by omega, by go_num, by rw [HF.out, if_pos (by simp_all)]⟩
        case measure => simp [intOf]; omega
    · have hk' : k = xs.length := by omega
      have HF := Lib.hid (show firstV xs = 0 by rw [← hf, hk']; simp [firstV])
      clear hf hk'
      go_wp2
      go_ret
      exact ⟨ret_int HF.out.symm, rfl⟩

theorem unless_any (ok : Bool) (e : Int) (w : World) :
    Calls Tryd.prog 27 #[.bool ok, .int .i64 e] w fun r w' => r = .returned (.int .i64 (unlessV ok e)) ∧ w = w' := by
  cases ok
  all_goals
    go_enter Tryd.func27, Tryd.ntmps27
    go_wp2
    go_ret
    exact ⟨rfl, rfl⟩

theorem within_any (n lo hi : Int) (w : World) :
    Calls Tryd.prog 37 #[.int .i64 n, .int .i64 lo, .int .i64 hi] w fun r w' => r = .returned (.bool (withinB n lo hi)) ∧ w = w' := by
  by_cases h : lo ≤ n
  all_goals
    go_enter Tryd.func37, Tryd.ntmps37
    go_wp2
    all_goals
      go_ret
      exact ⟨ret_bool (by simp [withinB]; try omega), rfl⟩

theorem unless_ne {b : Bool} {e : Int} (he : e ≠ 0) : unlessV b e = 0 ↔ b = true := by cases b <;> simp [unlessV, he]
theorem firstV_zero {x : Int} {l : List Int} : firstV (x :: l) = 0 ↔ x = 0 ∧ firstV l = 0 := by
  unfold firstV
  by_cases h : x = 0
  · subst h; simp; cases l <;> simp [firstV]
  · simp [h]

theorem small_any (n m : Int) (hm : -1000000000 ≤ m) (hm' : m ≤ 1000000000) (w : World) :
    Calls Tryd.prog 25 #[.int .i64 n, .int .i64 m] w fun r w' => r = .returned (.bool (withinB n (-m) m)) ∧ w = w' := by
  go_enter Tryd.func25, Tryd.ntmps25
  go_wp2_with (go_at_call 37; refine (within_any _ _ _ _).mono ?_; rintro e w' ⟨rfl, rfl⟩)
  go_ret
  exact ⟨rfl, rfl⟩

theorem refWithin_any (n lo hi : Int) (w : World) :
    Calls Tryd.prog 13 #[.int .i64 n, .int .i64 lo, .int .i64 hi] w fun r w' => r = .returned (.bool (withinB n lo hi)) ∧ w = w' := by
  by_cases h : lo ≤ n
  all_goals
    go_enter Tryd.func13, Tryd.ntmps13
    go_wp2
    all_goals
      go_ret
      exact ⟨ret_bool (by simp [withinB]; try omega), rfl⟩

theorem isKind_any (n : Int) (w : World) :
    Calls Tryd.prog 36 #[.int .i64 n] w fun r w' => r = .returned (.bool (withinB n 0 2)) ∧ w = w' := by
  go_enter Tryd.func36, Tryd.ntmps36
  go_wp2_with (go_at_call 37; refine (within_any _ _ _ _).mono ?_; rintro e w' ⟨rfl, rfl⟩)
  go_ret
  exact ⟨rfl, rfl⟩

theorem mod12 {n : Int} : ((n.tmod 12) + 12).tmod 12 = n % 12 := by
  have h1 := Int.tmod_lt_of_pos n (show (0 : Int) < 12 by decide)
  have h2 := Int.lt_tmod_of_pos n (show (0 : Int) < 12 by decide)
  rw [Int.tmod_eq_emod_of_nonneg (by omega), Int.tmod_eq_emod]
  split <;> omega
theorem mod_any (n : Int) (w : World) :
    Calls Tryd.prog 60 #[.int .i64 n] w fun r w' => r = .returned (.int .i64 (n % 12)) ∧ w = w' := by
  go_enter Tryd.func60, Tryd.ntmps60
  go_wp2
  go_ret
  have h3 := Int.tmod_lt_of_pos n (show (0 : Int) < 12 by decide)
  have h4 := Int.lt_tmod_of_pos n (show (0 : Int) < 12 by decide)
  refine ⟨ret_int ?_, rfl⟩
  rw [← mod12, w64 (by omega)]

end Go.Proofs.YtpdkbhjcpddnpaaDoor
