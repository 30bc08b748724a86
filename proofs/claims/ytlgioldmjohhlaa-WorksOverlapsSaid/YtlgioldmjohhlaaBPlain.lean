/- Contracts of the small functions of package works: first, unless, within, isSized. Each computes just what its name says; nothing is written that was there. -/
import Derived.Test.YtlgioldmjohhlaaAWords
namespace Go.Proofs.Ytlgioldmjohhlaa
open Go.RowKit

/-- The first number that is not 0. -/
def firstV : List Int → Int
  | [] => 0
  | x :: l => if x = 0 then firstV l else x

def unlessV (ok : Bool) (e : Int) : Int := if ok then 0 else e
def withinB (n lo hi : Int) : Bool := decide (lo ≤ n) && decide (n ≤ hi)

theorem firstV_drop (xs : List Int) (k : Nat) (h : k < xs.length) : firstV (xs.drop k) = if xs.getD k 0 = 0 then firstV (xs.drop (k + 1)) else xs.getD k 0 := by
  rw [List.drop_eq_getElem_cons h, firstV]
  simp [List.getD, h]

set_option maxHeartbeats 400000 in
theorem first_any (B : Nat) (A : Option Addr) (c : Nat) (xs : List Int) (w : World) (hr : IntsIn B w A xs) (hm : xs.length ≤ 1000) :
    Calls Try.prog 86 #[.slice A xs.length c] w fun e w' => e = .returned (.int .i64 (firstV xs)) ∧ w = w' := by
  go_enter Try.func86, Try.ntmps86
  go_wp2
  go_loop [7] (fun i => ∃ k : Nat, k ≤ xs.length ∧ i = .int .i64 k ∧ firstV (xs.drop k) = firstV xs) (fun i => xs.length - (intOf i).toNat)
  case atStart => exact ⟨0, Nat.zero_le _, rfl, rfl⟩
  case round =>
    obtain ⟨k, hk, rfl, hf⟩ := hrel
    by_cases hlt : k < xs.length
    · obtain ⟨b, off, rfl, hb, hc⟩ := hr.at_ hlt
      have hcell := hc k hlt
      have HF := Lib.hid (hf.symm.trans (firstV_drop xs k hlt))
      clear hc hf hr
      generalize xs.getD k 0 = x at *
      go_wp2
      · go_ret
        exact ⟨ret_int (by rw [HF.out, if_neg (by simp_all)]), rfl⟩
      · go_round
        case rel => exact ⟨k + 1, by omega, by go_num, by rw [HF.out, if_pos (by simp_all)]⟩
        case measure => simp [intOf]; omega
    · have hk' : k = xs.length := by omega
      have HF := Lib.hid (show firstV xs = 0 by rw [← hf, hk']; simp [firstV])
      clear hf hk'
      go_wp2
      go_ret
      exact ⟨ret_int HF.out.symm, rfl⟩

theorem unless_any (ok : Bool) (e : Int) (w : World) :
    Calls Try.prog 87 #[.bool ok, .int .i64 e] w fun r w' => r = .returned (.int .i64 (unlessV ok e)) ∧ w = w' := by
  cases ok
  all_goals
    go_enter Try.func87, Try.ntmps87
    go_wp2
    go_ret
    exact ⟨rfl, rfl⟩

theorem within_any (n lo hi : Int) (w : World) :
    Calls Try.prog 88 #[.int .i64 n, .int .i64 lo, .int .i64 hi] w fun r w' => r = .returned (.bool (withinB n lo hi)) ∧ w = w' := by
  by_cases h : lo ≤ n
  all_goals
    go_enter Try.func88, Try.ntmps88
    go_wp2
    all_goals
      go_ret
      exact ⟨ret_bool (by simp [withinB]; try omega), rfl⟩

end Go.Proofs.Ytlgioldmjohhlaa
