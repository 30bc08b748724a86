/- Contracts of the functions of package works that check and dry an oven. -/
import Derived.Test.YtlgioldmjohhlaaBPlain
import Derived.Test.YtlgioldmjohhlaaARegion
import Derived.Deep.RegionHeld3
import Derived.Deep.QuietTactic
import Derived.BigQuiet
import Derived.StillTailTactics
import Derived.Deep.DrawnRows
namespace Go.Proofs.Ytlgioldmjohhlaa
open Go.RowKit
attribute [local go_sem ↓] Go.wp_at_zero Go.wp_at_succ

theorem first2 (b c : Nat) (x y : Int) (w : World) (h0 : w.cell? ⟨b, 0, none⟩ = some (.int .i64 x)) (h1 : w.cell? ⟨b, 1, none⟩ = some (.int .i64 y)) :
    Calls Try.prog 86 #[.slice (some ⟨b, 0, none⟩) 2 c] w fun e w' => e = .returned (.int .i64 (firstV [x, y])) ∧ w = w' :=
  first_any (b + 1) _ c [x, y] w (.inr ⟨b, 0, rfl, by omega, fun j hj => by
    have : j = 0 ∨ j = 1 := by simp at hj; omega
    rcases this with rfl | rfl
    · simpa using h0
    · simpa using h1⟩) (by simp)

def waterB (n : Int) : Bool := withinB n 0 1000000

theorem isWater_any (n : Int) (w : World) :
    Calls Try.prog 108 #[.int .i64 n] w fun r w' => r = .returned (.bool (waterB n)) ∧ w = w' := by
  go_enter Try.func108, Try.ntmps108
  go_wp2_with (go_at_call 88; refine (within_any _ _ _ _).mono ?_; rintro e w' ⟨rfl, rfl⟩)
  go_ret
  exact ⟨rfl, rfl⟩

def rateB (n : Int) : Bool := withinB n 0 1000
def valueB (n : Int) : Bool := withinB n (-1000000) 1000000

theorem isSized_any (n m : Int) (hm : -1000000000 ≤ m) (hm' : m ≤ 1000000000) (w : World) :
    Calls Try.prog 141 #[.int .i64 n, .int .i64 m] w fun r w' => r = .returned (.bool (withinB n (-m) m)) ∧ w = w' := by
  go_enter Try.func141, Try.ntmps141
  go_wp2_with (go_at_call 88; refine (within_any _ _ _ _).mono ?_; rintro e w' ⟨rfl, rfl⟩)
  go_ret
  exact ⟨rfl, rfl⟩

theorem lotValue_any (n : Int) (w : World) :
    Calls Try.prog 140 #[.int .i64 n] w fun r w' => r = .returned (.bool (valueB n)) ∧ w = w' := by
  go_enter Try.func140, Try.ntmps140
  go_wp2_with (go_at_call 141; refine (isSized_any _ _ (by decide) (by decide) _).mono ?_; rintro e w' ⟨rfl, rfl⟩)
  go_ret
  exact ⟨rfl, rfl⟩

theorem ovenRate_any (n : Int) (w : World) :
    Calls Try.prog 110 #[.int .i64 n] w fun r w' => r = .returned (.bool (rateB n)) ∧ w = w' := by
  go_enter Try.func110, Try.ntmps110
  go_wp2_with (go_at_call 88; refine (within_any _ _ _ _).mono ?_; rintro e w' ⟨rfl, rfl⟩)
  go_ret
  exact ⟨rfl, rfl⟩

def rangeErrV (p : Int → Bool) (lo hi : Int) : Int := firstV [unlessV (p lo && p hi) 2, unlessV (decide (lo ≤ hi)) 9]

set_option maxRecDepth 100000 in
set_option maxHeartbeats 1000000 in
theorem rangeErr_water (lo hi : Int) (w : World) :
    Calls Try.prog 109 #[.agg #[.int .i64 lo, .int .i64 hi], .func (.func 108) #[] #[]] w fun r w' => r = .returned (.int .i64 (rangeErrV waterB lo hi)) ∧ Below w.heap.size w w' := by
  cases hp : waterB lo
  all_goals
    go_enter Try.func109, Try.ntmps109
    go_wp2
    refine region_below 17 follows_mixed (by kernel_rfl) ?_
    intro C hC
    simp only [List.take_succ_cons, List.take_zero, List.drop_succ_cons, List.drop_zero]
    repeat (first
      | ((with_reducible refine quiet_plain rfl (fun K hK => ?_)); (focus (apply quiet_val; (focus (intro w' hw; obtain ⟨hcq, hfq⟩ := bcell ((hC.out _).1 hw); go_simp; (first | done | rfl | (with_reducible exact call_same hw (isWater_any _ _)) | (with_reducible exact call_same hw (unless_any _ _ _))))); (simp only [Act.put, List.setIfInBounds_toArray, List.set_cons_succ, List.set_cons_zero]); (with_reducible refine hK _ ?_); clear hK K)))
      | ((with_reducible refine quiet_skip ?_ ?_); (focus (simp [Region.wanted, yielded]; done)); simp only [Act.put, List.setIfInBounds_toArray, List.set_cons_succ, List.set_cons_zero])
      | ((with_reducible refine quiet_go ?_ (fun K hK => ?_)); (focus (simp [Region.wanted, yielded]; done)); (focus (apply quiet_val; (focus (intro w' hw; obtain ⟨hcq, hfq⟩ := bcell ((hC.out _).1 hw); go_simp; (first | done | rfl | (with_reducible exact call_same hw (isWater_any _ _)) | (with_reducible exact call_same hw (unless_any _ _ _))))); (simp only [Act.put, List.setIfInBounds_toArray, List.set_cons_succ, List.set_cons_zero]); (with_reducible refine hK _ ?_); clear hK K))))
    refine wpQuiet_nil ?_
    intro w1 hb1
    replace hb1 := (hC.out _).1 hb1
    clear hC C
    obtain ⟨hc1, hf1⟩ := bcell hb1
    go_wp2_with (go_at_call 86; refine (first2 _ _ _ _ _ (by go_simp; rfl) (by go_simp; rfl)).mono ?_; rintro e w' ⟨rfl, rfl⟩)
    go_ret
    exact ⟨ret_int (by simp [rangeErrV, hp]), (((Below.refl _ _).alloc (Nat.le_refl _) _).trans (hb1.mono (by simp))).alloc (by have := hb1.size; simp at this; omega) _⟩
set_option maxRecDepth 100000 in
set_option maxHeartbeats 1000000 in
theorem rangeErr_rate (lo hi : Int) (w : World) :
    Calls Try.prog 109 #[.agg #[.int .i64 lo, .int .i64 hi], .func (.func 110) #[] #[]] w fun r w' => r = .returned (.int .i64 (rangeErrV rateB lo hi)) ∧ Below w.heap.size w w' := by
  cases hp : rateB lo
  all_goals
    go_enter Try.func109, Try.ntmps109
    go_wp2
    refine region_below 17 follows_mixed (by kernel_rfl) ?_
    intro C hC
    simp only [List.take_succ_cons, List.take_zero, List.drop_succ_cons, List.drop_zero]
    repeat (first
      | ((with_reducible refine quiet_plain rfl (fun K hK => ?_)); (focus (apply quiet_val; (focus (intro w' hw; obtain ⟨hcq, hfq⟩ := bcell ((hC.out _).1 hw); go_simp; (first | done | rfl | (with_reducible exact call_same hw (ovenRate_any _ _)) | (with_reducible exact call_same hw (unless_any _ _ _))))); (simp only [Act.put, List.setIfInBounds_toArray, List.set_cons_succ, List.set_cons_zero]); (with_reducible refine hK _ ?_); clear hK K)))
      | ((with_reducible refine quiet_skip ?_ ?_); (focus (simp [Region.wanted, yielded]; done)); simp only [Act.put, List.setIfInBounds_toArray, List.set_cons_succ, List.set_cons_zero])
      | ((with_reducible refine quiet_go ?_ (fun K hK => ?_)); (focus (simp [Region.wanted, yielded]; done)); (focus (apply quiet_val; (focus (intro w' hw; obtain ⟨hcq, hfq⟩ := bcell ((hC.out _).1 hw); go_simp; (first | done | rfl | (with_reducible exact call_same hw (ovenRate_any _ _)) | (with_reducible exact call_same hw (unless_any _ _ _))))); (simp only [Act.put, List.setIfInBounds_toArray, List.set_cons_succ, List.set_cons_zero]); (with_reducible refine hK _ ?_); clear hK K))))
    refine wpQuiet_nil ?_
    intro w1 hb1
    replace hb1 := (hC.out _).1 hb1
    clear hC C
    obtain ⟨hc1, hf1⟩ := bcell hb1
    go_wp2_with (go_at_call 86; refine (first2 _ _ _ _ _ (by go_simp; rfl) (by go_simp; rfl)).mono ?_; rintro e w' ⟨rfl, rfl⟩)
    go_ret
    exact ⟨ret_int (by simp [rangeErrV, hp]), (((Below.refl _ _).alloc (Nat.le_refl _) _).trans (hb1.mono (by simp))).alloc (by have := hb1.size; simp at this; omega) _⟩
set_option maxRecDepth 100000 in
set_option maxHeartbeats 1000000 in
theorem rangeErr_value (lo hi : Int) (w : World) :
    Calls Try.prog 109 #[.agg #[.int .i64 lo, .int .i64 hi], .func (.func 140) #[] #[]] w fun r w' => r = .returned (.int .i64 (rangeErrV valueB lo hi)) ∧ Below w.heap.size w w' := by
  cases hp : valueB lo
  all_goals
    go_enter Try.func109, Try.ntmps109
    go_wp2
    refine region_below 17 follows_mixed (by kernel_rfl) ?_
    intro C hC
    simp only [List.take_succ_cons, List.take_zero, List.drop_succ_cons, List.drop_zero]
    repeat (first
      | ((with_reducible refine quiet_plain rfl (fun K hK => ?_)); (focus (apply quiet_val; (focus (intro w' hw; obtain ⟨hcq, hfq⟩ := bcell ((hC.out _).1 hw); go_simp; (first | done | rfl | (with_reducible exact call_same hw (lotValue_any _ _)) | (with_reducible exact call_same hw (unless_any _ _ _))))); (simp only [Act.put, List.setIfInBounds_toArray, List.set_cons_succ, List.set_cons_zero]); (with_reducible refine hK _ ?_); clear hK K)))
      | ((with_reducible refine quiet_skip ?_ ?_); (focus (simp [Region.wanted, yielded]; done)); simp only [Act.put, List.setIfInBounds_toArray, List.set_cons_succ, List.set_cons_zero])
      | ((with_reducible refine quiet_go ?_ (fun K hK => ?_)); (focus (simp [Region.wanted, yielded]; done)); (focus (apply quiet_val; (focus (intro w' hw; obtain ⟨hcq, hfq⟩ := bcell ((hC.out _).1 hw); go_simp; (first | done | rfl | (with_reducible exact call_same hw (lotValue_any _ _)) | (with_reducible exact call_same hw (unless_any _ _ _))))); (simp only [Act.put, List.setIfInBounds_toArray, List.set_cons_succ, List.set_cons_zero]); (with_reducible refine hK _ ?_); clear hK K))))
    refine wpQuiet_nil ?_
    intro w1 hb1
    replace hb1 := (hC.out _).1 hb1
    clear hC C
    obtain ⟨hc1, hf1⟩ := bcell hb1
    go_wp2_with (go_at_call 86; refine (first2 _ _ _ _ _ (by go_simp; rfl) (by go_simp; rfl)).mono ?_; rintro e w' ⟨rfl, rfl⟩)
    go_ret
    exact ⟨ret_int (by simp [rangeErrV, hp]), (((Below.refl _ _).alloc (Nat.le_refl _) _).trans (hb1.mono (by simp))).alloc (by have := hb1.size; simp at this; omega) _⟩

end Go.Proofs.Ytlgioldmjohhlaa
