/- Contracts: greatest common divisors and lowest terms of any numbers, the second one above 0: the program's and the specification's. -/
import Derived.Test.YtpdkbhjcpddnpaaDoorGFCur
namespace Go.Proofs.YtpdkbhjcpddnpaaDoor
open Go.RowKit
attribute [local go_sem ↓] Go.wp_at_zero Go.wp_at_succ

def W64 (n : Int) : Prop := -9223372036854775808 ≤ n ∧ n ≤ 9223372036854775807
theorem tmod_w64 {a b : Int} (h0 : b ≠ 0) (hb : W64 b) : Sm 9223372036854775807 (a.tmod b) := by
  unfold Sm
  unfold W64 at hb
  have h1 := Int.natAbs_tmod a b
  have h2 : a.natAbs % b.natAbs < b.natAbs := Nat.mod_lt _ (by omega)
  omega

set_option maxHeartbeats 1000000 in
theorem divisor_all (a b : Int) (ha : W64 a) (hb : Sm 9223372036854775807 b) (hz : b ≠ 0) (w : World) :
    Calls Tryd.prog 48 #[.int .i64 a, .int .i64 b] w fun e w' => e = .returned (.int .i64 (gcdI a b)) ∧ Below w.heap.size w w' := by
  go_enter Tryd.func48, Tryd.ntmps48
  go_wp2
  go_loopw [0, 1] (fun x y wr => ∃ a' b' : Int, x = .int .i64 a' ∧ y = .int .i64 b' ∧ W64 a' ∧ Sm 9223372036854775807 b' ∧ (b' = 0 → Sm 9223372036854775807 a') ∧ gcdI a b = gcdI a' b' ∧ Below w.heap.size w wr) (fun _ y _ => (intOf y).natAbs)
  case atStart => exact ⟨a, b, rfl, rfl, ha, hb, fun e => absurd e hz, rfl, pr⟩
  case round =>
    obtain ⟨a', b', rfl, rfl, h1, h2, h3, hg, hS⟩ := hrel
    have HG := Lib.hid hg
    have HS := Lib.hid hS
    have H1 := Lib.hid h1
    have H2 := Lib.hid h2
    clear hg hS ha hb hz
    unfold W64 at h1
    unfold Sm at h2 h3
    by_cases h0 : b' = 0
    · subst h0
      have h4 := h3 rfl
      clear h3
      go_wp2
      all_goals
        go_ret
        refine ⟨ret_int ?_, HS.out⟩
        rw [HG.out, gcd_end]
        first | omega | (split <;> omega)
    · clear h3
      have hm := tmod_w64 (a := a') h0 (by unfold W64; omega)
      have hlt : (a'.tmod b').natAbs < b'.natAbs := by
        rw [Int.natAbs_tmod]; exact Nat.mod_lt _ (by omega)
      have hm2 := hm
      unfold Sm at hm2
      have hw : IntKind.i64.wrap (a'.tmod b') = a'.tmod b' := IntWalk.i64_in _ (by omega)
      have hw2 : (b' != 0) = true := by simpa using h0
      have hw3 : (b' == 0) = false := by simpa using h0
      go_wp2
      go_quiet (fail)
      go_wp2
      go_roundw
      case rel => exact ⟨b', a'.tmod b', rfl, by first | rfl | simp [hw], ⟨by omega, by omega⟩, hm, fun _ => H2.out, HG.out.trans (gcd_step a' b').symm, by first | exact HS.out | exact pd HS.out | exact below_drewN' HS.out _⟩
      case measure => first | exact hlt | (simp only [intOf]; rw [hw]; exact hlt) | (simp only [intOf, hw]; exact hlt)

set_option maxHeartbeats 1000000 in
theorem size_w64 (n : Int) (h : Sm 9223372036854775807 n) (w : World) : Calls Tryd.prog 54 #[.int .i64 n] w fun e w' => e = .returned (.int .i64 (n.natAbs : Int)) ∧ w = w' := by
  unfold Sm at h
  have e1 : IntKind.i64.wrap (-n) = -n := IntWalk.i64_in _ (by omega)
  go_enter Tryd.func54, Tryd.ntmps54
  go_wp2
  all_goals
    go_ret
    refine ⟨ret_int ?_, rfl⟩
    first | omega | (split <;> omega)

set_option maxHeartbeats 1000000 in
theorem refGcd_all (a b : Int) (ha : W64 a) (hb : Sm 9223372036854775807 b) (hz : b ≠ 0) (w : World) :
    Calls Tryd.prog 31 #[.int .i64 a, .int .i64 b] w fun e w' => e = .returned (.int .i64 (gcdI a b)) ∧ Below w.heap.size w w' := by
  go_enter Tryd.func31, Tryd.ntmps31
  go_wp2
  go_loopw [0, 1] (fun x y wr => ∃ a' b' : Int, x = .int .i64 a' ∧ y = .int .i64 b' ∧ W64 a' ∧ Sm 9223372036854775807 b' ∧ (b' = 0 → Sm 9223372036854775807 a') ∧ gcdI a b = gcdI a' b' ∧ Below w.heap.size w wr) (fun _ y _ => (intOf y).natAbs)
  case atStart => exact ⟨a, b, rfl, rfl, ha, hb, fun e => absurd e hz, rfl, pr⟩
  case round =>
    obtain ⟨a', b', rfl, rfl, h1, h2, h3, hg, hS⟩ := hrel
    have HG := Lib.hid hg
    have HS := Lib.hid hS
    have H2 := Lib.hid h2
    have H3 := Lib.hid h3
    clear hg hS ha hb hz h3
    unfold W64 at h1
    unfold Sm at h2
    by_cases h0 : b' = 0
    · subst h0
      go_wp2_with (go_at_call 54; refine (size_w64 _ (H3.out rfl) _).mono ?_; rintro e w' ⟨rfl, rfl⟩)
      go_ret
      refine ⟨ret_int ?_, HS.out⟩
      rw [HG.out, gcd_end]
    · have hm := tmod_w64 (a := a') h0 (by unfold W64; omega)
      have hlt : (a'.tmod b').natAbs < b'.natAbs := by
        rw [Int.natAbs_tmod]; exact Nat.mod_lt _ (by omega)
      have hm2 := hm
      unfold Sm at hm2
      have hw : IntKind.i64.wrap (a'.tmod b') = a'.tmod b' := IntWalk.i64_in _ (by omega)
      have hw2 : (b' != 0) = true := by simpa using h0
      have hw3 : (b' == 0) = false := by simpa using h0
      go_wp2
      go_quiet (fail)
      go_wp2
      go_roundw
      case rel => exact ⟨b', a'.tmod b', rfl, by first | rfl | simp [hw], ⟨by omega, by omega⟩, hm, fun _ => H2.out, HG.out.trans (gcd_step a' b').symm, by first | exact HS.out | exact pd HS.out | exact below_drewN' HS.out _⟩
      case measure => first | exact hlt | (simp only [intOf]; rw [hw]; exact hlt) | (simp only [intOf, hw]; exact hlt)

set_option maxHeartbeats 1000000 in
theorem isLowest_all (n d : Int) (hn : W64 n) (hd : W64 d) (w : World) :
    Calls Tryd.prog 43 #[.agg #[.int .i64 n, .int .i64 d]] w fun e w' => e = .returned (.bool (lowestB n d)) ∧ Below w.heap.size w w' := by
  have hv : lowestB n d = (decide (0 < d) && decide (gcdI n d = 1)) := rfl
  by_cases h : 0 < d
  · have HD := Lib.hid (divisor_all n d hn (by unfold W64 at hd; unfold Sm; omega) (by omega))
    have HV := Lib.hid (show lowestB n d = decide (gcdI n d = 1) by rw [hv]; simp [h])
    clear hv hn hd
    generalize lowestB n d = X at *
    generalize gcdI n d = g at *
    go_enter Tryd.func43, Tryd.ntmps43
    go_wp2_with (go_at_call 48; refine (HD.out _).mono ?_; rintro e w1 ⟨rfl, hb1⟩)
    go_ret
    refine ⟨ret_bool ?_, pt (pa pr) hb1⟩
    rw [HV.out]
    first | rfl | (by_cases hg : g = 1 <;> simp [hg])
  · have HV := Lib.hid (show lowestB n d = false by rw [hv]; simp [h])
    clear hv hn hd
    generalize lowestB n d = X at *
    go_enter Tryd.func43, Tryd.ntmps43
    go_wp2
    go_ret
    exact ⟨ret_bool HV.out.symm, pa pr⟩

set_option maxHeartbeats 1000000 in
theorem refIsLowest_all (n d : Int) (hn : W64 n) (hd : W64 d) (w : World) :
    Calls Tryd.prog 20 #[.agg #[.int .i64 n, .int .i64 d]] w fun e w' => e = .returned (.bool (lowestB n d)) ∧ Below w.heap.size w w' := by
  have hv : lowestB n d = (decide (0 < d) && decide (gcdI n d = 1)) := rfl
  by_cases h : 0 < d
  · have HD := Lib.hid (refGcd_all n d hn (by unfold W64 at hd; unfold Sm; omega) (by omega))
    have HV := Lib.hid (show lowestB n d = decide (gcdI n d = 1) by rw [hv]; simp [h])
    clear hv hn hd
    generalize lowestB n d = X at *
    generalize gcdI n d = g at *
    go_enter Tryd.func20, Tryd.ntmps20
    go_wp2_with (go_at_call 31; refine (HD.out _).mono ?_; rintro e w1 ⟨rfl, hb1⟩)
    go_ret
    refine ⟨ret_bool ?_, pt (pa pr) hb1⟩
    rw [HV.out]
    first | rfl | (by_cases hg : g = 1 <;> simp [hg])
  · have HV := Lib.hid (show lowestB n d = false by rw [hv]; simp [h])
    clear hv hn hd
    generalize lowestB n d = X at *
    go_enter Tryd.func20, Tryd.ntmps20
    go_wp2
    go_ret
    exact ⟨ret_bool HV.out.symm, pa pr⟩

end Go.Proofs.YtpdkbhjcpddnpaaDoor
