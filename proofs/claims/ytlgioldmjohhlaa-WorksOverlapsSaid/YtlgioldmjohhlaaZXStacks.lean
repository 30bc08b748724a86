/- WorksStacks: for every input the law returns true, and nothing that was there is turned (the walk). A slice whose cells lie in memory. -/
import Derived.Test.YtlgioldmjohhlaaZWRefStack2
import Derived.Test.YtlgioldmjohhlaaZLDrying
namespace Go.Proofs.Ytlgioldmjohhlaa
open Go.RowKit


set_option maxHeartbeats 4000000 in
set_option maxRecDepth 100000 in
theorem stacks_skip (A : Option Addr) (c : Nat) (xs : List Int) (count overlap : Int) (w : World) (h : 10 < xs.length ∨ (xs.length ≤ 10 ∧ count = 8)) :
    Calls Try.prog 4 #[.slice A xs.length c, .int .i64 count, .int .i64 overlap] w fun e w' => e = .returned (.bool true) ∧ Below w.heap.size w w' := by
  have HBx := Lib.hid (Below.refl w.heap.size w)
  rcases h with h | ⟨h, rfl⟩
  · have h10 : (10 : Int) < (xs.length : Int) := by omega
    have hd : decide ((10 : Int) < (xs.length : Int)) = true := decide_eq_true h10
    go_enter Try.func4, Try.ntmps4
    go_wp2_with (go_at_call 15; refine (awake_any _).mono ?_; rintro e w1 ⟨rfl, hb⟩; replace HBx := Lib.hid (pt HBx.out hb); clear hb)
    go_ret
    exact ⟨rfl, HBx.out⟩
  · have hd : decide ((10 : Int) < (xs.length : Int)) = false := by simp; omega
    go_enter Try.func4, Try.ntmps4
    go_wp2_with (go_at_call 15; refine (awake_any _).mono ?_; rintro e w1 ⟨rfl, hb⟩; replace HBx := Lib.hid (pt HBx.out hb); clear hb)
    go_ret
    exact ⟨rfl, HBx.out⟩


set_option maxHeartbeats 4000000 in
set_option maxRecDepth 100000 in
theorem stacks_bad (A : Option Addr) (c : Nat) (xs : List Int) (count overlap : Int) (w : World) (hr : IntsIn w.heap.size w A xs) (hcap : xs.length ≤ c) (hl : xs.length ≤ 10) (h8 : count ≠ 8) (h0 : stackE count overlap ≠ 0) :
    Calls Try.prog 4 #[.slice A xs.length c, .int .i64 count, .int .i64 overlap] w fun e w' => e = .returned (.bool true) ∧ Below w.heap.size w w' := by
  have HBx := Lib.hid (Below.refl w.heap.size w)
  have HR := Lib.hid hr
  have hd : decide ((10 : Int) < (xs.length : Int)) = false := by simp; omega
  have hd8 : (count == 8) = false := by simpa using h8
  have HFor := Lib.hid fun W => stackFor_err count overlap W h0
  have HOf := Lib.hid fun W => stacksOf_err count overlap W h0
  have HEr := Lib.hid fun W => refStackErr_any count overlap W
  have h00 : (stackE count overlap != 0) = true := by simpa using h0
  clear hr h8 h0
  generalize stackE count overlap = E at *
  go_enter Try.func4, Try.ntmps4
  go_wp2_with (first
      | (go_at_call 15; refine (awake_any _).mono ?_; rintro e w1 ⟨rfl, hb⟩; replace HBx := Lib.hid (pt HBx.out hb); clear hb)
      | (go_at_call 24; go_must (refine (copyInts_any w.heap.size A xs.length c xs _ (HR.out.below HBx.out) rfl HBx.out.size (by omega)).mono ?_); rintro e w2 ⟨v1, rfl, hown1, hb⟩; obtain ⟨A1, c1, rfl, hc1, hm1⟩ := own_form hown1; have HI1 := Lib.hid (intsIn_of_own hown1); replace HBx := Lib.hid (pt HBx.out hb); clear hb; clear hown1)
      | (go_at_call 23; go_must (refine (checkStack_any _ A1 c1 xs overlap _ HI1.out (Nat.le_refl _) (by omega) hc1).mono ?_); rintro e w3 ⟨rfl, hb⟩; replace HBx := Lib.hid (pt HBx.out hb); clear hb)
      | (go_at_call 27; go_must (refine (refCheckStack_any w.heap.size A c xs overlap _ (HR.out.below HBx.out) HBx.out.size (by omega) hcap).mono ?_); rintro e w6 ⟨rfl, hb⟩; skip; replace HBx := Lib.hid (pt HBx.out hb); clear hb)
      | (go_at_call 25; go_must (refine (HFor.out _).mono ?_); rintro e w4 ⟨A2, c2, rfl, hi2, hc2, hb⟩; replace HBx := Lib.hid (pt HBx.out hb); clear hb; clear hi2)
      | (go_at_call 26; go_must (refine (HOf.out _).mono ?_); rintro e w5 ⟨rfl, hb⟩; replace HBx := Lib.hid (pt HBx.out hb); clear hb)
      | (go_at_call 28; go_must (refine (HEr.out _).mono ?_); rintro e w7 ⟨rfl, rfl⟩))
  go_ret
  exact ⟨rfl, HBx.out⟩

set_option maxHeartbeats 4000000 in
set_option maxRecDepth 100000 in
theorem stacks_go (A : Option Addr) (c : Nat) (xs : List Int) (count : Nat) (overlap : Int) (w : World) (hr : IntsIn w.heap.size w A xs) (hcap : xs.length ≤ c) (hl : xs.length ≤ 10) (h8 : count ≤ 7) (h0 : stackE count overlap = 0) :
    Calls Try.prog 4 #[.slice A xs.length c, .int .i64 (count : Int), .int .i64 overlap] w fun e w' => e = .returned (.bool true) ∧ Below w.heap.size w w' := by
  have HBx := Lib.hid (Below.refl w.heap.size w)
  have HR := Lib.hid hr
  have hd : decide ((10 : Int) < (xs.length : Int)) = false := by simp; omega
  have hd8 : ((count : Int) == 8) = false := by
    have : ¬ (count : Int) = 8 := by omega
    simpa using this
  have hll := stackForL_len (overlap := overlap) (show count ≤ 8 by omega)
  have hfor := fun W => callsIn_wide.1 (stackFor_in 1 count overlap W (Nat.le_refl _) h0 (by omega))
  have hof := fun W => callsIn_wide.1 (stacksOf_in 1 count overlap W (Nat.le_refl _) h0 (by omega))
  have hrfor := fun W => refStackFor_any count overlap W (by omega) h0
  have hrof := fun W => refStacksOf_any count overlap W (show count ≤ 8 by omega)
  have her := fun W => refStackErr_any count overlap W
  rw [h0] at her
  have HEr := Lib.hid her
  have HL := Lib.hid (show stackForL count overlap = (stacksV count overlap count []).headD [] by unfold stackForL; rw [if_neg (by simp [h0])])
  have HOf := Lib.hid hof
  have HROf := Lib.hid hrof
  cases hs : stacksV count overlap count [] with
  | nil =>
    have he : stackForE count overlap = 12 := by simp [stackForE, hs, h0]
    rw [he] at hfor
    rw [hs] at hrfor
    have HFor := Lib.hid hfor
    have HRFor := Lib.hid hrfor
    have HLN := Lib.hid (show stackForL count overlap = [] by rw [HL.out, hs]; rfl)
    clear hr hfor hof hrof hrfor her h0 he hs
    rw [HLN.out] at HFor HRFor
    generalize (stacksV count overlap count []).length = N at *
    go_enter Try.func4, Try.ntmps4
    go_wp2_with (first
      | (go_at_call 15; refine (awake_any _).mono ?_; rintro e w1 ⟨rfl, hb⟩; replace HBx := Lib.hid (pt HBx.out hb); clear hb)
      | (go_at_call 24; go_must (refine (copyInts_any w.heap.size A xs.length c xs _ (HR.out.below HBx.out) rfl HBx.out.size (by omega)).mono ?_); rintro e w2 ⟨v1, rfl, hown1, hb⟩; obtain ⟨A1, c1, rfl, hc1, hm1⟩ := own_form hown1; have HI1 := Lib.hid (intsIn_of_own hown1); replace HBx := Lib.hid (pt HBx.out hb); clear hb; clear hown1)
      | (go_at_call 23; go_must (refine (checkStack_any _ A1 c1 xs overlap _ HI1.out (Nat.le_refl _) (by omega) hc1).mono ?_); rintro e w3 ⟨rfl, hb⟩; replace HBx := Lib.hid (pt HBx.out hb); clear hb)
      | (go_at_call 27; go_must (refine (refCheckStack_any w.heap.size A c xs overlap _ (HR.out.below HBx.out) HBx.out.size (by omega) hcap).mono ?_); rintro e w6 ⟨rfl, hb⟩; skip; replace HBx := Lib.hid (pt HBx.out hb); clear hb)
      | (go_at_call 25; go_must (refine (HFor.out _).mono ?_); rintro e w4 ⟨A2, c2, rfl, hi2, hc2, hb⟩; replace HBx := Lib.hid (pt HBx.out hb); clear hb; clear hi2)
      | (go_at_call 26; go_must (refine (HOf.out _).mono ?_); rintro e w5 ⟨rfl, hb⟩; replace HBx := Lib.hid (pt HBx.out hb); clear hb)
      | (go_at_call 28; go_must (refine (HEr.out _).mono ?_); rintro e w7 ⟨rfl, rfl⟩)
      | (go_at_call 29; go_must (refine (HROf.out _).mono ?_); rintro e w8 ⟨rfl, hb⟩; replace HBx := Lib.hid (pt HBx.out hb); clear hb)
      | (go_at_call 30; go_must (refine (HRFor.out _).mono ?_); rintro e w9 ⟨A3, c3, rfl, hi3, hb⟩; replace HBx := Lib.hid (pt HBx.out hb); clear hb; clear hi3))
    go_ret
    exact ⟨rfl, HBx.out⟩
  | cons z l =>
    have he : stackForE count overlap = 0 := by simp [stackForE, hs, h0]
    rw [he] at hfor
    rw [hs] at hrfor
    have HFor := Lib.hid hfor
    have HRFor := Lib.hid hrfor
    clear hr hfor hof hrof hrfor her h0 he hs HL
    generalize stackForL count overlap = L at *
    generalize (stacksV count overlap count []).length = N at *
    go_enter Try.func4, Try.ntmps4
    go_wp2_with (first
      | (go_at_call 15; refine (awake_any _).mono ?_; rintro e w1 ⟨rfl, hb⟩; replace HBx := Lib.hid (pt HBx.out hb); clear hb)
      | (go_at_call 24; go_must (refine (copyInts_any w.heap.size A xs.length c xs _ (HR.out.below HBx.out) rfl HBx.out.size (by omega)).mono ?_); rintro e w2 ⟨v1, rfl, hown1, hb⟩; obtain ⟨A1, c1, rfl, hc1, hm1⟩ := own_form hown1; have HI1 := Lib.hid (intsIn_of_own hown1); replace HBx := Lib.hid (pt HBx.out hb); clear hb; clear hown1)
      | (go_at_call 23; go_must (refine (checkStack_any _ A1 c1 xs overlap _ HI1.out (Nat.le_refl _) (by omega) hc1).mono ?_); rintro e w3 ⟨rfl, hb⟩; replace HBx := Lib.hid (pt HBx.out hb); clear hb)
      | (go_at_call 27; go_must (refine (refCheckStack_any w.heap.size A c xs overlap _ (HR.out.below HBx.out) HBx.out.size (by omega) hcap).mono ?_); rintro e w6 ⟨rfl, hb⟩; (replace HI2 := Lib.hid ((HI2.out.below hb).more hb.size)); replace HBx := Lib.hid (pt HBx.out hb); clear hb)
      | (go_at_call 25; go_must (refine (HFor.out _).mono ?_); rintro e w4 ⟨A2, c2, rfl, hi2, hc2, hb⟩; replace HBx := Lib.hid (pt HBx.out hb); clear hb; have HI2 := Lib.hid hi2; clear hi2)
      | (go_at_call 26; go_must (refine (HOf.out _).mono ?_); rintro e w5 ⟨rfl, hb⟩; replace HI2 := Lib.hid ((HI2.out.below hb).more hb.size); replace HBx := Lib.hid (pt HBx.out hb); clear hb)
      | (go_at_call 28; go_must (refine (HEr.out _).mono ?_); rintro e w7 ⟨rfl, rfl⟩)
      | (go_at_call 29; go_must (refine (HROf.out _).mono ?_); rintro e w8 ⟨rfl, hb⟩; replace HI2 := Lib.hid ((HI2.out.below hb).more hb.size); replace HBx := Lib.hid (pt HBx.out hb); clear hb)
      | (go_at_call 30; go_must (refine (HRFor.out _).mono ?_); rintro e w9 ⟨A3, c3, rfl, hi3, hb⟩; replace HI2 := Lib.hid ((HI2.out.below hb).more hb.size); replace HBx := Lib.hid (pt HBx.out hb); clear hb; have HI3 := Lib.hid hi3; clear hi3)
      | (go_at_call 31; go_must (refine (ints_any _ A2 A3 c2 c3 L L _ HI2.out HI3.out (by omega)).mono ?_); rintro e w10 ⟨rfl, hb⟩; rw [show intsB L L = true by simp [intsB]]; replace HBx := Lib.hid (pt HBx.out hb); clear hb))
    go_ret
    exact ⟨rfl, HBx.out⟩

end Go.Proofs.Ytlgioldmjohhlaa
