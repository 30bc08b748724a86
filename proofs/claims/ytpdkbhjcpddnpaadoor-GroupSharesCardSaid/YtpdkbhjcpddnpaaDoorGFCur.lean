/- Contracts: the error of a phasor, of a fraction; picking a part; the currents of the document's example (two sources of 12 volts, impedances 1 and 2, a load of 3). -/
import Derived.Test.YtpdkbhjcpddnpaaDoorG9Num
import Derived.Test.YtpdkbhjcpddnpaaDoorGALines
namespace Go.Proofs.YtpdkbhjcpddnpaaDoor
open Go.RowKit
attribute [local go_sem ↓] Go.wp_at_zero Go.wp_at_succ

def phE (p q : Int) : Int := unlessV (withinB p (-1000000) 1000000 && withinB q (-1000000) 1000000) 2
theorem phE_sm {p q : Int} (h : phE p q = 0) : Sm 1000000 p ∧ Sm 1000000 q := by
  have h1 := (unless_ne (by decide)).1 h
  simp only [withinB, Bool.and_eq_true, decide_eq_true_eq] at h1
  exact ⟨h1.1, h1.2⟩
theorem phE_cases (p q : Int) : (phE p q = 0) ∨ (phE p q = 2 ∧ (phE p q == 0) = false) := by
  unfold phE
  cases withinB p (-1000000) 1000000 && withinB q (-1000000) 1000000 <;> simp [unlessV]

set_option maxHeartbeats 1000000 in
theorem phasorErr_any (p q : Int) (w : World) :
    Calls Tryd.prog 42 #[.agg #[.int .i64 p, .int .i64 q]] w fun e w' => e = .returned (.int .i64 (phE p q)) ∧ Below w.heap.size w w' := by
  have c1 := fun w => small_any p 1000000 (by decide) (by decide) w
  have c2 := fun w => small_any q 1000000 (by decide) (by decide) w
  have hv : unlessV (withinB p (-1000000) 1000000 && withinB q (-1000000) 1000000) 2 = phE p q := rfl
  generalize phE p q = E at *
  have C1 := Lib.hid c1
  have C2 := Lib.hid c2
  clear c1 c2
  generalize withinB p (-1000000) 1000000 = a at *
  generalize withinB q (-1000000) 1000000 = b at *
  cases a
  all_goals
    simp only [Bool.false_and, Bool.true_and] at hv
    subst hv
    go_enter Tryd.func42, Tryd.ntmps42
    go_wp2_with (first
      | (go_at_call 25; (first | (with_reducible refine (C1.out _).mono ?_) | (with_reducible refine (C2.out _).mono ?_)); rintro e w' ⟨rfl, rfl⟩)
      | (go_at_call 27; refine (unless_any _ _ _).mono ?_; rintro e w' ⟨rfl, rfl⟩))
    go_ret
    exact ⟨rfl, pa pr⟩

theorem part_1 (p q : Int) (w : World) :
    Calls Tryd.prog 44 #[.agg #[.int .i64 p, .int .i64 q]] w fun e w' => e = .returned (.int .i64 p) ∧ Below w.heap.size w w' := by
  go_enter Tryd.func44, Tryd.ntmps44
  go_wp2
  go_ret
  exact ⟨rfl, pa pr⟩
theorem part_3 (p q : Int) (w : World) :
    Calls Tryd.prog 46 #[.agg #[.int .i64 p, .int .i64 q]] w fun e w' => e = .returned (.int .i64 q) ∧ Below w.heap.size w w' := by
  go_enter Tryd.func46, Tryd.ntmps46
  go_wp2
  go_ret
  exact ⟨rfl, pa pr⟩
theorem part_2 (b o : Nat) (w : World) :
    Calls Tryd.prog 45 #[.pointer (some ⟨b, o, none⟩)] w fun e w' => e = .returned (.pointer (some ⟨b, o + 0, none⟩)) ∧ w = w' := by
  go_enter Tryd.func45, Tryd.ntmps45
  go_wp2
  go_ret
  exact ⟨rfl, rfl⟩
theorem part_4 (b o : Nat) (w : World) :
    Calls Tryd.prog 47 #[.pointer (some ⟨b, o, none⟩)] w fun e w' => e = .returned (.pointer (some ⟨b, o + 2, none⟩)) ∧ w = w' := by
  go_enter Tryd.func47, Tryd.ntmps47
  go_wp2
  go_ret
  exact ⟨rfl, rfl⟩

def partsV : Value := .agg #[.func (.func 44) #[] #[], .func (.func 45) #[] #[], .func (.func 46) #[] #[], .func (.func 47) #[] #[]]
theorem parts_size : (Tryd.prog.info? 69).map (·.size) = some 4 := by kernel_rfl
theorem part_size : (Tryd.prog.info? 68).map (·.size) = some 2 := by kernel_rfl
theorem parts_any (w : World) :
    Calls Tryd.prog 22 #[] w fun e w' => e = .returned (.agg #[.func (.func 44) #[] #[], .func (.func 45) #[] #[], .func (.func 46) #[] #[], .func (.func 47) #[] #[]]) ∧ Below w.heap.size w w' := by
  have R0 : Blk (w.alloc (.cells #[.nilFunc, .nilFunc, .nilFunc, .nilFunc] 69)) w.heap.size 69 #[.nilFunc, .nilFunc, .nilFunc, .nilFunc] := Blk.new _ _ _
  have S0 : Below w.heap.size w (w.alloc (.cells #[.nilFunc, .nilFunc, .nilFunc, .nilFunc] 69)) := pa pr
  go_enter Tryd.func22, Tryd.ntmps22
  go_wp2_with ((with_reducible refine store_blk (T := 69) (x := .tmp 0) (y := .tmp 3) (vs := #[.func (.func 44) #[] #[], .func (.func 45) #[] #[], .func (.func 46) #[] #[], .func (.func 47) #[] #[]]) R0 ?_ ?_ ?_ ?_ ?_ ?_); (focus rfl); (focus exact parts_size); (focus (simp [Value.oneCell']; done)); (focus rfl); (focus rfl); intro WF RF PF)
  have g0 := RF.cellAt 0 rfl
  have g1 := RF.cellAt 1 rfl
  have g2 := RF.cellAt 2 rfl
  have g3 := RF.cellAt 3 rfl
  exact bodyPost_ret (v := .agg #[.func (.func 44) #[] #[], .func (.func 45) #[] #[], .func (.func 46) #[] #[], .func (.func 47) #[] #[]]) (by simp [results, Tryd.results22, go_sem, g0, g1, g2, g3]) rfl ⟨rfl, pp S0 PF (by omega)⟩

def lowestB (n d : Int) : Bool := decide (0 < d) && decide (gcdI n d = 1)
set_option maxHeartbeats 1000000 in
theorem isLowest_any (n d : Int) (hn : Sm 4000000000000000000 n) (hd : Sm 4000000000000000000 d) (w : World) :
    Calls Tryd.prog 43 #[.agg #[.int .i64 n, .int .i64 d]] w fun e w' => e = .returned (.bool (lowestB n d)) ∧ Below w.heap.size w w' := by
  have HD := Lib.hid (divisor_any n d hn hd)
  have hv : lowestB n d = (decide (0 < d) && decide (gcdI n d = 1)) := rfl
  generalize lowestB n d = X at *
  generalize gcdI n d = g at *
  clear hn hd
  by_cases h : 0 < d
  · have HV := Lib.hid (show X = decide (g = 1) by rw [hv]; simp [h])
    clear hv
    go_enter Tryd.func43, Tryd.ntmps43
    go_wp2_with (go_at_call 48; refine (HD.out _).mono ?_; rintro e w1 ⟨rfl, hb1⟩)
    go_ret
    refine ⟨ret_bool ?_, pt (pa pr) hb1⟩
    rw [HV.out]
    first | rfl | (by_cases hg : g = 1 <;> simp [hg])
  · have HV := Lib.hid (show X = false by rw [hv]; simp [h])
    clear hv
    go_enter Tryd.func43, Tryd.ntmps43
    go_wp2
    go_ret
    exact ⟨ret_bool HV.out.symm, pa pr⟩

end Go.Proofs.YtpdkbhjcpddnpaaDoor
