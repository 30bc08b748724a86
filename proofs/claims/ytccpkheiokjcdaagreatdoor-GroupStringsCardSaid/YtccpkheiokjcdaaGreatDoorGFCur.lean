/- Contracts: the error of a phasor, of a fraction; picking a part; the currents of the document's example (two sources of 12 volts, impedances 1 and 2, a load of 3). -/
import Derived.Test.YtccpkheiokjcdaaGreatDoorG9Num
import Derived.Test.YtccpkheiokjcdaaGreatDoorGALines
namespace Go.Proofs.YtccpkheiokjcdaaGreatDoor
open Go.RowKit
attribute [local go_sem ↓] Go.wp_at_zero Go.wp_at_succ

def phE (p q : Int) : Int := unlessV (withinB p (-1000000) 1000000 && withinB q (-1000000) 1000000) 2
theorem phE_sm {p q : Int} (h : phE p q = 0) : Sm 1000000 p ∧ Sm 1000000 q := by
  have h1 := (unless_ne (by decide)).1 h
  simp only [withinB, Bool.and_eq_true, decide_eq_true_eq] at h1
  exact ⟨h1.1, h1.2⟩
theorem phE_cases (p q : Int) : (phE p q = 0) ∨ (phE p q = 2 ∧ (phE p q == 0) = false) := by
  unfold phE
  cases withinB p (-1000000) 1000000 && withinB q (-1000000) 1000000 <;> simp [unlessV]

set_option maxHeartbeats 1000000 in
theorem phasorErr_any (p q : Int) (w : World) :
    Calls Tryz.prog 68 #[.agg #[.int .i64 p, .int .i64 q]] w fun e w' => e = .returned (.int .i64 (phE p q)) ∧ Below w.heap.size w w' := by
  have c1 := fun w => small_any p 1000000 (by decide) (by decide) w
  have c2 := fun w => small_any q 1000000 (by decide) (by decide) w
  have hv : unlessV (withinB p (-1000000) 1000000 && withinB q (-1000000) 1000000) 2 = phE p q := rfl
  generalize phE p q = E at *
  have C1 := Lib.hid c1
  have C2 := Lib.hid c2
  clear c1 c2
  generalize withinB p (-1000000) 1000000 = a at *
  generalize withinB q (-1000000) 1000000 = b at *
  cases a
  all_goals
    simp only [Bool.false_and, Bool.true_and] at hv
    subst hv
    go_enter Tryz.func68, Tryz.ntmps68
    go_wp2_with (first
      | (go_at_call 44; (first | (with_reducible refine (C1.out _).mono ?_) | (with_reducible refine (C2.out _).mono ?_)); rintro e w' ⟨rfl, rfl⟩)
      | (go_at_call 35; refine (unless_any _ _ _).mono ?_; rintro e w' ⟨rfl, rfl⟩))
    go_ret
    exact ⟨rfl, pa pr⟩

theorem part_1 (p q : Int) (w : World) :
    Calls Tryz.prog 70 #[.agg #[.int .i64 p, .int .i64 q]] w fun e w' => e = .returned (.int .i64 p) ∧ Below w.heap.size w w' := by
  go_enter Tryz.func70, Tryz.ntmps70
  go_wp2
  go_ret
  exact ⟨rfl, pa pr⟩
theorem part_3 (p q : Int) (w : World) :
    Calls Tryz.prog 72 #[.agg #[.int .i64 p, .int .i64 q]] w fun e w' => e = .returned (.int .i64 q) ∧ Below w.heap.size w w' := by
  go_enter Tryz.func72, Tryz.ntmps72
  go_wp2
  go_ret
  exact ⟨rfl, pa pr⟩
theorem part_2 (b o : Nat) (w : World) :
    Calls Tryz.prog 71 #[.pointer (some ⟨b, o, none⟩)] w fun e w' => e = .returned (.pointer (some ⟨b, o + 0, none⟩)) ∧ w = w' := by
  go_enter Tryz.func71, Tryz.ntmps71
  go_wp2
  go_ret
  exact ⟨rfl, rfl⟩
theorem part_4 (b o : Nat) (w : World) :
    Calls Tryz.prog 73 #[.pointer (some ⟨b, o, none⟩)] w fun e w' => e = .returned (.pointer (some ⟨b, o + 2, none⟩)) ∧ w = w' := by
  go_enter Tryz.func73, Tryz.ntmps73
  go_wp2
  go_ret
  exact ⟨rfl, rfl⟩

def partsV : Value := .agg #[.func (.func 70) #[] #[], .func (.func 71) #[] #[], .func (.func 72) #[] #[], .func (.func 73) #[] #[]]
theorem parts_size : (Tryz.prog.info? 91).map (·.size) = some 4 := by kernel_rfl
theorem part_size : (Tryz.prog.info? 90).map (·.size) = some 2 := by kernel_rfl
theorem parts_any (w : World) :
    Calls Tryz.prog 41 #[] w fun e w' => e = .returned (.agg #[.func (.func 70) #[] #[], .func (.func 71) #[] #[], .func (.func 72) #[] #[], .func (.func 73) #[] #[]]) ∧ Below w.heap.size w w' := by
  have R0 : Blk (w.alloc (.cells #[.nilFunc, .nilFunc, .nilFunc, .nilFunc] 91)) w.heap.size 91 #[.nilFunc, .nilFunc, .nilFunc, .nilFunc] := Blk.new _ _ _
  have S0 : Below w.heap.size w (w.alloc (.cells #[.nilFunc, .nilFunc, .nilFunc, .nilFunc] 91)) := pa pr
  go_enter Tryz.func41, Tryz.ntmps41
  go_wp2_with ((with_reducible refine store_blk (T := 91) (x := .tmp 0) (y := .tmp 3) (vs := #[.func (.func 70) #[] #[], .func (.func 71) #[] #[], .func (.func 72) #[] #[], .func (.func 73) #[] #[]]) R0 ?_ ?_ ?_ ?_ ?_ ?_); (focus rfl); (focus exact parts_size); (focus (simp [Value.oneCell']; done)); (focus rfl); (focus rfl); intro WF RF PF)
  have g0 := RF.cellAt 0 rfl
  have g1 := RF.cellAt 1 rfl
  have g2 := RF.cellAt 2 rfl
  have g3 := RF.cellAt 3 rfl
  exact bodyPost_ret (v := .agg #[.func (.func 70) #[] #[], .func (.func 71) #[] #[], .func (.func 72) #[] #[], .func (.func 73) #[] #[]]) (by simp [results, Tryz.results41, go_sem, g0, g1, g2, g3]) rfl ⟨rfl, pp S0 PF (by omega)⟩

def lowestB (n d : Int) : Bool := decide (0 < d) && decide (gcdI n d = 1)
set_option maxHeartbeats 1000000 in
theorem isLowest_any (n d : Int) (hn : Sm 4000000000000000000 n) (hd : Sm 4000000000000000000 d) (w : World) :
    Calls Tryz.prog 69 #[.agg #[.int .i64 n, .int .i64 d]] w fun e w' => e = .returned (.bool (lowestB n d)) ∧ Below w.heap.size w w' := by
  have HD := Lib.hid (divisor_any n d hn hd)
  have hv : lowestB n d = (decide (0 < d) && decide (gcdI n d = 1)) := rfl
  generalize lowestB n d = X at *
  generalize gcdI n d = g at *
  clear hn hd
  by_cases h : 0 < d
  · have HV := Lib.hid (show X = decide (g = 1) by rw [hv]; simp [h])
    clear hv
    go_enter Tryz.func69, Tryz.ntmps69
    go_wp2_with (go_at_call 74; refine (HD.out _).mono ?_; rintro e w1 ⟨rfl, hb1⟩)
    go_ret
    refine ⟨ret_bool ?_, pt (pa pr) hb1⟩
    rw [HV.out]
    first | rfl | (by_cases hg : g = 1 <;> simp [hg])
  · have HV := Lib.hid (show X = false by rw [hv]; simp [h])
    clear hv
    go_enter Tryz.func69, Tryz.ntmps69
    go_wp2
    go_ret
    exact ⟨ret_bool HV.out.symm, pa pr⟩

end Go.Proofs.YtccpkheiokjcdaaGreatDoor
