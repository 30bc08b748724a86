/- Contracts of the specification on phasors: errors, products, squares, hours. -/
import Derived.Test.YtpdkbhjcpddnpaaDoorGRExp
import Derived.Deep.QuietTactic
import Derived.BigQuiet
namespace Go.Proofs.YtpdkbhjcpddnpaaDoor
open Go.RowKit
attribute [local go_sem ↓] Go.wp_at_zero Go.wp_at_succ
attribute [local go_sem ↓ high] apiph_eql apiph_neq ph_eql

set_option maxHeartbeats 1000000 in
theorem refPhasorErr_any (p q : Int) (w : World) :
    Calls Tryd.prog 6 #[.agg #[.int .i64 p, .int .i64 q]] w fun e w' => e = .returned (.int .i64 (phE p q)) ∧ Below w.heap.size w w' := by
  have C1 := Lib.hid (fun w => refWithin_any p (-1000000) 1000000 w)
  have C2 := Lib.hid (fun w => refWithin_any q (-1000000) 1000000 w)
  have hv : unlessV (withinB p (-1000000) 1000000 && withinB q (-1000000) 1000000) 2 = phE p q := rfl
  generalize phE p q = E at *
  generalize withinB p (-1000000) 1000000 = a at *
  generalize withinB q (-1000000) 1000000 = b at *
  cases a <;> cases b
  all_goals
    simp only [Bool.false_and, Bool.true_and] at hv
    subst hv
    go_enter Tryd.func6, Tryd.ntmps6
    go_wp2_with (go_at_call 13; (first | (with_reducible refine (C1.out _).mono ?_) | (with_reducible refine (C2.out _).mono ?_)); rintro e w' ⟨rfl, rfl⟩)
    go_ret
    exact ⟨rfl, pa pr⟩

theorem size_any (n : Int) (hn : Sm 4000000000000000000 n) (w : World) :
    Calls Tryd.prog 54 #[.int .i64 n] w fun e w' => e = .returned (.int .i64 (n.natAbs : Int)) ∧ w = w' := by
  unfold Sm at hn
  go_enter Tryd.func54, Tryd.ntmps54
  go_wp2
  all_goals
    go_ret
    exact ⟨ret_int (by first | omega | (split <;> omega)), rfl⟩

/-! Hours in the upper half. -/
def upRes : Option Int → Value
  | some h => .tuple #[.int .i64 h, .int .i64 0]
  | none => .tuple #[.int .i64 0, .int .i64 12]
theorem upV_down {p q : Int} (hd : q < 0 ∨ (q = 0 ∧ p < 0)) : upV p q = none := by
  unfold upV
  rw [if_neg (by omega), if_neg (by omega), if_neg (by omega), if_neg (by omega), if_neg (by omega), if_neg (by omega)]

def hoursE (p q : Int) : Int := if p = 0 ∧ q = 0 then 11 else if (hoursV p q).isSome then 0 else 12
end Go.Proofs.YtpdkbhjcpddnpaaDoor
