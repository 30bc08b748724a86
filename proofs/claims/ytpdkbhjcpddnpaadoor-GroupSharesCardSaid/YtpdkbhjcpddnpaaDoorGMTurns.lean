/- Contracts of turns: the program's and the specification's. -/
import Derived.Test.YtpdkbhjcpddnpaaDoorG9Num
import Derived.Test.YtpdkbhjcpddnpaaDoorARegionA
namespace Go.Proofs.YtpdkbhjcpddnpaaDoor
open Go.RowKit
attribute [local go_sem ↓] Go.wp_at_zero Go.wp_at_succ

theorem refMod12_any (n : Int) (_hn : Sm 1000 n) (w : World) :
    Calls Tryd.prog 12 #[.int .i64 n, .int .i64 12] w fun e w' => e = .returned (.int .i64 (n % 12)) ∧ w = w' := by
  unfold Sm at _hn
  have h1 := Int.tmod_lt_of_pos n (show (0 : Int) < 12 by decide)
  have h2 := Int.lt_tmod_of_pos n (show (0 : Int) < 12 by decide)
  have h3 : n % 12 = if n.tmod 12 < 0 then n.tmod 12 + 12 else n.tmod 12 := by
    have := Int.tmod_eq_emod (a := n) (b := 12)
    split <;> split at this <;> omega
  have hw : IntKind.i64.wrap (n.tmod 12) = n.tmod 12 := IntWalk.i64_in _ (by omega)
  have H3 := Lib.hid h3
  clear h3
  by_cases h : n.tmod 12 < 0
  all_goals
    go_enter Tryd.func12, Tryd.ntmps12
    go_wp2
    all_goals
      go_ret
      refine ⟨ret_int ?_, rfl⟩
      rw [H3.out]
      first | (rw [if_pos h]; done) | (rw [if_neg h]; done) | (rw [if_pos h]; omega) | (rw [if_neg h]; omega) | (split <;> omega)

end Go.Proofs.YtpdkbhjcpddnpaaDoor
