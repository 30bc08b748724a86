/- Contract: the specification's Size of a number, for a seat of the works. -/
import Derived.Test.YtbojmcopagbheaaGreatDoorQ1
namespace Go.Proofs.YtbojmcopagbheaaGreatDoor
open Go.RowKit

def Sm (m n : Int) : Prop := -m ≤ n ∧ n ≤ m
theorem sizeS_any (n : Int) (hn : Sm 4000000000000000000 n) (w : World) :
    Calls Tryz.prog 111 #[.int .i64 n] w fun e w' => e = .returned (.int .i64 (n.natAbs : Int)) ∧ w = w' := by
  unfold Sm at hn
  go_enter Tryz.func111, Tryz.ntmps111
  go_wp2
  all_goals
    go_ret
    exact ⟨ret_int (by first | omega | (split <;> omega)), rfl⟩

end Go.Proofs.YtbojmcopagbheaaGreatDoor
