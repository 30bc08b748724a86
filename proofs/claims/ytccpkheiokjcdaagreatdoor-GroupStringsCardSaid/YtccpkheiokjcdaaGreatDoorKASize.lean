/- Contract: the specification's Size of a number. (XGSHours has it too, for the seats that have hours.) -/
import Derived.Test.YtccpkheiokjcdaaGreatDoorO3
namespace Go.Proofs.YtccpkheiokjcdaaGreatDoor
open Go.RowKit

theorem sizeS_any (n : Int) (hn : Sm 4000000000000000000 n) (w : World) :
    Calls Tryz.prog 57 #[.int .i64 n] w fun e w' => e = .returned (.int .i64 (n.natAbs : Int)) ∧ w = w' := by
  unfold Sm at hn
  go_enter Tryz.func57, Tryz.ntmps57
  go_wp2
  all_goals
    go_ret
    exact ⟨ret_int (by first | omega | (split <;> omega)), rfl⟩

end Go.Proofs.YtccpkheiokjcdaaGreatDoor
