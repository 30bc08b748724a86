/- A range over a function whose iterator hands over memory of its own: the round is told what holds of what it is handed (Pr) in the world in which it begins. Turned from the library's law for a range over a function, at the wide fence. No condition. -/
import Derived.Test.YtnfbdkdjoekifaaGreatDoorOa2
import Derived.RangeFuncNested
import Derived.RangeFuncBound
import Derived.RangeFuncCalls
import Derived.RangeFuncLeaves
import Derived.Shelf.Abstract
import Derived.Shelf.RegionOpen
import Derived.OwnWalkIn
import Derived.TacticsInMore
import Derived.LoopNIn
import Derived.LoopIn

section
namespace Go.Proofs.YtnfbdkdjoekifaaGreatDoor
open Go.RowKit Go.Shelf
variable {P : Program}

/-- The iterator's word: J holds between two rounds, what has come being pre; Pr of what a round is handed, in the world in which the round begins; Kp of a round that goes on (the world in which the loop began first). -/
def SeqP {α : Type} (n : Nat) (P : Program) (g : Nat) (fb lb : Array Value) (encs : α → Array Value) (Pr : α → World → Prop) (Kp : World → World → World → Prop) (S Sp : List α → Prop) (N : Nat) (w : World) : Prop :=
  ∀ (l : Nat) (J Jx : List α → World → Prop) (W : World), Below w.heap.size w W → AbidesFrom W.heap.size J → AbidesFrom W.heap.size Jx →
    (∀ pre x W1, J pre W1 → Pr x W1 → pre.length < N → YieldAt Fence.wide (n - 1) P l (encs x) W1 fun e W' =>
      (e = .returned (.bool true) ∧ J (pre ++ [x]) W' ∧ Kp W W1 W') ∨ (e = .returned (.bool false) ∧ Jx (pre ++ [x]) W')) →
    J [] W →
    CallsIn Fence.wide n P g (fb ++ #[.func (.yield l) #[] #[]] ++ lb) W fun e W' => (∃ v, e = .returned v) ∧ ((∃ xs, S xs ∧ J xs W') ∨ (∃ pre, Sp pre ∧ Jx pre W'))

end Go.Proofs.YtnfbdkdjoekifaaGreatDoor
end
