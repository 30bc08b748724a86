/- A range over a function whose iterator stores into memory of its own between two rounds (G: its blocks): the round is told what holds of what it is handed. Turned from ARange's law. No condition. -/
import Derived.Test.YtapegimghfflhaaM8

section
namespace Go.Proofs.Ytapegimghfflhaa
open Go.RowKit Go.Shelf
variable {P : Program}

/-- Closed under what the iterator does: its own blocks, its walks, new blocks. -/
def AbidesG {β : Type} (B : Nat) (G : Nat → Prop) (J : β → World → Prop) : Prop :=
  ∀ s W W' row, J s W → W.grownBy W' row → (∀ r, row = some r → G r ∨ (B ≤ r ∧ ∃ o : Obj, W.heap[r]? = some o ∧ o.isWalk = true)) → J s W'
def OwnG {β : Type} (B : Nat) (G : Nat → Prop) (I : β → World → Prop) : Prop :=
  ∀ s W W' row, I s W → W.grownBy W' row → (∀ r, row = some r → G r ∨ (B ≤ r ∧ ∃ o : Obj, W.heap[r]? = some o ∧ o.isCells = false)) → I s W'
/-- The iterator's word: J holds between two rounds, what has come being pre; Pr of what a round is handed; Kp of a round that goes on. -/
def SeqG {α : Type} (n : Nat) (P : Program) (g : Nat) (fb lb : Array Value) (encs : α → Array Value) (Pr : (Nat → Prop) → α → World → Prop) (Kp : (Nat → Prop) → World → World → World → Prop) (S Sp : List α → Prop) (N : Nat) (w : World) : Prop :=
  ∀ (l : Nat) (J Jx : (Nat → Prop) → List α → World → Prop) (W : World), Below w.heap.size w W → (∀ G, (∀ k, G k → W.heap.size ≤ k) → AbidesG W.heap.size G (J G)) → (∀ G, (∀ k, G k → W.heap.size ≤ k) → AbidesFrom W.heap.size (Jx G)) →
    (∀ G, (∀ k, G k → W.heap.size ≤ k) → ∀ pre x W1, J G pre W1 → Pr G x W1 → pre.length < N → YieldAt Fence.wide (n - 1) P l (encs x) W1 fun e W' =>
      (e = .returned (.bool true) ∧ J G (pre ++ [x]) W' ∧ Kp G W W1 W') ∨ (e = .returned (.bool false) ∧ Jx G (pre ++ [x]) W')) →
    (∀ G, (∀ k, G k → W.heap.size ≤ k) → J G [] W) →
    CallsIn Fence.wide n P g (fb ++ #[.func (.yield l) #[] #[]] ++ lb) W fun e W' => (∃ v, e = .returned v) ∧ ∃ G : Nat → Prop, (∀ k, G k → W.heap.size ≤ k) ∧ ((∃ xs, S xs ∧ J G xs W') ∨ (∃ pre, Sp pre ∧ Jx G pre W'))

end Go.Proofs.Ytapegimghfflhaa
end
