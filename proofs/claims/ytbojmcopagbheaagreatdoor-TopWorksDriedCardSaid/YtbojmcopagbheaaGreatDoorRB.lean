/- Contracts: whether a task starts before another one that it needs has ended; a slice looked through with that. Valid plans, starts in range.
Contract: the error of the start of a task. Valid plans, starts in range.
Contracts: the program's check, CheckSchedule and EndOf. Plans whose lists are short.
Contract: the specification's dependsOn: a list that has just the numbers of the program's bits. Plans whose lists are right.
Contracts: the specification's CheckPlan and PlanErr, and the program's CheckPlan, over the same value. -/
import Derived.Test.YtbojmcopagbheaaGreatDoorXBest
import Derived.Test.YtbojmcopagbheaaGreatDoorP4Dep
import Derived.Test.YtbojmcopagbheaaGreatDoorQ8
import Derived.Test.YtbojmcopagbheaaGreatDoorZDSets
import Derived.Deep.QuietTactic
import Derived.BigQuiet
import Derived.Test.YtbojmcopagbheaaGreatDoorRE

section
namespace Go.Proofs.YtbojmcopagbheaaGreatDoor
open Go.RowKit

def endAt (ts : List Task) (ss : List Int) (n : Nat) : Int := ss.getD n 0 + (ts.getD n default).length
def earlyB (ts : List Task) (ss : List Int) (i : Nat) (n : Int) : Bool := decide (ss.getD i 0 < endAt ts ss n.toNat)
def busyB (ts : List Task) (ss : List Int) (i k : Nat) : Bool := decide ((ts.getD k default).machine = (ts.getD i default).machine) && (decide (ss.getD k 0 < endAt ts ss i) && decide (ss.getD i 0 < endAt ts ss k))
def anyBusy (ts : List Task) (ss : List Int) (i k : Nat) : Bool := (List.range k).any (busyB ts ss i)
def startE (ts : List Task) (ss : List Int) (i : Nat) : Int := firstV [unlessV (decide ((ts.getD i default).release ≤ ss.getD i 0)) 22, unlessV (!anyB (earlyB ts ss i) (afterOf ts i)) 9, unlessV (!anyBusy ts ss i i) 17]
theorem anyBusy_succ (ts : List Task) (ss : List Int) (i k : Nat) : anyBusy ts ss i (k + 1) = (anyBusy ts ss i k || busyB ts ss i k) := by
  unfold anyBusy
  rw [List.range_succ, List.any_append]
  simp

/-- Starts lie in their range. -/
def StartsOk (ts : List Task) (ss : List Int) : Prop := ss.length = ts.length ∧ ∀ j, j < ss.length → 0 ≤ ss.getD j 0 ∧ ss.getD j 0 ≤ 700000

end Go.Proofs.YtbojmcopagbheaaGreatDoor
end

section
namespace Go.Proofs.YtbojmcopagbheaaGreatDoor
open Go.RowKit

end Go.Proofs.YtbojmcopagbheaaGreatDoor
end

section
namespace Go.Proofs.YtbojmcopagbheaaGreatDoor
open Go.RowKit

def rngE (ss : List Int) (i : Nat) : Int := unlessV (withinB (ss.getD i 0) 0 700000) 2
def schedV (ts : List Task) (ss : List Int) : Nat × Int :=
  if ss.length ≠ ts.length then (0, 10)
  else if (scan (rngE ss) ss.length 0).2 ≠ 0 then scan (rngE ss) ss.length 0
  else scan (startE ts ss) ss.length 0
def outB (x : Int) : Bool := !withinB x 0 700000

theorem rng_find (ss : List Int) : ∀ (d k : Nat), ss.length - k = d → (findFrom outB ss k = -1 ∧ scan (rngE ss) ss.length k = (0, 0)) ∨ ∃ i : Nat, findFrom outB ss k = (i : Int) ∧ scan (rngE ss) ss.length k = (i, 2)
  | 0, k, hd => .inl ⟨findFrom_end _ _ _ (by omega), scan_end (by omega)⟩
  | d + 1, k, hd => by
    have hk : k < ss.length := by omega
    rw [findFrom_step outB ss k hk, scan_step hk]
    have hr : rngE ss k = if outB (ss.getD k 0) = true then 2 else 0 := by
      unfold rngE outB unlessV
      cases withinB (ss.getD k 0) 0 700000 <;> rfl
    by_cases h : outB (ss.getD k 0) = true
    · rw [if_pos h]
      refine .inr ⟨k, rfl, ?_⟩
      rw [hr, if_pos h, if_neg (by decide)]
    · rw [if_neg h]
      have h0 : rngE ss k = 0 := by rw [hr, if_neg h]
      rw [if_pos h0]
      exact rng_find ss d (k + 1) (by omega)
theorem rng_ok {ss : List Int} (h : (scan (rngE ss) ss.length 0).2 = 0) : ∀ j, j < ss.length → 0 ≤ ss.getD j 0 ∧ ss.getD j 0 ≤ 700000 := fun j hj => by
  have h1 := scan_zero h j hj
  have h2 := (unless_ne (by decide)).1 h1
  simp only [withinB, Bool.and_eq_true, decide_eq_true_eq] at h2
  exact h2

end Go.Proofs.YtbojmcopagbheaaGreatDoor
end

section
namespace Go.Proofs.YtbojmcopagbheaaGreatDoor
open Go.RowKit

/-- A list of numbers that has just the tasks on which a task depends. -/
def DepRet (ts : List Task) (task : Nat) (w : World) (e : Ending) (w' : World) : Prop :=
  ∃ A c out, e = .returned (.slice A (List.length (α := Int) out) c) ∧ IntsIn w'.heap.size w' A out ∧ out.length ≤ 14 ∧ (∀ x : Nat, hasB out (x : Int) = (needsV ts task).testBit x) ∧ Below w.heap.size w w'

end Go.Proofs.YtbojmcopagbheaaGreatDoor
end

section
namespace Go.Proofs.YtbojmcopagbheaaGreatDoor
open Go.RowKit

theorem anyB_step (p : Int → Bool) (xs : List Int) (k : Nat) (h : k < xs.length) : anyB p (xs.drop k) = if p (xs.getD k 0) = true then true else anyB p (xs.drop (k + 1)) := by
  have e : xs.getD k 0 = xs[k] := by simp [List.getD, h]
  rw [List.drop_eq_getElem_cons h, e]
  unfold anyB
  rw [List.any_cons]
  cases p xs[k] <;> simp



end Go.Proofs.YtbojmcopagbheaaGreatDoor
end
