/- Plain words: the first place at which something holds, whether it holds anywhere; whether two strings are one. No program is in sight. -/
import Derived.Test.YtnfbdkdjoekifaaGreatDoorOa2
import Derived.Lib.SlicesS
import Derived.Lib.Strings
import Derived.Lib.Walk

section
namespace Go.Proofs.YtnfbdkdjoekifaaGreatDoor
open Go.RowKit

/-- The first place from k on at which p holds, or -1. -/
def findG {α : Type} (p : α → Bool) (xs : List α) (k : Nat) : Int :=
  match (xs.drop k).findIdx? p with
  | some i => ((k + i : Nat) : Int)
  | none => -1
def anyG {α : Type} (p : α → Bool) (xs : List α) : Bool := xs.any p

theorem findG_step {α : Type} (p : α → Bool) (xs : List α) (k : Nat) (d : α) (h : k < xs.length) : findG p xs k = if p (xs.getD k d) = true then (k : Int) else findG p xs (k + 1) := by
  unfold findG
  rw [List.drop_eq_getElem_cons h, List.findIdx?_cons]
  have e : xs.getD k d = xs[k] := by simp [List.getD, h]
  rw [e]
  by_cases hx : p xs[k] = true
  · simp [hx]
  · simp only [hx]
    cases (List.drop (k + 1) xs).findIdx? p with
    | none => rfl
    | some i => simp; omega
theorem findG_end {α : Type} (p : α → Bool) (xs : List α) (k : Nat) (h : xs.length ≤ k) : findG p xs k = -1 := by
  unfold findG
  rw [List.drop_eq_nil_of_le h]
  rfl
theorem findG_any {α : Type} (p : α → Bool) (xs : List α) : decide (0 ≤ findG p xs 0) = anyG p xs := by
  unfold findG anyG
  simp only [List.drop_zero]
  cases h : xs.findIdx? p with
  | none =>
    have h2 := List.findIdx?_eq_none_iff.1 h
    have h3 : xs.any p = false := by rw [List.any_eq_false]; intro x hx; simp [h2 x hx]
    simp [h3]
  | some i =>
    obtain ⟨h1, h2, _⟩ := List.findIdx?_eq_some_iff_getElem.1 h
    have h3 : xs.any p = true := by rw [List.any_eq_true]; exact ⟨xs[i], List.getElem_mem h1, h2⟩
    simp [h3]

/-- Whether two strings are one. -/
def sameS (x y : ByteArray) : Bool := x.data.toList == y.data.toList
theorem sameS_iff {x y : ByteArray} : sameS x y = true ↔ x = y := by
  unfold sameS
  rw [beq_iff_eq]
  constructor
  · intro h
    cases x with | mk x => cases y with | mk y =>
      cases x with | mk x => cases y with | mk y =>
        simp only at h
        rw [h]
  · rintro rfl; rfl
theorem sameS_list (x y : ByteArray) : sameS x y = (x.toList == y.toList) := by
  rw [Bool.eq_iff_iff, sameS_iff, Lib.bytes_beq_iff]
theorem anyG_take {α : Type} {p : α → Bool} {xs : List α} {k : Nat} (d : α) (h : k < xs.length) : anyG p (xs.take (k + 1)) = (anyG p (xs.take k) || p (xs.getD k d)) := by
  unfold anyG
  have e : xs.getD k d = xs[k] := by simp [List.getD, h]
  rw [List.take_succ_eq_append_getElem h, List.any_append, e]
  simp

end Go.Proofs.YtnfbdkdjoekifaaGreatDoor
end
