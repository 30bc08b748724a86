/- Plain facts for the specification's Cut. -/
import Derived.Test.YtccpkheiokjcdaaGreatDoorO4
namespace Go.Proofs.YtccpkheiokjcdaaGreatDoor
open Go.Lib

/-- What stands ahead is put to the first piece. -/
def addHead (x : List UInt8) : List (List UInt8) → List (List UInt8)
  | [] => [x]
  | y :: r => (x ++ y) :: r
theorem splitL_ne {c : UInt8} : ∀ l : List UInt8, splitL c l ≠ []
  | [] => by simp [splitL]
  | b :: l => by
    rw [splitL]
    split
    · simp
    · split <;> simp
theorem splitL_cons {c b : UInt8} {l : List UInt8} (h : b ≠ c) : splitL c (b :: l) = addHead [b] (splitL c l) := by
  rw [splitL, if_neg h]
  cases hs : splitL c l with
  | nil => exact absurd hs (splitL_ne l)
  | cons x r => rfl
theorem addHead_add (x y : List UInt8) (s : List (List UInt8)) : addHead x (addHead y s) = addHead (x ++ y) s := by
  cases s <;> simp [addHead]
theorem addHead_nil {s : List (List UInt8)} (h : s ≠ []) : addHead [] s = s := by
  cases s with
  | nil => exact absurd rfl h
  | cons => rfl
/-- A step over the byte itself: the piece is done. -/
theorem cut_hit {c : UInt8} {l x : List UInt8} : addHead x (splitL c (c :: l)) = x :: splitL c l := by
  rw [splitL, if_pos rfl]
  simp [addHead]
theorem cut_on {c b : UInt8} {l x : List UInt8} (h : b ≠ c) : addHead x (splitL c (b :: l)) = addHead (x ++ [b]) (splitL c l) := by
  rw [splitL_cons h, addHead_add]
theorem splitL_len {c : UInt8} : ∀ l : List UInt8, (splitL c l).length ≤ l.length + 1
  | [] => by simp [splitL]
  | b :: l => by
    have := splitL_len (c := c) l
    rw [splitL]
    split
    · simp; omega
    · split
      · simp
      · rename_i h
        rw [h] at this
        simp at this ⊢
        omega
theorem piece_on {l : List UInt8} {f i : Nat} (hf : f ≤ i) (hi : i < l.length) : (l.drop f).take (i - f) ++ [l.getD i 0] = (l.drop f).take (i + 1 - f) := by
  rw [show i + 1 - f = (i - f) + 1 by omega, List.take_add_one]
  congr 1
  rw [List.getElem?_drop, show f + (i - f) = i by omega, List.getD_eq_getElem?_getD, List.getElem?_eq_getElem hi]
  rfl
theorem extract_list (l : List UInt8) (a b : Nat) : (⟨l.toArray⟩ : ByteArray).extract a b = ⟨((l.drop a).take (b - a)).toArray⟩ := Go.ByteArray.extract_mk l a b

end Go.Proofs.YtccpkheiokjcdaaGreatDoor
