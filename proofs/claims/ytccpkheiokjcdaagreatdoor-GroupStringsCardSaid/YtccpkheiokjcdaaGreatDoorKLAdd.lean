/- Strings added; how long a numeral is; numbers of an int64. -/
import Derived.Test.YtccpkheiokjcdaaGreatDoorO4
import Derived.Laws.Concat
namespace Go.Proofs.YtccpkheiokjcdaaGreatDoor
open Go.RowKit

theorem add_list (a b : List UInt8) (h : a.length + b.length ≤ 1000) (w : World) : (Op.stringOp .add ⟨a.toArray⟩ ⟨b.toArray⟩).run Tryz.prog w = .ok (.string ⟨(a ++ b).toArray⟩) w := by
  have e : (⟨a.toArray⟩ : ByteArray) ++ (⟨b.toArray⟩ : ByteArray) = ⟨(a ++ b).toArray⟩ := by
    apply ByteArray.ext
    simp
  rw [← e]
  exact run_string_add_sum (P := Tryz.prog) w _ _ (by rw [bsize, bsize]; omega)
theorem itoa_len {k : Int} (h0 : -9223372036854775808 ≤ k) (h1 : k ≤ 9223372036854775807) : (Lib.itoa k).length ≤ 21 := by
  have h := digits_len k.natAbs 20 (by decide) (by have : (10 : Nat) ^ 20 = 100000000000000000000 := by decide
                                                   omega)
  unfold Lib.itoa
  split
  · simp; omega
  · have e : k.toNat = k.natAbs := by omega
    rw [e]
    omega
def I64 (k : Int) : Prop := -9223372036854775808 ≤ k ∧ k ≤ 9223372036854775807

end Go.Proofs.YtccpkheiokjcdaaGreatDoor
