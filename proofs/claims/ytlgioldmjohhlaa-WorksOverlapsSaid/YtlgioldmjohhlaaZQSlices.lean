/- Arguments that are slices of integers, opened. -/
import Derived.Test.YtlgioldmjohhlaaZKLaw
import Derived.ChangeSlices
import Derived.Deep.AppendLies
namespace Go.Proofs.Ytlgioldmjohhlaa
open Go.ChangeShapes Go.WideShapes Go.ChangeAt Go.RowKit Go.Joins

section
variable {H : Type} {enc : TypeId × Value → H} {P : Program} {w : World} {base : Nat} {spare : Nat → Bool} {held : Bool}

theorem open_slice_ints {t e : TypeId} (ht : P.underlying t = some (.slice e)) (he : P.underlying e = some (.int .i64)) (hc : P.cellsOf e = 1) {fuel : Nat} {cs : List Value} {x : DataW H × List MemPlace} (h : DataW.trod enc P w base spare held fuel t cs = some x) :
    ∃ (A : Option Addr) (c : Nat) (xs : List Int), cs = [.slice A xs.length c] ∧ IntsIn w.heap.size w A xs ∧ xs.length ≤ c ∧ c ≤ maxLen ∧ ∀ y ∈ xs, (Lit.int .i64 y).wf = true := by
  rcases open_ints ht he hc h with ⟨hcs, _⟩ | ⟨a, len, cap, zs, hcs, _, hl, hm, hz, _, hcell, hwf⟩
  · exact ⟨none, 0, [], hcs, .inl rfl, Nat.le_refl _, by unfold maxLen; omega, fun y hy => by cases hy⟩
  · have hlen : len ≤ zs.length := by rw [hz]; split <;> omega
    have htl : (zs.take len).length = len := by rw [List.length_take]; omega
    refine ⟨some a, cap, zs.take len, by rw [hcs, htl], ?_, by omega, hm, fun y hy => hwf y (List.mem_of_mem_take hy)⟩
    rcases Nat.eq_zero_or_pos len with h0 | h0
    · exact .inl (by rw [h0]; rfl)
    · obtain ⟨b, off, rfl, hc2⟩ := ints_at hcell (by omega)
      refine .inr ⟨b, off, rfl, ?_, fun j hj => ?_⟩
      · exact World.block_lt_of_cell? w ⟨b, off + 0, none⟩ (hc2 0 (by omega))
      · rw [htl] at hj
        rw [hc2 j (by omega)]
        simp [List.getD, hj]
end

end Go.Proofs.Ytlgioldmjohhlaa
