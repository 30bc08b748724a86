/- Contracts: MarginsOf, Meets (the specification of chapter 2), base.Ranges. Printed by a program (gen_d8rmar.py).
The law DesignChoices: the walk. Printed by a program (gen_d8law.py). -/
import Derived.Test.YtnfbdkdjoekifaaGreatDoorOn4
import Derived.Test.YtnfbdkdjoekifaaGreatDoorOn5
import Derived.Test.YtnfbdkdjoekifaaGreatDoorOg3
import Derived.Test.YtnfbdkdjoekifaaGreatDoorOn1
import Derived.Test.YtnfbdkdjoekifaaGreatDoorOn2
import Derived.Deep.RegionHeld3

section
namespace Go.Proofs.YtnfbdkdjoekifaaGreatDoor
open Go.RowKit

/-- Ranges of the callee's own. -/
def RngsRet (w : World) (L : List (Int × Int)) (e : Ending) (w' : World) : Prop := ∃ A c, e = .returned (.slice A L.length c) ∧ CellsIn w'.heap.size w' A (rangesC L) ∧ Below w.heap.size w w'
theorem rng_at {B : Nat} {w : World} {A : Option Addr} {L : List (Int × Int)} {k : Nat} (h : CellsIn B w A (rangesC L)) (hk : k < L.length) : ∃ b off, A = some ⟨b, off, none⟩ ∧ b < B ∧ ∀ i, i < L.length → w.cell? ⟨b, off + i * 2, none⟩ = some (.int .i64 (L.getD i default).1) ∧ w.cell? ⟨b, off + i * 2 + 1, none⟩ = some (.int .i64 (L.getD i default).2) := by
  obtain ⟨b, off, hA, hb, hc⟩ := h.elem rng_len hk (by decide)
  exact ⟨b, off, hA, hb, fun i hi => ⟨hc i hi 0 (by decide), hc i hi 1 (by decide)⟩⟩
end Go.Proofs.YtnfbdkdjoekifaaGreatDoor
end

section
namespace Go.Proofs.YtnfbdkdjoekifaaGreatDoor
open Go.RowKit
attribute [local go_sem high] vals_eqlIn

theorem copy_formC {ws : List Int} {W : World} {e : Ending} {w' : World} (h : RowRet W ws e w') : ∃ A c, e = .returned (.slice A ws.length c) ∧ IntsIn w'.heap.size w' A ws ∧ Below W.heap.size W w' := by
  obtain ⟨v, rfl, ho, hb⟩ := h
  obtain ⟨A, c, rfl, _, _⟩ := own_form ho
  exact ⟨A, c, rfl, intsIn_of_own ho, hb⟩
theorem few_bd2 {rs : List DReq} {sl : List (List DPart)} (h : FewP rs sl) : rs.length ≤ 8 ∧ (∀ r ∈ rs, r.ts.length ≤ 1000) ∧ sl.length ≤ 7 ∧ SmallSlots sl := by
  obtain ⟨h1, h2, h3, h4⟩ := h
  refine ⟨h1, fun r hr => ?_, h2, fun l hl => ?_⟩
  · obtain ⟨i, hi, he⟩ := mem_getD hr
    have h5 := h3 i hi
    rw [he] at h5
    omega
  · obtain ⟨i, hi, he⟩ := mem_getD hl
    have hd : sl.getD i default = sl.getD i [] := rfl
    rw [hd] at he
    obtain ⟨h5, h6⟩ := h4 i hi
    rw [he] at h5 h6
    refine ⟨by omega, fun q hq => ?_⟩
    obtain ⟨k, hk, he2⟩ := mem_getD hq
    have h7 := h6 k hk
    rw [he2] at h7
    exact Nat.le_trans h7 (by decide)
end Go.Proofs.YtnfbdkdjoekifaaGreatDoor
end
