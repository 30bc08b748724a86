/- Plain facts at the examples of chapter 2. -/
import Derived.Test.YtnfbdkdjoekifaaGreatDoorOc4
import Derived.Test.YtnfbdkdjoekifaaGreatDoorOe1

section
namespace Go.Proofs.YtnfbdkdjoekifaaGreatDoor
open Go.RowKit

theorem open_x : openE specX 2 1 stockX = 0 := by kernel_rfl
theorem chea_x : cheaF specX 2 1 stockX (allC (slotN stockX)) = some ([0, 1], 175) := by kernel_rfl
theorem bound_x : boundV 2 1 specX [8, 0] stockX = 159 := by kernel_rfl
theorem boundE_x : boundE specX 2 1 stockX [8, 0] = 0 := by kernel_rfl
theorem part_ok {p : DPart} (h6 : p.vs.length = 6) (hp : 0 ≤ p.price ∧ p.price ≤ 1000000) (hv : ∀ x ∈ p.vs, 0 ≤ x.1 ∧ x.1 ≤ x.2 ∧ x.2 ≤ 1000000) : PartOk p := by
  refine ⟨h6, hp, fun q => ?_⟩
  unfold valP
  rcases Nat.lt_or_ge q.toNat p.vs.length with h | h
  · exact hv _ (by simp [List.getD, h])
  · have e : p.vs.getD q.toNat (0, 0) = (0, 0) := by simp [List.getD, h]
    rw [e]
    decide
theorem task_x : TaskOk specX 2 1 stockX := by
  refine ⟨⟨by decide, ?_⟩, ?_, by decide, by decide, by decide⟩
  · intro l hl
    rcases List.mem_cons.1 hl with rfl | hl
    · refine ⟨by decide, fun p hp => ?_⟩
      rcases List.mem_cons.1 hp with rfl | hp
      · exact part_ok rfl (by decide) (by decide)
      · rw [List.mem_singleton.1 hp]
        exact part_ok rfl (by decide) (by decide)
    · rw [List.mem_singleton.1 hl]
      refine ⟨by decide, fun p hp => ?_⟩
      rcases List.mem_cons.1 hp with rfl | hp
      · exact part_ok rfl (by decide) (by decide)
      · rw [List.mem_singleton.1 hp]
        exact part_ok rfl (by decide) (by decide)
  · intro r hr
    rcases List.mem_cons.1 hr with rfl | hr
    · refine ⟨⟨by decide, fun t ht => ?_⟩, by decide⟩
      rw [List.mem_singleton.1 ht]
      decide
    · rw [List.mem_singleton.1 hr]
      refine ⟨⟨by decide, fun t ht => ?_⟩, by decide⟩
      rcases List.mem_cons.1 ht with rfl | ht
      · decide
      · rw [List.mem_singleton.1 ht]
        decide
theorem small_x : SmallSlots stockX := by
  intro l hl
  rcases List.mem_cons.1 hl with rfl | hl
  · refine ⟨by decide, fun p hp => ?_⟩
    rcases List.mem_cons.1 hp with rfl | hp
    · exact Nat.le_of_ble_eq_true rfl
    · rw [List.mem_singleton.1 hp]; exact Nat.le_of_ble_eq_true rfl
  · rw [List.mem_singleton.1 hl]
    refine ⟨by decide, fun p hp => ?_⟩
    rcases List.mem_cons.1 hp with rfl | hp
    · exact Nat.le_of_ble_eq_true rfl
    · rw [List.mem_singleton.1 hp]; exact Nat.le_of_ble_eq_true rfl
theorem terms_x : ∀ r ∈ specX, r.ts.length ≤ 1000 := by
  intro r hr
  rcases List.mem_cons.1 hr with rfl | hr
  · decide
  · rw [List.mem_singleton.1 hr]; decide

end Go.Proofs.YtnfbdkdjoekifaaGreatDoor
end
