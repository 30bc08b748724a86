/- Plain facts at the examples of chapter 2.
Contracts of the specification's helpers: Ints, Has, CopyInts (as for chapter 7). -/
import Derived.Test.YtnfbdkdjoekifaaGreatDoorOc4
import Derived.Test.YtnfbdkdjoekifaaGreatDoorOe1
import Derived.Test.YtnfbdkdjoekifaaGreatDoorOd5
import Derived.Deep.QuietTactic
import Derived.BigQuiet

section
namespace Go.Proofs.YtnfbdkdjoekifaaGreatDoor
open Go.RowKit

theorem open_x : openE specX 2 1 stockX = 0 := by kernel_rfl
theorem chea_x : cheaF specX 2 1 stockX (allC (slotN stockX)) = some ([0, 1], 175) := by kernel_rfl
theorem bound_x : boundV 2 1 specX [8, 0] stockX = 159 := by kernel_rfl
theorem boundE_x : boundE specX 2 1 stockX [8, 0] = 0 := by kernel_rfl
theorem part_ok {p : DPart} (h6 : p.vs.length = 6) (hp : 0 ≤ p.price ∧ p.price ≤ 1000000) (hv : ∀ x ∈ p.vs, 0 ≤ x.1 ∧ x.1 ≤ x.2 ∧ x.2 ≤ 1000000) : PartOk p := by
  refine ⟨h6, hp, fun q => ?_⟩
  unfold valP
  rcases Nat.lt_or_ge q.toNat p.vs.length with h | h
  · exact hv _ (by simp [List.getD, h])
  · have e : p.vs.getD q.toNat (0, 0) = (0, 0) := by simp [List.getD, h]
    rw [e]
    decide
theorem task_x : TaskOk specX 2 1 stockX := by
  refine ⟨⟨by decide, ?_⟩, ?_, by decide, by decide, by decide⟩
  · intro l hl
    rcases List.mem_cons.1 hl with rfl | hl
    · refine ⟨by decide, fun p hp => ?_⟩
      rcases List.mem_cons.1 hp with rfl | hp
      · exact part_ok rfl (by decide) (by decide)
      · rw [List.mem_singleton.1 hp]
        exact part_ok rfl (by decide) (by decide)
    · rw [List.mem_singleton.1 hl]
      refine ⟨by decide, fun p hp => ?_⟩
      rcases List.mem_cons.1 hp with rfl | hp
      · exact part_ok rfl (by decide) (by decide)
      · rw [List.mem_singleton.1 hp]
        exact part_ok rfl (by decide) (by decide)
  · intro r hr
    rcases List.mem_cons.1 hr with rfl | hr
    · refine ⟨⟨by decide, fun t ht => ?_⟩, by decide⟩
      rw [List.mem_singleton.1 ht]
      decide
    · rw [List.mem_singleton.1 hr]
      refine ⟨⟨by decide, fun t ht => ?_⟩, by decide⟩
      rcases List.mem_cons.1 ht with rfl | ht
      · decide
      · rw [List.mem_singleton.1 ht]
        decide
theorem small_x : SmallSlots stockX := by
  intro l hl
  rcases List.mem_cons.1 hl with rfl | hl
  · refine ⟨by decide, fun p hp => ?_⟩
    rcases List.mem_cons.1 hp with rfl | hp
    · exact Nat.le_of_ble_eq_true rfl
    · rw [List.mem_singleton.1 hp]; exact Nat.le_of_ble_eq_true rfl
  · rw [List.mem_singleton.1 hl]
    refine ⟨by decide, fun p hp => ?_⟩
    rcases List.mem_cons.1 hp with rfl | hp
    · exact Nat.le_of_ble_eq_true rfl
    · rw [List.mem_singleton.1 hp]; exact Nat.le_of_ble_eq_true rfl
theorem terms_x : ∀ r ∈ specX, r.ts.length ≤ 1000 := by
  intro r hr
  rcases List.mem_cons.1 hr with rfl | hr
  · decide
  · rw [List.mem_singleton.1 hr]; decide

end Go.Proofs.YtnfbdkdjoekifaaGreatDoor
end

section
namespace Go.Proofs.YtnfbdkdjoekifaaGreatDoor
open Go.RowKit

def hasB (xs : List Int) (x : Int) : Bool := xs.contains x
def intsB (xs ys : List Int) : Bool := decide (xs = ys)

theorem list_eq_of {α : Type} (d : α) {xs ys : List α} (hl : xs.length = ys.length) (h : ∀ j, j < xs.length → xs.getD j d = ys.getD j d) : xs = ys := by
  apply List.ext_getElem hl
  intro j h1 h2
  have := h j h1
  simpa [List.getD, h1, h2] using this

set_option maxHeartbeats 1000000 in
theorem ints_any (B : Nat) (A A2 : Option Addr) (c c2 : Nat) (xs ys : List Int) (w : World) (hr : IntsIn B w A xs) (hr2 : IntsIn B w A2 ys) (hm : xs.length ≤ 100000) :
    Calls Tryz.prog 30 #[.slice A xs.length c, .slice A2 ys.length c2] w fun e w' => e = .returned (.bool (intsB xs ys)) ∧ Below w.heap.size w w' := by
  by_cases hl : xs.length = ys.length
  · have hne : ((xs.length : Int) != (ys.length : Int)) = false := by simp [hl]
    have HL := Lib.hid hl
    have hle : xs.length ≤ ys.length := by omega
    have hge : ys.length ≤ xs.length := by omega
    have HR := Lib.hid hr
    have HR2 := Lib.hid hr2
    clear hl hr hr2
    go_enter Tryz.func30, Tryz.ntmps30
    go_wp2
    go_loopw [5] (fun i wr => ∃ k : Nat, k ≤ xs.length ∧ i = .int .i64 k ∧ (∀ j, j < k → xs.getD j 0 = ys.getD j 0) ∧ Below w.heap.size w wr ∧ IntsIn B wr A xs ∧ IntsIn B wr A2 ys) (fun i _ => xs.length - (intOf i).toNat)
    case atStart => exact ⟨0, Nat.zero_le _, rfl, fun j hj => by omega, pr, HR.out, HR2.out⟩
    case round =>
      obtain ⟨k, hk, rfl, hf, hq, hr, hr2⟩ := hrel
      by_cases hlt : k < xs.length
      · obtain ⟨b, off, rfl, hb, hc⟩ := hr.at_ hlt
        obtain ⟨b2, off2, rfl, hb2, hc2⟩ := hr2.at_ (k := k) (by omega)
        have hcell := hc k hlt
        have hcell2 := hc2 k (by omega)
        have HF := Lib.hid hf
        have HX := Lib.hid (show ∀ nq, IntsIn B (wr.drewN nq) (some ⟨b, off, none⟩) xs ∧ IntsIn B (wr.drewN nq) (some ⟨b2, off2, none⟩) ys from fun nq => ⟨hr, hr2⟩)
        have k0 : (0 : Int) ≤ (k : Int) := by omega
        have k1 : (k : Int) < (xs.length : Int) := by omega
        have k2 : (k : Int) < (ys.length : Int) := by omega
        have HX0 := Lib.hid (show ∀ e, intsB xs ys = e ↔ decide (xs = ys) = e from fun _ => Iff.rfl)
        clear hc hc2 hf hr hr2
        by_cases hxy : xs.getD k 0 = ys.getD k 0
        · have HXY := Lib.hid hxy
          have hbf : (xs.getD k 0 != ys.getD k 0) = false := by rw [hxy]; exact bne_self_eq_false _
          clear hxy
          generalize hx : xs.getD k 0 = x at *
          generalize hy : ys.getD k 0 = y at *
          have HXx := Lib.hid hx
          have HYy := Lib.hid hy
          clear hx hy
          go_wp2
          go_quiet (fail)
          go_wp2
          go_roundw
          case rel => exact ⟨k + 1, by omega, by go_num, fun j hj => by
            rcases Nat.lt_or_ge j k with h | h
            · exact HF.out j h
            · obtain rfl : j = k := by omega
              rw [HXx.out, HYy.out, HXY.out], hq.trans (below_drewN' (Below.refl _ _) _), (HX.out _).1, (HX.out _).2⟩
          case measure => simp [intOf]; omega
        · have HN := Lib.hid (show intsB xs ys = false from decide_eq_false fun e => hxy (by rw [e]))
          have hbt : (xs.getD k 0 != ys.getD k 0) = true := by simpa using hxy
          clear hxy
          generalize xs.getD k 0 = x at *
          generalize ys.getD k 0 = y at *
          go_wp2
          go_quiet (fail)
          go_wp2
          go_ret
          exact ⟨ret_bool HN.out.symm, hq.trans (below_drewN' (Below.refl _ _) _)⟩
      · have HN := Lib.hid (show intsB xs ys = true from decide_eq_true (list_eq_of 0 HL.out fun j hj => hf j (by omega)))
        clear hf
        go_wp2
        go_ret
        exact ⟨ret_bool HN.out.symm, hq⟩
  · have hne : ((xs.length : Int) != (ys.length : Int)) = true := by simp; omega
    have HN := Lib.hid (show intsB xs ys = false from decide_eq_false fun e => hl (by rw [e]))
    clear hl
    go_enter Tryz.func30, Tryz.ntmps30
    go_wp2
    go_ret
    exact ⟨ret_bool HN.out.symm, pr⟩

end Go.Proofs.YtnfbdkdjoekifaaGreatDoor
end
