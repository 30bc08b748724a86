/- Contract: the examples of chapter 2 hold (designShown). Printed by a program (gen_d2shown.py). -/
import Derived.Test.YtnfbdkdjoekifaaGreatDoorOe2j

section
namespace Go.Proofs.YtnfbdkdjoekifaaGreatDoor
open Go.RowKit

theorem cheapest_x (B : Nat) (RA : Option Addr) (rc : Nat) (SA : Option Addr) (c : Nat) (w : World) (hrr : ReqsIn B w RA specX) (hr : SlotsIn B w SA stockX) (hB : B ≤ w.heap.size) (hU : UnitIn w) :
    Calls Tryz.prog 10 #[.agg #[.slice RA 2 rc], .agg #[.slice SA 2 c, .int .i64 2, .int .i64 1]] w (StepsRet w [0, 1] 175 0) := by
  have h := cheapest_any B specX RA 2 rc stockX SA 2 c 2 1 w hrr hr hB rfl (by decide) terms_x hU rfl (by decide) small_x (fun _ => task_x.s) (fun _ => task_x.r) (fun _ => task_x.i) (fun _ => task_x.p) open_x
  rw [chea_x] at h
  exact h
theorem boundOf_x (B : Nat) (RA : Option Addr) (rc : Nat) (SA : Option Addr) (c : Nat) (PA : Option Addr) (pc : Nat) (w : World) (hrr : ReqsIn B w RA specX) (hr : SlotsIn B w SA stockX) (hp : IntsIn B w PA [8, 0]) (hB : B ≤ w.heap.size) (hU : UnitIn w) :
    Calls Tryz.prog 23 #[.agg #[.slice RA 2 rc], .agg #[.slice SA 2 c, .int .i64 2, .int .i64 1], .slice PA 2 pc] w fun e w' => e = .returned (.tuple #[.int .i64 159, .int .i64 0]) ∧ Below w.heap.size w w' := by
  have h := boundOf_any B specX RA 2 rc stockX SA 2 c 2 1 [8, 0] PA 2 pc w hrr hr hp hB rfl (by decide) terms_x hU rfl (by decide) small_x rfl (by decide) (fun _ => task_x)
  rw [if_pos boundE_x, boundE_x, bound_x] at h
  exact h

theorem ints_more {B B' : Nat} {w : World} {A : Option Addr} {xs : List Int} (h : IntsIn B w A xs) (hB : B ≤ B') : IntsIn B' w A xs := by
  rcases h with h | ⟨b, off, hA, hb, hc⟩
  · exact .inl h
  · exact .inr ⟨b, off, hA, by omega, hc⟩
theorem ints_x {B : Nat} (A A2 : Option Addr) (c c2 : Nat) (w : World) (hr : IntsIn B w A [0, 1]) (hr2 : IntsIn B w A2 [0, 1]) :
    Calls Tryz.prog 30 #[.slice A 2 c, .slice A2 2 c2] w fun e w' => e = .returned (.bool true) ∧ Below w.heap.size w w' :=
  ints_any B A A2 c c2 [0, 1] [0, 1] w hr hr2 (by decide)
theorem lit2_ints (w : World) (t : TypeId) (a b : Int) : IntsIn (w.heap.size + 1) (w.alloc (.cells #[.int .i64 a, .int .i64 b] t)) (some ⟨w.heap.size, 0, none⟩) [a, b] := by
  have X := Blk.new w t #[.int .i64 a, .int .i64 b]
  refine .inr ⟨w.heap.size, 0, rfl, by omega, fun j hj => ?_⟩
  match j, hj with
  | 0, _ => exact X.cellAt 0 rfl
  | 1, _ => exact X.cellAt 1 rfl
  | j + 2, hj => exact absurd hj (by simp)
theorem ReqsIn.alloc_ {w : World} {A : Option Addr} {rs : List DReq} (h : ReqsIn w.heap.size w A rs) (o : Obj) : ReqsIn (w.heap.size + 1) (w.alloc o) A rs := by
  have := h.past (Nat.le_refl _) (pa (o := o) pr)
  simpa using this
theorem SlotsIn.alloc_ {w : World} {A : Option Addr} {sl : List (List DPart)} (h : SlotsIn w.heap.size w A sl) (o : Obj) : SlotsIn (w.heap.size + 1) (w.alloc o) A sl := by
  have := h.past (Nat.le_refl _) (pa (o := o) pr)
  simpa using this

end Go.Proofs.YtnfbdkdjoekifaaGreatDoor
end
