/- Contract: the examples of the document hold (the walk). No condition. -/
import Derived.Test.YtbojmcopagbheaaGreatDoorZHAwake
namespace Go.Proofs.YtbojmcopagbheaaGreatDoor
open Go.RowKit

theorem dry_ex (w : World) : Calls Tryz.prog 42 #[.agg #[.int .i64 100, .int .i64 200, .int .i64 50], .agg #[.int .i64 1000, .int .i64 1050], .int .i64 2] w fun e w' => e = .returned (.tuple #[.agg #[.int .i64 658, .int .i64 860], .int .i64 0]) ∧ Below w.heap.size w w' := by
  have h := dryAfter_ok 100 200 50 1000 1050 2 w (by decide) (by decide) (by decide) (by decide) (by decide) (by decide) (by decide) (by decide) (by decide) (by decide) (by decide) (by decide)
  rw [exDry] at h
  exact h

def BestEx (w : World) (e : Ending) (w' : World) : Prop := ∃ bv, e = .returned (.tuple #[bv, .int .i64 10, .int .i64 0]) ∧ Below w.heap.size w w'
theorem best_ex (A : Option Addr) (w : World) (hr : TasksIn w.heap.size w A exPlan) : Calls Tryz.prog 15 #[.agg #[.int .i64 2, .slice A 4 4]] w (BestEx w) :=
  (best_ok w.heap.size exPlan A 4 2 w hr (Nat.le_refl _) exPlan_small exPlan_ok).mono fun e w' h => by
    obtain ⟨bv, h1, _, h2⟩ := h
    rw [exPlan_last] at h1
    exact ⟨bv, h1, h2⟩

def StackEx (w : World) (e : Ending) (w' : World) : Prop := ∃ A c, e = .returned (.tuple #[.slice A 5 c, .int .i64 0]) ∧ IntsIn w'.heap.size w' A [0, 2, 4, 1, 3] ∧ Below w.heap.size w w'
theorem stack_ex (w : World) : Calls Tryz.prog 76 #[.int .i64 5, .int .i64 2] w (StackEx w) :=
  (stackFor_any 5 2 w).mono fun e w' h => by
    rw [show (5 : Int).toNat = 5 from rfl, exStackE, exStack] at h
    obtain ⟨A, c, h1, h2, _, h3⟩ := h
    exact ⟨A, c, h1, h2, h3⟩

def SuspEx (w : World) (e : Ending) (w' : World) : Prop := ∃ A c, e = .returned (.tuple #[.slice A 2 c, .int .i64 0]) ∧ RowIn Value.string w'.heap.size w' A [coilS, unitS] ∧ Below w.heap.size w w'
theorem susp_ex (A : Option Addr) (w : World) (hr : LotsIn w.heap.size w A exLots) : Calls Tryz.prog 27 #[.slice A 3 3] w (SuspEx w) :=
  (suspectsIn_ok w.heap.size exLots A 3 w hr (Nat.le_refl _) exLots_small exLots_ok).mono fun e w' h => by
    unfold SuspPost at h
    rw [exLots_susp] at h
    obtain ⟨A, c, h1, h2, _, h3⟩ := h
    exact ⟨A, c, h1, h2, h3⟩

theorem ints_ex (w : World) (A : Option Addr) (c g : Nat) (h1 : IntsIn w.heap.size w A [0, 2, 4, 1, 3]) (h2 : Blk w g 3 #[.int .i64 0, .int .i64 2, .int .i64 4, .int .i64 1, .int .i64 3]) :
    Calls Tryz.prog 78 #[.slice A 5 c, .slice (some ⟨g, 0, none⟩) 5 5] w fun e w' => e = .returned (.bool true) ∧ Below w.heap.size w w' := by
  have h := ints_any w.heap.size A (some ⟨g, 0, none⟩) c 5 [0, 2, 4, 1, 3] [0, 2, 4, 1, 3] w h1 (iarr_ints (xs := [0, 2, 4, 1, 3]) h2) (by decide)
  exact h
theorem texts_ex (w : World) (A : Option Addr) (c g : Nat) (h1 : RowIn Value.string w.heap.size w A [coilS, unitS]) (h2 : Blk w g 9 #[.string coilS, .string unitS]) :
    Calls Tryz.prog 30 #[.slice A 2 c, .slice (some ⟨g, 0, none⟩) 2 2] w fun e w' => e = .returned (.bool true) ∧ Below w.heap.size w w' := by
  have h := texts_any w.heap.size A (some ⟨g, 0, none⟩) c 2 [coilS, unitS] [coilS, unitS] w h1 (.inr ⟨g, 0, rfl, h2.lt, fun j hj => by
    have h : j = 0 ∨ j = 1 := by simp at hj; omega
    rcases h with rfl | rfl
    · exact h2.cellAt 0 rfl
    · exact h2.cellAt 1 rfl⟩) (by decide)
  rw [show textsB [coilS, unitS] [coilS, unitS] = true by decide +kernel] at h
  exact h

set_option maxHeartbeats 2000000 in
set_option maxRecDepth 100000 in
theorem awake_any (w : World) : Calls Tryz.prog 32 #[] w fun e w' => e = .returned (.bool true) ∧ Below w.heap.size w w' := by
  go_enter Tryz.func32, Tryz.ntmps32
  go_wp2_with (first
    | (go_at_call 43; refine (oven_any _).mono ?_; rintro e w1 ⟨rfl, hb1⟩)
    | (go_at_call 42; go_must (refine (dry_ex _).mono ?_); rintro e w2 ⟨rfl, hb2⟩; have HB2 := Lib.hid (pt hb1 hb2); clear hb1 hb2; have kD := Blk.new w2 29 #[.int .i64 658, .int .i64 860])
    | (go_at_call 44; go_must (refine (plan_any _).mono ?_); rintro e w3 ⟨A3, rfl, hT3, hb3⟩; have kD3 := Lib.hid (kD.past hb3); have HB3 := Lib.hid (pt (pa (o := .cells #[.int .i64 658, .int .i64 860] 29) HB2.out) hb3); have HT3 := Lib.hid hT3; clear kD hT3 hb3)
    | (go_at_call 15; go_must (refine (best_ex _ _ HT3.out).mono ?_); rintro e w4 ⟨bv, rfl, hb4⟩; have HB4 := Lib.hid (pt HB3.out hb4); have kD4 := Lib.hid (kD3.out.past hb4); clear hb4)
    | (go_at_call 76; go_must (refine (stack_ex _).mono ?_); rintro e w5 ⟨A5, c5, rfl, hI5, hb5⟩; have HB5 := Lib.hid (pt HB4.out hb5); have kD5 := Lib.hid (kD4.out.past hb5); have HI5 := Lib.hid hI5; clear hb5 hI5)
    | (go_at_call 77; go_must (refine (lots_any _).mono ?_); rintro e w6 ⟨A6, rfl, hL6, hb6⟩; have HB6 := Lib.hid (pt HB5.out hb6); have kD6 := Lib.hid (kD5.out.past hb6); have HI6 := Lib.hid (HI5.out.below hb6 |>.more hb6.size); have HL6 := Lib.hid hL6; clear hb6 hL6)
    | (go_at_call 27; go_must (refine (susp_ex _ _ HL6.out).mono ?_); rintro e w7 ⟨A7, c7, rfl, hR7, hb7⟩; have HB7 := Lib.hid (pt HB6.out hb7); have kD7 := kD6.out.past hb7; have HI7 := Lib.hid (HI6.out.below hb7 |>.more hb7.size); have HR7 := Lib.hid hR7; have d0 : w7.cell? ⟨w2.heap.size, 0, none⟩ = some (.int .i64 658) := kD7.cellAt 0 rfl; have d1 : w7.cell? ⟨w2.heap.size, 1, none⟩ = some (.int .i64 860) := kD7.cellAt 1 rfl; have dx := kD7.lt; clear hb7 hR7 kD7)
    | (go_at_call 78; go_must (refine (ints_ex _ _ _ _ (HI7.out.below (pa pr) |>.more (by simp)) (Blk.new _ _ _)).mono ?_); rintro e w8 ⟨rfl, hb8⟩; have HB8 := Lib.hid (pt (pa HB7.out) hb8); have HR8 := Lib.hid (HR7.out.past (Nat.le_refl _) (pt (pa pr) hb8)); clear hb8)
    | (go_at_call 30; go_must (refine (texts_ex _ _ _ _ (HR8.out.past (Nat.le_refl _) (pa pr)) (Blk.new _ _ _)).mono ?_); rintro e w9 ⟨rfl, hb9⟩))
  go_ret
  exact ⟨rfl, pt (pa HB8.out) hb9⟩

end Go.Proofs.YtbojmcopagbheaaGreatDoor
