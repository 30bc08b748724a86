/- Contract: the examples of the document hold. No condition.
Contract: the examples of the document hold (the walk). No condition. -/
import Derived.Test.YtbojmcopagbheaaGreatDoorXBest
import Derived.Test.YtbojmcopagbheaaGreatDoorRK
import Derived.Test.YtbojmcopagbheaaGreatDoorQT
import Derived.Test.YtbojmcopagbheaaGreatDoorQ7
import Derived.Test.YtbojmcopagbheaaGreatDoorQV

section
namespace Go.Proofs.YtbojmcopagbheaaGreatDoor
open Go.RowKit

def exPlan : List Task := [⟨0, 3, 0, []⟩, ⟨0, 2, 0, []⟩, ⟨1, 4, 0, [0]⟩, ⟨1, 4, 0, [1]⟩]
def wireS : ByteArray := ⟨#[119, 105, 114, 101]⟩
def coilS : ByteArray := ⟨#[99, 111, 105, 108]⟩
def unitS : ByteArray := ⟨#[117, 110, 105, 116]⟩
def exLots : List Lot := [⟨wireS, [], 5, 6, 0, 10⟩, ⟨coilS, [wireS], 20, 22, 21, 30⟩, ⟨unitS, [coilS, wireS], 1, 1, 0, 2⟩]

theorem exPlan_ok : (openV 2 exPlan).2 = 0 := by decide +kernel
theorem exPlan_last : (bestV exPlan).last = 10 := by decide +kernel
theorem exLots_ok : (openLotsV exLots).2 = 0 := by decide +kernel
theorem exLots_susp : suspectsV exLots = [coilS, unitS] := by decide +kernel
theorem exStack : stackForL 5 2 = [0, 2, 4, 1, 3] := by decide +kernel
theorem exStackE : (if stackE 5 2 ≠ 0 then stackE 5 2 else stackForE 5 2) = 0 := by decide +kernel
theorem exDry : dryN 100 200 50 2 (1000, 1050) = (658, 860) := by decide +kernel

theorem exPlan_small : SmallPlan exPlan := ⟨by decide, fun i hi => by
  have h : i = 0 ∨ i = 1 ∨ i = 2 ∨ i = 3 := by simp [exPlan] at hi; omega
  rcases h with rfl | rfl | rfl | rfl <;> decide⟩
theorem empty_size : (default : ByteArray).size ≤ 1000 := by show ByteArray.empty.size ≤ 1000; decide
theorem exLots_small : SmallLots exLots := ⟨by decide, fun i hi => by
  have h : i = 0 ∨ i = 1 ∨ i = 2 := by simp [exLots] at hi; omega
  rcases h with rfl | rfl | rfl
  · exact ⟨by decide, by decide, fun j => by simp [exLots]; exact empty_size⟩
  · refine ⟨by decide, by decide, fun j => ?_⟩
    match j with
    | 0 => decide
    | j + 1 => simp [exLots]; exact empty_size
  · refine ⟨by decide, by decide, fun j => ?_⟩
    match j with
    | 0 => decide
    | 1 => decide
    | j + 2 => simp [exLots]; exact empty_size⟩

theorem ints_one {W : World} {g B : Nat} {x : Int} (h : Blk W g 3 #[.int .i64 x]) (hB : g < B) : IntsIn B W (some ⟨g, 0, none⟩) [x] := .inr ⟨g, 0, rfl, hB, fun j hj => by
  obtain rfl : j = 0 := by simp at hj; omega
  exact h.cellAt 0 rfl⟩
theorem plan_at (w : World) (n : Nat) (hn : w.heap.size = n) :
    TasksIn ((((w.alloc (.cells #[.int .i64 0] 3)).alloc (.cells #[.int .i64 1] 3)).alloc (.cells #[.int .i64 0, .int .i64 3, .int .i64 0, .slice none 0 0, .int .i64 0, .int .i64 2, .int .i64 0, .slice none 0 0, .int .i64 1, .int .i64 4, .int .i64 0, .slice (some ⟨n, 0, none⟩) 1 1, .int .i64 1, .int .i64 4, .int .i64 0, .slice (some ⟨n + 1, 0, none⟩) 1 1] 41))).heap.size
      (((w.alloc (.cells #[.int .i64 0] 3)).alloc (.cells #[.int .i64 1] 3)).alloc (.cells #[.int .i64 0, .int .i64 3, .int .i64 0, .slice none 0 0, .int .i64 0, .int .i64 2, .int .i64 0, .slice none 0 0, .int .i64 1, .int .i64 4, .int .i64 0, .slice (some ⟨n, 0, none⟩) 1 1, .int .i64 1, .int .i64 4, .int .i64 0, .slice (some ⟨n + 1, 0, none⟩) 1 1] 41))
      (some ⟨n + 1 + 1, 0, none⟩) exPlan := by
  subst hn
  have b1 : Blk (((w.alloc (.cells #[.int .i64 0] 3)).alloc (.cells #[.int .i64 1] 3)).alloc (.cells #[.int .i64 0, .int .i64 3, .int .i64 0, .slice none 0 0, .int .i64 0, .int .i64 2, .int .i64 0, .slice none 0 0, .int .i64 1, .int .i64 4, .int .i64 0, .slice (some ⟨w.heap.size, 0, none⟩) 1 1, .int .i64 1, .int .i64 4, .int .i64 0, .slice (some ⟨w.heap.size + 1, 0, none⟩) 1 1] 41)) w.heap.size 3 #[.int .i64 0] := (Blk.newAt rfl).alloc.alloc
  have b2 : Blk (((w.alloc (.cells #[.int .i64 0] 3)).alloc (.cells #[.int .i64 1] 3)).alloc (.cells #[.int .i64 0, .int .i64 3, .int .i64 0, .slice none 0 0, .int .i64 0, .int .i64 2, .int .i64 0, .slice none 0 0, .int .i64 1, .int .i64 4, .int .i64 0, .slice (some ⟨w.heap.size, 0, none⟩) 1 1, .int .i64 1, .int .i64 4, .int .i64 0, .slice (some ⟨w.heap.size + 1, 0, none⟩) 1 1] 41)) (w.heap.size + 1) 3 #[.int .i64 1] := (Blk.newAt (by simp)).alloc
  have b3 : Blk (((w.alloc (.cells #[.int .i64 0] 3)).alloc (.cells #[.int .i64 1] 3)).alloc (.cells #[.int .i64 0, .int .i64 3, .int .i64 0, .slice none 0 0, .int .i64 0, .int .i64 2, .int .i64 0, .slice none 0 0, .int .i64 1, .int .i64 4, .int .i64 0, .slice (some ⟨w.heap.size, 0, none⟩) 1 1, .int .i64 1, .int .i64 4, .int .i64 0, .slice (some ⟨w.heap.size + 1, 0, none⟩) 1 1] 41)) (w.heap.size + 1 + 1) 41 #[.int .i64 0, .int .i64 3, .int .i64 0, .slice none 0 0, .int .i64 0, .int .i64 2, .int .i64 0, .slice none 0 0, .int .i64 1, .int .i64 4, .int .i64 0, .slice (some ⟨w.heap.size, 0, none⟩) 1 1, .int .i64 1, .int .i64 4, .int .i64 0, .slice (some ⟨w.heap.size + 1, 0, none⟩) 1 1] := Blk.newAt (by simp)
  generalize ((w.alloc (.cells #[.int .i64 0] 3)).alloc (.cells #[.int .i64 1] 3)).alloc (.cells #[.int .i64 0, .int .i64 3, .int .i64 0, .slice none 0 0, .int .i64 0, .int .i64 2, .int .i64 0, .slice none 0 0, .int .i64 1, .int .i64 4, .int .i64 0, .slice (some ⟨w.heap.size, 0, none⟩) 1 1, .int .i64 1, .int .i64 4, .int .i64 0, .slice (some ⟨w.heap.size + 1, 0, none⟩) 1 1] 41) = W at *
  refine .inr ⟨_, 0, rfl, b3.lt, fun i hi => ?_⟩
  have h : i = 0 ∨ i = 1 ∨ i = 2 ∨ i = 3 := by simp [exPlan] at hi; omega
  rcases h with rfl | rfl | rfl | rfl
  · exact ⟨b3.cellAt 0 rfl, b3.cellAt 1 rfl, b3.cellAt 2 rfl, none, 0, b3.cellAt 3 rfl, IntsIn.nil, Nat.le_refl _⟩
  · exact ⟨b3.cellAt 4 rfl, b3.cellAt 5 rfl, b3.cellAt 6 rfl, none, 0, b3.cellAt 7 rfl, IntsIn.nil, Nat.le_refl _⟩
  · exact ⟨b3.cellAt 8 rfl, b3.cellAt 9 rfl, b3.cellAt 10 rfl, _, 1, b3.cellAt 11 rfl, ints_one b1 b1.lt, Nat.le_refl _⟩
  · exact ⟨b3.cellAt 12 rfl, b3.cellAt 13 rfl, b3.cellAt 14 rfl, _, 1, b3.cellAt 15 rfl, ints_one b2 b2.lt, Nat.le_refl _⟩

theorem lots_at (w : World) : LotsIn (((w.alloc (.cells #[.string wireS] 9)).alloc (.cells #[.string coilS, .string wireS] 9)).alloc (.cells #[.string wireS, .slice none 0 0, .int .i64 5, .int .i64 6, .int .i64 0, .int .i64 10, .string coilS, .slice (some ⟨w.heap.size, 0, none⟩) 1 1, .int .i64 20, .int .i64 22, .int .i64 21, .int .i64 30, .string unitS, .slice (some ⟨w.heap.size + 1, 0, none⟩) 2 2, .int .i64 1, .int .i64 1, .int .i64 0, .int .i64 2] 58)).heap.size (((w.alloc (.cells #[.string wireS] 9)).alloc (.cells #[.string coilS, .string wireS] 9)).alloc (.cells #[.string wireS, .slice none 0 0, .int .i64 5, .int .i64 6, .int .i64 0, .int .i64 10, .string coilS, .slice (some ⟨w.heap.size, 0, none⟩) 1 1, .int .i64 20, .int .i64 22, .int .i64 21, .int .i64 30, .string unitS, .slice (some ⟨w.heap.size + 1, 0, none⟩) 2 2, .int .i64 1, .int .i64 1, .int .i64 0, .int .i64 2] 58)) (some ⟨w.heap.size + 1 + 1, 0, none⟩) exLots := by
  have b1 : Blk (((w.alloc (.cells #[.string wireS] 9)).alloc (.cells #[.string coilS, .string wireS] 9)).alloc (.cells #[.string wireS, .slice none 0 0, .int .i64 5, .int .i64 6, .int .i64 0, .int .i64 10, .string coilS, .slice (some ⟨w.heap.size, 0, none⟩) 1 1, .int .i64 20, .int .i64 22, .int .i64 21, .int .i64 30, .string unitS, .slice (some ⟨w.heap.size + 1, 0, none⟩) 2 2, .int .i64 1, .int .i64 1, .int .i64 0, .int .i64 2] 58)) w.heap.size 9 #[.string wireS] := (Blk.newAt rfl).alloc.alloc
  have b2 : Blk (((w.alloc (.cells #[.string wireS] 9)).alloc (.cells #[.string coilS, .string wireS] 9)).alloc (.cells #[.string wireS, .slice none 0 0, .int .i64 5, .int .i64 6, .int .i64 0, .int .i64 10, .string coilS, .slice (some ⟨w.heap.size, 0, none⟩) 1 1, .int .i64 20, .int .i64 22, .int .i64 21, .int .i64 30, .string unitS, .slice (some ⟨w.heap.size + 1, 0, none⟩) 2 2, .int .i64 1, .int .i64 1, .int .i64 0, .int .i64 2] 58)) (w.heap.size + 1) 9 #[.string coilS, .string wireS] := (Blk.newAt (by simp)).alloc
  have b3 : Blk (((w.alloc (.cells #[.string wireS] 9)).alloc (.cells #[.string coilS, .string wireS] 9)).alloc (.cells #[.string wireS, .slice none 0 0, .int .i64 5, .int .i64 6, .int .i64 0, .int .i64 10, .string coilS, .slice (some ⟨w.heap.size, 0, none⟩) 1 1, .int .i64 20, .int .i64 22, .int .i64 21, .int .i64 30, .string unitS, .slice (some ⟨w.heap.size + 1, 0, none⟩) 2 2, .int .i64 1, .int .i64 1, .int .i64 0, .int .i64 2] 58)) (w.heap.size + 1 + 1) 58 #[.string wireS, .slice none 0 0, .int .i64 5, .int .i64 6, .int .i64 0, .int .i64 10, .string coilS, .slice (some ⟨w.heap.size, 0, none⟩) 1 1, .int .i64 20, .int .i64 22, .int .i64 21, .int .i64 30, .string unitS, .slice (some ⟨w.heap.size + 1, 0, none⟩) 2 2, .int .i64 1, .int .i64 1, .int .i64 0, .int .i64 2] := Blk.newAt (by simp)
  generalize ((w.alloc (.cells #[.string wireS] 9)).alloc (.cells #[.string coilS, .string wireS] 9)).alloc (.cells #[.string wireS, .slice none 0 0, .int .i64 5, .int .i64 6, .int .i64 0, .int .i64 10, .string coilS, .slice (some ⟨w.heap.size, 0, none⟩) 1 1, .int .i64 20, .int .i64 22, .int .i64 21, .int .i64 30, .string unitS, .slice (some ⟨w.heap.size + 1, 0, none⟩) 2 2, .int .i64 1, .int .i64 1, .int .i64 0, .int .i64 2] 58) = W at *
  have r1 : RowIn Value.string W.heap.size W (some ⟨w.heap.size, 0, none⟩) [wireS] := .inr ⟨_, 0, rfl, b1.lt, fun j hj => by
    obtain rfl : j = 0 := by simp at hj; omega
    exact b1.cellAt 0 rfl⟩
  have r2 : RowIn Value.string W.heap.size W (some ⟨w.heap.size + 1, 0, none⟩) [coilS, wireS] := .inr ⟨_, 0, rfl, b2.lt, fun j hj => by
    have h : j = 0 ∨ j = 1 := by simp at hj; omega
    rcases h with rfl | rfl
    · exact b2.cellAt 0 rfl
    · exact b2.cellAt 1 rfl⟩
  refine .inr ⟨_, 0, rfl, b3.lt, fun i hi => ?_⟩
  have h : i = 0 ∨ i = 1 ∨ i = 2 := by simp [exLots] at hi; omega
  rcases h with rfl | rfl | rfl
  · exact ⟨b3.cellAt 0 rfl, none, 0, b3.cellAt 1 rfl, RowIn.nil, Nat.le_refl _, b3.cellAt 2 rfl, b3.cellAt 3 rfl, b3.cellAt 4 rfl, b3.cellAt 5 rfl⟩
  · exact ⟨b3.cellAt 6 rfl, _, 1, b3.cellAt 7 rfl, r1, Nat.le_refl _, b3.cellAt 8 rfl, b3.cellAt 9 rfl, b3.cellAt 10 rfl, b3.cellAt 11 rfl⟩
  · exact ⟨b3.cellAt 12 rfl, _, 2, b3.cellAt 13 rfl, r2, Nat.le_refl _, b3.cellAt 14 rfl, b3.cellAt 15 rfl, b3.cellAt 16 rfl, b3.cellAt 17 rfl⟩

theorem oven_any (w : World) : Calls Tryz.prog 43 #[] w fun e w' => e = .returned (.agg #[.int .i64 100, .int .i64 200, .int .i64 50]) ∧ Below w.heap.size w w' := by
  go_enter Tryz.func43, Tryz.ntmps43
  go_wp2
  exact bodyPost_ret (v := .agg #[.int .i64 100, .int .i64 200, .int .i64 50]) (by simp [results, Tryz.results43, go_sem]) rfl ⟨rfl, pa pr⟩

def PlanOut (w : World) (e : Ending) (w' : World) : Prop := ∃ A, e = .returned (.agg #[.int .i64 2, .slice A 4 4]) ∧ TasksIn w'.heap.size w' A exPlan ∧ Below w.heap.size w w'
theorem plan_any (w : World) : Calls Tryz.prog 44 #[] w (PlanOut w) := by
  go_enter Tryz.func44, Tryz.ntmps44
  go_wp2
  refine bodyPost_ret (v := .agg #[.int .i64 2, .slice (some ⟨w.heap.size + 1 + 1 + 1, 0, none⟩) 4 4]) (by simp [results, Tryz.results44, go_sem]) rfl ?_
  refine ⟨_, rfl, plan_at (w.alloc (.cells #[.int .i64 2, .slice (some ⟨w.heap.size + 1 + 1 + 1, 0, none⟩) 4 4] 27)) (w.heap.size + 1) (by simp), pa (pa (pa (pa pr)))⟩

def LotsOut (w : World) (e : Ending) (w' : World) : Prop := ∃ A, e = .returned (.slice A 3 3) ∧ LotsIn w'.heap.size w' A exLots ∧ Below w.heap.size w w'
theorem lots_any (w : World) : Calls Tryz.prog 77 #[] w (LotsOut w) := by
  go_enter Tryz.func77, Tryz.ntmps77
  go_wp2
  go_ret
  exact ⟨_, rfl, lots_at w, pa (pa (pa pr))⟩

end Go.Proofs.YtbojmcopagbheaaGreatDoor
end

section
namespace Go.Proofs.YtbojmcopagbheaaGreatDoor
open Go.RowKit

theorem dry_ex (w : World) : Calls Tryz.prog 42 #[.agg #[.int .i64 100, .int .i64 200, .int .i64 50], .agg #[.int .i64 1000, .int .i64 1050], .int .i64 2] w fun e w' => e = .returned (.tuple #[.agg #[.int .i64 658, .int .i64 860], .int .i64 0]) ∧ Below w.heap.size w w' := by
  have h := dryAfter_ok 100 200 50 1000 1050 2 w (by decide) (by decide) (by decide) (by decide) (by decide) (by decide) (by decide) (by decide) (by decide) (by decide) (by decide) (by decide)
  rw [exDry] at h
  exact h

def BestEx (w : World) (e : Ending) (w' : World) : Prop := ∃ bv, e = .returned (.tuple #[bv, .int .i64 10, .int .i64 0]) ∧ Below w.heap.size w w'
theorem best_ex (A : Option Addr) (w : World) (hr : TasksIn w.heap.size w A exPlan) : Calls Tryz.prog 15 #[.agg #[.int .i64 2, .slice A 4 4]] w (BestEx w) :=
  (best_ok w.heap.size exPlan A 4 2 w hr (Nat.le_refl _) exPlan_small exPlan_ok).mono fun e w' h => by
    obtain ⟨bv, h1, _, h2⟩ := h
    rw [exPlan_last] at h1
    exact ⟨bv, h1, h2⟩

def StackEx (w : World) (e : Ending) (w' : World) : Prop := ∃ A c, e = .returned (.tuple #[.slice A 5 c, .int .i64 0]) ∧ IntsIn w'.heap.size w' A [0, 2, 4, 1, 3] ∧ Below w.heap.size w w'
theorem stack_ex (w : World) : Calls Tryz.prog 76 #[.int .i64 5, .int .i64 2] w (StackEx w) :=
  (stackFor_any 5 2 w).mono fun e w' h => by
    rw [show (5 : Int).toNat = 5 from rfl, exStackE, exStack] at h
    obtain ⟨A, c, h1, h2, _, h3⟩ := h
    exact ⟨A, c, h1, h2, h3⟩

def SuspEx (w : World) (e : Ending) (w' : World) : Prop := ∃ A c, e = .returned (.tuple #[.slice A 2 c, .int .i64 0]) ∧ RowIn Value.string w'.heap.size w' A [coilS, unitS] ∧ Below w.heap.size w w'
theorem susp_ex (A : Option Addr) (w : World) (hr : LotsIn w.heap.size w A exLots) : Calls Tryz.prog 27 #[.slice A 3 3] w (SuspEx w) :=
  (suspectsIn_ok w.heap.size exLots A 3 w hr (Nat.le_refl _) exLots_small exLots_ok).mono fun e w' h => by
    unfold SuspPost at h
    rw [exLots_susp] at h
    obtain ⟨A, c, h1, h2, _, h3⟩ := h
    exact ⟨A, c, h1, h2, h3⟩

theorem ints_ex (w : World) (A : Option Addr) (c g : Nat) (h1 : IntsIn w.heap.size w A [0, 2, 4, 1, 3]) (h2 : Blk w g 3 #[.int .i64 0, .int .i64 2, .int .i64 4, .int .i64 1, .int .i64 3]) :
    Calls Tryz.prog 78 #[.slice A 5 c, .slice (some ⟨g, 0, none⟩) 5 5] w fun e w' => e = .returned (.bool true) ∧ Below w.heap.size w w' := by
  have h := ints_any w.heap.size A (some ⟨g, 0, none⟩) c 5 [0, 2, 4, 1, 3] [0, 2, 4, 1, 3] w h1 (iarr_ints (xs := [0, 2, 4, 1, 3]) h2) (by decide)
  exact h
theorem texts_ex (w : World) (A : Option Addr) (c g : Nat) (h1 : RowIn Value.string w.heap.size w A [coilS, unitS]) (h2 : Blk w g 9 #[.string coilS, .string unitS]) :
    Calls Tryz.prog 30 #[.slice A 2 c, .slice (some ⟨g, 0, none⟩) 2 2] w fun e w' => e = .returned (.bool true) ∧ Below w.heap.size w w' := by
  have h := texts_any w.heap.size A (some ⟨g, 0, none⟩) c 2 [coilS, unitS] [coilS, unitS] w h1 (.inr ⟨g, 0, rfl, h2.lt, fun j hj => by
    have h : j = 0 ∨ j = 1 := by simp at hj; omega
    rcases h with rfl | rfl
    · exact h2.cellAt 0 rfl
    · exact h2.cellAt 1 rfl⟩) (by decide)
  rw [show textsB [coilS, unitS] [coilS, unitS] = true by decide +kernel] at h
  exact h

set_option maxHeartbeats 2000000 in
set_option maxRecDepth 100000 in
theorem awake_any (w : World) : Calls Tryz.prog 32 #[] w fun e w' => e = .returned (.bool true) ∧ Below w.heap.size w w' := by
  go_enter Tryz.func32, Tryz.ntmps32
  go_wp2_with (first
    | (go_at_call 43; refine (oven_any _).mono ?_; rintro e w1 ⟨rfl, hb1⟩)
    | (go_at_call 42; go_must (refine (dry_ex _).mono ?_); rintro e w2 ⟨rfl, hb2⟩; have HB2 := Lib.hid (pt hb1 hb2); clear hb1 hb2; have kD := Blk.new w2 29 #[.int .i64 658, .int .i64 860])
    | (go_at_call 44; go_must (refine (plan_any _).mono ?_); rintro e w3 ⟨A3, rfl, hT3, hb3⟩; have kD3 := Lib.hid (kD.past hb3); have HB3 := Lib.hid (pt (pa (o := .cells #[.int .i64 658, .int .i64 860] 29) HB2.out) hb3); have HT3 := Lib.hid hT3; clear kD hT3 hb3)
    | (go_at_call 15; go_must (refine (best_ex _ _ HT3.out).mono ?_); rintro e w4 ⟨bv, rfl, hb4⟩; have HB4 := Lib.hid (pt HB3.out hb4); have kD4 := Lib.hid (kD3.out.past hb4); clear hb4)
    | (go_at_call 76; go_must (refine (stack_ex _).mono ?_); rintro e w5 ⟨A5, c5, rfl, hI5, hb5⟩; have HB5 := Lib.hid (pt HB4.out hb5); have kD5 := Lib.hid (kD4.out.past hb5); have HI5 := Lib.hid hI5; clear hb5 hI5)
    | (go_at_call 77; go_must (refine (lots_any _).mono ?_); rintro e w6 ⟨A6, rfl, hL6, hb6⟩; have HB6 := Lib.hid (pt HB5.out hb6); have kD6 := Lib.hid (kD5.out.past hb6); have HI6 := Lib.hid (HI5.out.below hb6 |>.more hb6.size); have HL6 := Lib.hid hL6; clear hb6 hL6)
    | (go_at_call 27; go_must (refine (susp_ex _ _ HL6.out).mono ?_); rintro e w7 ⟨A7, c7, rfl, hR7, hb7⟩; have HB7 := Lib.hid (pt HB6.out hb7); have kD7 := kD6.out.past hb7; have HI7 := Lib.hid (HI6.out.below hb7 |>.more hb7.size); have HR7 := Lib.hid hR7; have d0 : w7.cell? ⟨w2.heap.size, 0, none⟩ = some (.int .i64 658) := kD7.cellAt 0 rfl; have d1 : w7.cell? ⟨w2.heap.size, 1, none⟩ = some (.int .i64 860) := kD7.cellAt 1 rfl; have dx := kD7.lt; clear hb7 hR7 kD7)
    | (go_at_call 78; go_must (refine (ints_ex _ _ _ _ (HI7.out.below (pa pr) |>.more (by simp)) (Blk.new _ _ _)).mono ?_); rintro e w8 ⟨rfl, hb8⟩; have HB8 := Lib.hid (pt (pa HB7.out) hb8); have HR8 := Lib.hid (HR7.out.past (Nat.le_refl _) (pt (pa pr) hb8)); clear hb8)
    | (go_at_call 30; go_must (refine (texts_ex _ _ _ _ (HR8.out.past (Nat.le_refl _) (pa pr)) (Blk.new _ _ _)).mono ?_); rintro e w9 ⟨rfl, hb9⟩))
  go_ret
  exact ⟨rfl, pt (pa HB8.out) hb9⟩

end Go.Proofs.YtbojmcopagbheaaGreatDoor
end
