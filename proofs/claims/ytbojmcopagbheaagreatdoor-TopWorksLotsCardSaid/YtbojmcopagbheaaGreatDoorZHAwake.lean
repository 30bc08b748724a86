/- Contract: the examples of the document hold. No condition. -/
import Derived.Test.YtbojmcopagbheaaGreatDoorXBest
import Derived.Test.YtbojmcopagbheaaGreatDoorZFSusp
import Derived.Test.YtbojmcopagbheaaGreatDoorQT
import Derived.Test.YtbojmcopagbheaaGreatDoorQ7
import Derived.Test.YtbojmcopagbheaaGreatDoorQV
namespace Go.Proofs.YtbojmcopagbheaaGreatDoor
open Go.RowKit

def exPlan : List Task := [⟨0, 3, 0, []⟩, ⟨0, 2, 0, []⟩, ⟨1, 4, 0, [0]⟩, ⟨1, 4, 0, [1]⟩]
def wireS : ByteArray := ⟨#[119, 105, 114, 101]⟩
def coilS : ByteArray := ⟨#[99, 111, 105, 108]⟩
def unitS : ByteArray := ⟨#[117, 110, 105, 116]⟩
def exLots : List Lot := [⟨wireS, [], 5, 6, 0, 10⟩, ⟨coilS, [wireS], 20, 22, 21, 30⟩, ⟨unitS, [coilS, wireS], 1, 1, 0, 2⟩]

theorem exPlan_ok : (openV 2 exPlan).2 = 0 := by decide +kernel
theorem exPlan_last : (bestV exPlan).last = 10 := by decide +kernel
theorem exLots_ok : (openLotsV exLots).2 = 0 := by decide +kernel
theorem exLots_susp : suspectsV exLots = [coilS, unitS] := by decide +kernel
theorem exStack : stackForL 5 2 = [0, 2, 4, 1, 3] := by decide +kernel
theorem exStackE : (if stackE 5 2 ≠ 0 then stackE 5 2 else stackForE 5 2) = 0 := by decide +kernel
theorem exDry : dryN 100 200 50 2 (1000, 1050) = (658, 860) := by decide +kernel

theorem exPlan_small : SmallPlan exPlan := ⟨by decide, fun i hi => by
  have h : i = 0 ∨ i = 1 ∨ i = 2 ∨ i = 3 := by simp [exPlan] at hi; omega
  rcases h with rfl | rfl | rfl | rfl <;> decide⟩
theorem empty_size : (default : ByteArray).size ≤ 1000 := by show ByteArray.empty.size ≤ 1000; decide
theorem exLots_small : SmallLots exLots := ⟨by decide, fun i hi => by
  have h : i = 0 ∨ i = 1 ∨ i = 2 := by simp [exLots] at hi; omega
  rcases h with rfl | rfl | rfl
  · exact ⟨by decide, by decide, fun j => by simp [exLots]; exact empty_size⟩
  · refine ⟨by decide, by decide, fun j => ?_⟩
    match j with
    | 0 => decide
    | j + 1 => simp [exLots]; exact empty_size
  · refine ⟨by decide, by decide, fun j => ?_⟩
    match j with
    | 0 => decide
    | 1 => decide
    | j + 2 => simp [exLots]; exact empty_size⟩

theorem ints_one {W : World} {g B : Nat} {x : Int} (h : Blk W g 3 #[.int .i64 x]) (hB : g < B) : IntsIn B W (some ⟨g, 0, none⟩) [x] := .inr ⟨g, 0, rfl, hB, fun j hj => by
  obtain rfl : j = 0 := by simp at hj; omega
  exact h.cellAt 0 rfl⟩
theorem plan_at (w : World) (n : Nat) (hn : w.heap.size = n) :
    TasksIn ((((w.alloc (.cells #[.int .i64 0] 3)).alloc (.cells #[.int .i64 1] 3)).alloc (.cells #[.int .i64 0, .int .i64 3, .int .i64 0, .slice none 0 0, .int .i64 0, .int .i64 2, .int .i64 0, .slice none 0 0, .int .i64 1, .int .i64 4, .int .i64 0, .slice (some ⟨n, 0, none⟩) 1 1, .int .i64 1, .int .i64 4, .int .i64 0, .slice (some ⟨n + 1, 0, none⟩) 1 1] 41))).heap.size
      (((w.alloc (.cells #[.int .i64 0] 3)).alloc (.cells #[.int .i64 1] 3)).alloc (.cells #[.int .i64 0, .int .i64 3, .int .i64 0, .slice none 0 0, .int .i64 0, .int .i64 2, .int .i64 0, .slice none 0 0, .int .i64 1, .int .i64 4, .int .i64 0, .slice (some ⟨n, 0, none⟩) 1 1, .int .i64 1, .int .i64 4, .int .i64 0, .slice (some ⟨n + 1, 0, none⟩) 1 1] 41))
      (some ⟨n + 1 + 1, 0, none⟩) exPlan := by
  subst hn
  have b1 : Blk (((w.alloc (.cells #[.int .i64 0] 3)).alloc (.cells #[.int .i64 1] 3)).alloc (.cells #[.int .i64 0, .int .i64 3, .int .i64 0, .slice none 0 0, .int .i64 0, .int .i64 2, .int .i64 0, .slice none 0 0, .int .i64 1, .int .i64 4, .int .i64 0, .slice (some ⟨w.heap.size, 0, none⟩) 1 1, .int .i64 1, .int .i64 4, .int .i64 0, .slice (some ⟨w.heap.size + 1, 0, none⟩) 1 1] 41)) w.heap.size 3 #[.int .i64 0] := (Blk.newAt rfl).alloc.alloc
  have b2 : Blk (((w.alloc (.cells #[.int .i64 0] 3)).alloc (.cells #[.int .i64 1] 3)).alloc (.cells #[.int .i64 0, .int .i64 3, .int .i64 0, .slice none 0 0, .int .i64 0, .int .i64 2, .int .i64 0, .slice none 0 0, .int .i64 1, .int .i64 4, .int .i64 0, .slice (some ⟨w.heap.size, 0, none⟩) 1 1, .int .i64 1, .int .i64 4, .int .i64 0, .slice (some ⟨w.heap.size + 1, 0, none⟩) 1 1] 41)) (w.heap.size + 1) 3 #[.int .i64 1] := (Blk.newAt (by simp)).alloc
  have b3 : Blk (((w.alloc (.cells #[.int .i64 0] 3)).alloc (.cells #[.int .i64 1] 3)).alloc (.cells #[.int .i64 0, .int .i64 3, .int .i64 0, .slice none 0 0, .int .i64 0, .int .i64 2, .int .i64 0, .slice none 0 0, .int .i64 1, .int .i64 4, .int .i64 0, .slice (some ⟨w.heap.size, 0, none⟩) 1 1, .int .i64 1, .int .i64 4, .int .i64 0, .slice (some ⟨w.heap.size + 1, 0, none⟩) 1 1] 41)) (w.heap.size + 1 + 1) 41 #[.int .i64 0, .int .i64 3, .int .i64 0, .slice none 0 0, .int .i64 0, .int .i64 2, .int .i64 0, .slice none 0 0, .int .i64 1, .int .i64 4, .int .i64 0, .slice (some ⟨w.heap.size, 0, none⟩) 1 1, .int .i64 1, .int .i64 4, .int .i64 0, .slice (some ⟨w.heap.size + 1, 0, none⟩) 1 1] := Blk.newAt (by simp)
  generalize ((w.alloc (.cells #[.int .i64 0] 3)).alloc (.cells #[.int .i64 1] 3)).alloc (.cells #[.int .i64 0, .int .i64 3, .int .i64 0, .slice none 0 0, .int .i64 0, .int .i64 2, .int .i64 0, .slice none 0 0, .int .i64 1, .int .i64 4, .int .i64 0, .slice (some ⟨w.heap.size, 0, none⟩) 1 1, .int .i64 1, .int .i64 4, .int .i64 0, .slice (some ⟨w.heap.size + 1, 0, none⟩) 1 1] 41) = W at *
  refine .inr ⟨_, 0, rfl, b3.lt, fun i hi => ?_⟩
  have h : i = 0 ∨ i = 1 ∨ i = 2 ∨ i = 3 := by simp [exPlan] at hi; omega
  rcases h with rfl | rfl | rfl | rfl
  · exact ⟨b3.cellAt 0 rfl, b3.cellAt 1 rfl, b3.cellAt 2 rfl, none, 0, b3.cellAt 3 rfl, IntsIn.nil, Nat.le_refl _⟩
  · exact ⟨b3.cellAt 4 rfl, b3.cellAt 5 rfl, b3.cellAt 6 rfl, none, 0, b3.cellAt 7 rfl, IntsIn.nil, Nat.le_refl _⟩
  · exact ⟨b3.cellAt 8 rfl, b3.cellAt 9 rfl, b3.cellAt 10 rfl, _, 1, b3.cellAt 11 rfl, ints_one b1 b1.lt, Nat.le_refl _⟩
  · exact ⟨b3.cellAt 12 rfl, b3.cellAt 13 rfl, b3.cellAt 14 rfl, _, 1, b3.cellAt 15 rfl, ints_one b2 b2.lt, Nat.le_refl _⟩

theorem lots_at (w : World) : LotsIn (((w.alloc (.cells #[.string wireS] 9)).alloc (.cells #[.string coilS, .string wireS] 9)).alloc (.cells #[.string wireS, .slice none 0 0, .int .i64 5, .int .i64 6, .int .i64 0, .int .i64 10, .string coilS, .slice (some ⟨w.heap.size, 0, none⟩) 1 1, .int .i64 20, .int .i64 22, .int .i64 21, .int .i64 30, .string unitS, .slice (some ⟨w.heap.size + 1, 0, none⟩) 2 2, .int .i64 1, .int .i64 1, .int .i64 0, .int .i64 2] 58)).heap.size (((w.alloc (.cells #[.string wireS] 9)).alloc (.cells #[.string coilS, .string wireS] 9)).alloc (.cells #[.string wireS, .slice none 0 0, .int .i64 5, .int .i64 6, .int .i64 0, .int .i64 10, .string coilS, .slice (some ⟨w.heap.size, 0, none⟩) 1 1, .int .i64 20, .int .i64 22, .int .i64 21, .int .i64 30, .string unitS, .slice (some ⟨w.heap.size + 1, 0, none⟩) 2 2, .int .i64 1, .int .i64 1, .int .i64 0, .int .i64 2] 58)) (some ⟨w.heap.size + 1 + 1, 0, none⟩) exLots := by
  have b1 : Blk (((w.alloc (.cells #[.string wireS] 9)).alloc (.cells #[.string coilS, .string wireS] 9)).alloc (.cells #[.string wireS, .slice none 0 0, .int .i64 5, .int .i64 6, .int .i64 0, .int .i64 10, .string coilS, .slice (some ⟨w.heap.size, 0, none⟩) 1 1, .int .i64 20, .int .i64 22, .int .i64 21, .int .i64 30, .string unitS, .slice (some ⟨w.heap.size + 1, 0, none⟩) 2 2, .int .i64 1, .int .i64 1, .int .i64 0, .int .i64 2] 58)) w.heap.size 9 #[.string wireS] := (Blk.newAt rfl).alloc.alloc
  have b2 : Blk (((w.alloc (.cells #[.string wireS] 9)).alloc (.cells #[.string coilS, .string wireS] 9)).alloc (.cells #[.string wireS, .slice none 0 0, .int .i64 5, .int .i64 6, .int .i64 0, .int .i64 10, .string coilS, .slice (some ⟨w.heap.size, 0, none⟩) 1 1, .int .i64 20, .int .i64 22, .int .i64 21, .int .i64 30, .string unitS, .slice (some ⟨w.heap.size + 1, 0, none⟩) 2 2, .int .i64 1, .int .i64 1, .int .i64 0, .int .i64 2] 58)) (w.heap.size + 1) 9 #[.string coilS, .string wireS] := (Blk.newAt (by simp)).alloc
  have b3 : Blk (((w.alloc (.cells #[.string wireS] 9)).alloc (.cells #[.string coilS, .string wireS] 9)).alloc (.cells #[.string wireS, .slice none 0 0, .int .i64 5, .int .i64 6, .int .i64 0, .int .i64 10, .string coilS, .slice (some ⟨w.heap.size, 0, none⟩) 1 1, .int .i64 20, .int .i64 22, .int .i64 21, .int .i64 30, .string unitS, .slice (some ⟨w.heap.size + 1, 0, none⟩) 2 2, .int .i64 1, .int .i64 1, .int .i64 0, .int .i64 2] 58)) (w.heap.size + 1 + 1) 58 #[.string wireS, .slice none 0 0, .int .i64 5, .int .i64 6, .int .i64 0, .int .i64 10, .string coilS, .slice (some ⟨w.heap.size, 0, none⟩) 1 1, .int .i64 20, .int .i64 22, .int .i64 21, .int .i64 30, .string unitS, .slice (some ⟨w.heap.size + 1, 0, none⟩) 2 2, .int .i64 1, .int .i64 1, .int .i64 0, .int .i64 2] := Blk.newAt (by simp)
  generalize ((w.alloc (.cells #[.string wireS] 9)).alloc (.cells #[.string coilS, .string wireS] 9)).alloc (.cells #[.string wireS, .slice none 0 0, .int .i64 5, .int .i64 6, .int .i64 0, .int .i64 10, .string coilS, .slice (some ⟨w.heap.size, 0, none⟩) 1 1, .int .i64 20, .int .i64 22, .int .i64 21, .int .i64 30, .string unitS, .slice (some ⟨w.heap.size + 1, 0, none⟩) 2 2, .int .i64 1, .int .i64 1, .int .i64 0, .int .i64 2] 58) = W at *
  have r1 : RowIn Value.string W.heap.size W (some ⟨w.heap.size, 0, none⟩) [wireS] := .inr ⟨_, 0, rfl, b1.lt, fun j hj => by
    obtain rfl : j = 0 := by simp at hj; omega
    exact b1.cellAt 0 rfl⟩
  have r2 : RowIn Value.string W.heap.size W (some ⟨w.heap.size + 1, 0, none⟩) [coilS, wireS] := .inr ⟨_, 0, rfl, b2.lt, fun j hj => by
    have h : j = 0 ∨ j = 1 := by simp at hj; omega
    rcases h with rfl | rfl
    · exact b2.cellAt 0 rfl
    · exact b2.cellAt 1 rfl⟩
  refine .inr ⟨_, 0, rfl, b3.lt, fun i hi => ?_⟩
  have h : i = 0 ∨ i = 1 ∨ i = 2 := by simp [exLots] at hi; omega
  rcases h with rfl | rfl | rfl
  · exact ⟨b3.cellAt 0 rfl, none, 0, b3.cellAt 1 rfl, RowIn.nil, Nat.le_refl _, b3.cellAt 2 rfl, b3.cellAt 3 rfl, b3.cellAt 4 rfl, b3.cellAt 5 rfl⟩
  · exact ⟨b3.cellAt 6 rfl, _, 1, b3.cellAt 7 rfl, r1, Nat.le_refl _, b3.cellAt 8 rfl, b3.cellAt 9 rfl, b3.cellAt 10 rfl, b3.cellAt 11 rfl⟩
  · exact ⟨b3.cellAt 12 rfl, _, 2, b3.cellAt 13 rfl, r2, Nat.le_refl _, b3.cellAt 14 rfl, b3.cellAt 15 rfl, b3.cellAt 16 rfl, b3.cellAt 17 rfl⟩

theorem oven_any (w : World) : Calls Tryz.prog 43 #[] w fun e w' => e = .returned (.agg #[.int .i64 100, .int .i64 200, .int .i64 50]) ∧ Below w.heap.size w w' := by
  go_enter Tryz.func43, Tryz.ntmps43
  go_wp2
  exact bodyPost_ret (v := .agg #[.int .i64 100, .int .i64 200, .int .i64 50]) (by simp [results, Tryz.results43, go_sem]) rfl ⟨rfl, pa pr⟩

def PlanOut (w : World) (e : Ending) (w' : World) : Prop := ∃ A, e = .returned (.agg #[.int .i64 2, .slice A 4 4]) ∧ TasksIn w'.heap.size w' A exPlan ∧ Below w.heap.size w w'
theorem plan_any (w : World) : Calls Tryz.prog 44 #[] w (PlanOut w) := by
  go_enter Tryz.func44, Tryz.ntmps44
  go_wp2
  refine bodyPost_ret (v := .agg #[.int .i64 2, .slice (some ⟨w.heap.size + 1 + 1 + 1, 0, none⟩) 4 4]) (by simp [results, Tryz.results44, go_sem]) rfl ?_
  refine ⟨_, rfl, plan_at (w.alloc (.cells #[.int .i64 2, .slice (some ⟨w.heap.size + 1 + 1 + 1, 0, none⟩) 4 4] 27)) (w.heap.size + 1) (by simp), pa (pa (pa (pa pr)))⟩

def LotsOut (w : World) (e : Ending) (w' : World) : Prop := ∃ A, e = .returned (.slice A 3 3) ∧ LotsIn w'.heap.size w' A exLots ∧ Below w.heap.size w w'
theorem lots_any (w : World) : Calls Tryz.prog 77 #[] w (LotsOut w) := by
  go_enter Tryz.func77, Tryz.ntmps77
  go_wp2
  go_ret
  exact ⟨_, rfl, lots_at w, pa (pa (pa pr))⟩

end Go.Proofs.YtbojmcopagbheaaGreatDoor
