/- Contracts: base.Has, base.Size, base.CopyInts; the specification's StackErr and CheckStack, over the same values as the program's. -/
import Derived.Test.YtbojmcopagbheaaGreatDoorQ7
import Derived.Test.YtbojmcopagbheaaGreatDoorQV
namespace Go.Proofs.YtbojmcopagbheaaGreatDoor
open Go.RowKit

theorem has_step (xs : List Int) (x : Int) (k : Nat) (h : k < xs.length) : hasB (xs.drop k) x = if xs.getD k 0 = x then true else hasB (xs.drop (k + 1)) x := by
  have e : xs.getD k 0 = xs[k] := by simp [List.getD, h]
  rw [List.drop_eq_getElem_cons h, e]
  unfold hasB
  rw [List.contains_cons]
  by_cases hx : xs[k] = x
  · simp [hx]
  · have : (x == xs[k]) = false := by simpa using fun e => hx e.symm
    simp [this, hx]

theorem baseSize_any (n : Int) (w : World) (h : -1000000000000000000 ≤ n) (h2 : n ≤ 1000000000000000000) :
    Calls Tryz.prog 111 #[.int .i64 n] w fun e w' => e = .returned (.int .i64 (sizeV n)) ∧ w = w' := by
  rcases Int.lt_or_le n 0 with hn | hn
  all_goals
    go_enter Tryz.func111, Tryz.ntmps111
    go_wp2
    all_goals
      go_ret
      exact ⟨ret_int (by unfold sizeV; omega), rfl⟩

set_option maxRecDepth 100000 in
set_option maxHeartbeats 400000 in
theorem copyInts_any (B : Nat) (A : Option Addr) (n c : Nat) (xs : List Int) (w : World) (hr : IntsIn B w A xs) (hn : xs.length = n) (hB : B ≤ w.heap.size) (hm : n ≤ 1000) :
    Calls Tryz.prog 20 #[.slice A n c] w (RowRet w xs) := by
  obtain ⟨i0, hi0, hz0, hz1, hz2⟩ := info_parts int_info
  have HR := Lib.hid hr.cells
  have HN := Lib.hid hn
  clear hr hn
  go_enter Tryz.func20, Tryz.ntmps20
  have own0 : (w.alloc (.cells #[] 3)).ownsRow w.heap.size 3 1 (.slice (some ⟨w.heap.size, 0, none⟩) 0 0) 0 [] := World.ownsRow_lit w #[] 0 (Nat.le_refl _) (Nat.zero_le _) rfl
  have hcl : CellsIn B (w.alloc (.cells #[] 3)) A (List.map (Value.int IntKind.i64) xs) := HR.out.below ((pa (Below.refl _ w)).mono hB)
  have hone : ∀ u ∈ List.map (Value.int IntKind.i64) xs, u.oneCell' = true := by simp [Value.oneCell']
  have hlen : (List.map (Value.int IntKind.i64) xs).length = n * 1 := by simp [HN.out]
  have hmx : 0 + n ≤ maxLen := by simp only [maxLen]; omega
  have HO := Lib.hid own0
  have HC := Lib.hid hcl
  have H1 := Lib.hid hone
  have HL := Lib.hid hlen
  have HM := Lib.hid hmx
  clear own0 hcl hone hlen hmx
  go_wp2_with (at_builtin; go_must (refine wpList_append_cells _ rfl (.tmp 3) (.tmp 4) _ rfl w.heap.size 3 i0 _ 1 8 Tryz.underlying32 hi0 hz0 hz1 hz2 rfl (by omega) (.slice (some ⟨w.heap.size, 0, none⟩) 0 0) 0 [] rfl HO.out B A n c _ rfl HC.out HL.out H1.out HM.out (by omega) (by simp) ?_); intro v1 w1 hown1 hg1 hat1)
  go_ret
  refine ⟨v1, rfl, ?_, pg (pa pr) HO.out (Nat.le_refl _) hg1⟩
  rw [HN.out]
  simpa using hown1

end Go.Proofs.YtbojmcopagbheaaGreatDoor
