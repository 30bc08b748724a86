/- Contract: a slice's copy (slices.Clone at numbers) is a row of the call's own with the same numbers. -/
import Derived.Test.YtnfbdkdjoekifaaGreatDoorOd3
import Derived.Test.YtnfbdkdjoekifaaGreatDoorOa2

section
namespace Go.Proofs.YtnfbdkdjoekifaaGreatDoor
open Go.RowKit

/-- A result that is a new row of numbers. -/
def RowRet (w : World) (xs : List Int) (e : Ending) (w' : World) : Prop :=
  ∃ v, e = .returned v ∧ w'.ownsRow w.heap.size 3 1 v xs.length (xs.map (Value.int .i64)) ∧ Below w.heap.size w w'

set_option maxRecDepth 100000 in
set_option maxHeartbeats 400000 in
theorem clone_any (B : Nat) (A : Option Addr) (n c : Nat) (xs : List Int) (w : World) (hr : IntsIn B w A xs) (hn : xs.length = n) (hB : B ≤ w.heap.size) (hm : n ≤ 1000) :
    Calls Tryz.prog 37 #[.slice A n c] w (RowRet w xs) := by
  obtain ⟨i0, hi0, hz0, hz1, hz2⟩ := info_parts int_info
  have hnil := fun (w : World) (A : Option Addr) => Lib.run_eql_slice_nil (P := Tryz.prog) w 32 3 A n c 0 0 Tryz.underlying32
  have HR := Lib.hid hr.cells
  have HN := Lib.hid hn
  clear hr hn
  rcases A with _ | ad
  · have hx : xs = [] := by
      rcases HR.out with h | ⟨_, _, h, _⟩
      · simpa using h
      · cases h
    subst hx
    go_enter Tryz.func37, Tryz.ntmps37
    go_wp2
    go_ret
    exact ⟨_, rfl, World.ownsRow_nil _ _ _ _, pr⟩
  · go_enter Tryz.func37, Tryz.ntmps37
    have own0 : (w.alloc (.cells #[] 3)).ownsRow w.heap.size 3 1 (.slice (some ⟨w.heap.size, 0, none⟩) 0 0) 0 [] := World.ownsRow_lit w #[] 0 (Nat.le_refl _) (Nat.zero_le _) rfl
    have hcl : CellsIn B (w.alloc (.cells #[] 3)) (some ad) (List.map (Value.int IntKind.i64) xs) := HR.out.below ((pa (Below.refl _ w)).mono hB)
    have hone : ∀ u ∈ List.map (Value.int IntKind.i64) xs, u.oneCell' = true := by simp [Value.oneCell']
    have hlen : (List.map (Value.int IntKind.i64) xs).length = n * 1 := by simp [HN.out]
    have hmx : 0 + n ≤ maxLen := by simp only [maxLen]; omega
    have HO := Lib.hid own0
    have HC := Lib.hid hcl
    have H1 := Lib.hid hone
    have HL := Lib.hid hlen
    have HM := Lib.hid hmx
    clear own0 hcl hone hlen hmx
    go_wp2_with (at_builtin; go_must (refine wpList_append_cells _ rfl (.tmp 5) (.tmp 6) _ rfl w.heap.size 3 i0 _ 1 8 Tryz.underlying32 hi0 hz0 hz1 hz2 rfl (by omega) (.slice (some ⟨w.heap.size, 0, none⟩) 0 0) 0 [] rfl HO.out B (some ad) n c _ rfl HC.out HL.out H1.out HM.out (by omega) (by simp) ?_); intro v1 w1 hown1 hg1 hat1)
    go_ret
    refine ⟨v1, rfl, ?_, pg (pa pr) HO.out (Nat.le_refl _) hg1⟩
    rw [HN.out]
    simpa using hown1

end Go.Proofs.YtnfbdkdjoekifaaGreatDoor
end
