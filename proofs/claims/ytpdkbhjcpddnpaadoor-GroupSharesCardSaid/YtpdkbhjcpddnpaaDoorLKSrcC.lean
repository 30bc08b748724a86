/- Where sources and currents lie: their cells, one behind the other. Contracts: the specification's copies of them. -/
import Derived.Test.YtpdkbhjcpddnpaaDoorLJCurL
import Derived.Test.YtpdkbhjcpddnpaaDoorAAppend
import Derived.Test.YtpdkbhjcpddnpaaDoorARegion
namespace Go.Proofs.YtpdkbhjcpddnpaaDoor
open Go.RowKit
attribute [local go_sem ↓] Go.wp_at_zero Go.wp_at_succ

def srcCells (ls : List Src) : List Value := ls.flatMap srcU
def cuC (c : Cu) : List Value := [.int .i64 c.pn, .int .i64 c.pd, .int .i64 c.qn, .int .i64 c.qd]
def cuCells (cs : List Cu) : List Value := cs.flatMap cuC
theorem flat4_len {α : Type} {f : α → List Value} (hf : ∀ x, (f x).length = 4) : ∀ l : List α, (l.flatMap f).length = l.length * 4
  | [] => rfl
  | x :: l => by rw [List.flatMap_cons, List.length_append, hf, flat4_len hf l, List.length_cons]; omega
theorem flat4_at {α : Type} [Inhabited α] {f : α → List Value} (hf : ∀ x, (f x).length = 4) : ∀ {l : List α} {j k : Nat}, j < l.length → k < 4 → (l.flatMap f)[j * 4 + k]? = (f (l.getD j default))[k]?
  | [], j, k, hj, _ => by simp at hj
  | x :: l, 0, k, _, hk => by
    rw [List.flatMap_cons, Nat.zero_mul, Nat.zero_add, List.getElem?_append_left (by rw [hf]; exact hk)]
    rfl
  | x :: l, j + 1, k, hj, hk => by
    rw [List.flatMap_cons, List.getElem?_append_right (by rw [hf]; omega), hf, show (j + 1) * 4 + k - 4 = j * 4 + k by omega, flat4_at hf (by simpa using hj) hk]
    rfl
theorem src_len (s : Src) : (srcU s).length = 4 := rfl
theorem cu_len (c : Cu) : (cuC c).length = 4 := rfl
theorem CellsIn.srcs {B : Nat} {w : World} {A : Option Addr} {ls : List Src} (h : CellsIn B w A (srcCells ls)) : SrcsIn B w A ls := by
  rcases h with h | ⟨b, off, hA, hb, hc⟩
  · refine .inl ?_
    have := congrArg List.length h
    unfold srcCells at this
    rw [flat4_len src_len] at this
    exact List.eq_nil_of_length_eq_zero (by simp at this; omega)
  · refine .inr ⟨b, off, hA, hb, fun j hj => ?_⟩
    have hl : (srcCells ls).length = ls.length * 4 := flat4_len src_len ls
    have q : ∀ k, k < 4 → w.cell? ⟨b, off + j * 4 + k, none⟩ = (srcU (ls.getD j default))[k]? := fun k hk => by
      rw [Nat.add_assoc, hc _ (by omega)]
      exact flat4_at src_len hj hk
    exact ⟨q 0 (by decide), q 1 (by decide), q 2 (by decide), q 3 (by decide)⟩
/-- A slice at A reads as these currents. -/
def CusIn (B : Nat) (w : World) (A : Option Addr) (cs : List Cu) : Prop :=
  cs = [] ∨ ∃ b off, A = some ⟨b, off, none⟩ ∧ b < B ∧ ∀ j, j < cs.length → w.cell? ⟨b, off + j * 4, none⟩ = some (.int .i64 (cs.getD j default).pn) ∧ w.cell? ⟨b, off + j * 4 + 1, none⟩ = some (.int .i64 (cs.getD j default).pd) ∧ w.cell? ⟨b, off + j * 4 + 2, none⟩ = some (.int .i64 (cs.getD j default).qn) ∧ w.cell? ⟨b, off + j * 4 + 3, none⟩ = some (.int .i64 (cs.getD j default).qd)
theorem CusIn.at_ {B : Nat} {w : World} {A : Option Addr} {cs : List Cu} {k : Nat} (h : CusIn B w A cs) (hk : k < cs.length) : ∃ b off, A = some ⟨b, off, none⟩ ∧ b < B ∧ ∀ j, j < cs.length → w.cell? ⟨b, off + j * 4, none⟩ = some (.int .i64 (cs.getD j default).pn) ∧ w.cell? ⟨b, off + j * 4 + 1, none⟩ = some (.int .i64 (cs.getD j default).pd) ∧ w.cell? ⟨b, off + j * 4 + 2, none⟩ = some (.int .i64 (cs.getD j default).qn) ∧ w.cell? ⟨b, off + j * 4 + 3, none⟩ = some (.int .i64 (cs.getD j default).qd) := by
  rcases h with h | h
  · subst h; simp at hk
  · exact h
theorem CusIn.keep {B : Nat} {w w' : World} {A : Option Addr} {cs : List Cu} (h : CusIn B w A cs) (hk : ∀ b o, b < B → w'.cell? ⟨b, o, none⟩ = w.cell? ⟨b, o, none⟩) : CusIn B w' A cs := by
  rcases h with h | ⟨b, off, hA, hb, hc⟩
  · exact .inl h
  · exact .inr ⟨b, off, hA, hb, fun j hj => by
      obtain ⟨h1, h2, h3, h4⟩ := hc j hj
      exact ⟨(hk _ _ hb).trans h1, (hk _ _ hb).trans h2, (hk _ _ hb).trans h3, (hk _ _ hb).trans h4⟩⟩
theorem CusIn.below {B : Nat} {w w' : World} {A : Option Addr} {cs : List Cu} (h : CusIn B w A cs) (hb : Below B w w') : CusIn B w' A cs := h.keep (bcell hb).1
theorem CusIn.more {B B' : Nat} {w : World} {A : Option Addr} {cs : List Cu} (h : CusIn B w A cs) (hB : B ≤ B') : CusIn B' w A cs := by
  rcases h with h | ⟨b, off, hA, hb, hc⟩
  · exact .inl h
  · exact .inr ⟨b, off, hA, by omega, hc⟩
theorem CellsIn.cus {B : Nat} {w : World} {A : Option Addr} {cs : List Cu} (h : CellsIn B w A (cuCells cs)) : CusIn B w A cs := by
  rcases h with h | ⟨b, off, hA, hb, hc⟩
  · refine .inl ?_
    have := congrArg List.length h
    unfold cuCells at this
    rw [flat4_len cu_len] at this
    exact List.eq_nil_of_length_eq_zero (by simp at this; omega)
  · refine .inr ⟨b, off, hA, hb, fun j hj => ?_⟩
    have hl : (cuCells cs).length = cs.length * 4 := flat4_len cu_len cs
    have q : ∀ k, k < 4 → w.cell? ⟨b, off + j * 4 + k, none⟩ = (cuC (cs.getD j default))[k]? := fun k hk => by
      rw [Nat.add_assoc, hc _ (by omega)]
      exact flat4_at cu_len hj hk
    exact ⟨q 0 (by decide), q 1 (by decide), q 2 (by decide), q 3 (by decide)⟩
theorem flat4_one {α : Type} {f : α → List Value} (hf : ∀ x, ∀ u ∈ f x, u.oneCell' = true) (l : List α) : ∀ u ∈ l.flatMap f, u.oneCell' = true := fun u hu => by
  obtain ⟨x, _, h⟩ := List.mem_flatMap.1 hu
  exact hf x u h
theorem src_one (s : Src) : ∀ u ∈ srcU s, u.oneCell' = true := by simp [srcU, Value.oneCell']
theorem cu_one (c : Cu) : ∀ u ∈ cuC c, u.oneCell' = true := by simp [cuC, Value.oneCell']
theorem source_info : (Tryd.prog.info? 42).map (fun i => (i.zero, i.size, i.bytes)) = some (some (.agg #[.int .i64 0, .int .i64 0, .int .i64 0, .int .i64 0]), 4, 32) := by kernel_rfl
theorem current_info : (Tryd.prog.info? 44).map (fun i => (i.zero, i.size, i.bytes)) = some (some (.agg #[.int .i64 0, .int .i64 0, .int .i64 0, .int .i64 0]), 4, 32) := by kernel_rfl
/-- Cells in a row of the callee's own as a result. -/
def CellsRet (w : World) (n : Nat) (us : List Value) (e : Ending) (w' : World) : Prop := ∃ (A : Option Addr) (c : Nat), e = .returned (.slice A n c) ∧ CellsIn w'.heap.size w' A us ∧ n ≤ c ∧ Below w.heap.size w w'
theorem app_len4 {n : Nat} (h : n ≤ 1000000) : 0 + n ≤ maxLen ∧ (0 + n) * 32 ≤ 140737488355328 := ⟨by simp only [maxLen]; omega, by omega⟩

set_option maxRecDepth 100000 in
set_option maxHeartbeats 1000000 in
theorem copySources_any (B : Nat) (A : Option Addr) (c : Nat) (xs : List Src) (w : World) (hr : CellsIn B w A (srcCells xs)) (hB : B ≤ w.heap.size) (hm : xs.length ≤ 1000000) :
    Calls Tryd.prog 8 #[.slice A xs.length c] w (CellsRet w xs.length (srcCells xs)) := by
  obtain ⟨i0, hi0, hz0, hz1, hz2⟩ := info_parts source_info
  go_enter Tryd.func8, Tryd.ntmps8
  have HO := Lib.hid (show (w.alloc (.cells #[] 42)).ownsRow w.heap.size 42 4 (.slice (some ⟨w.heap.size, 0, none⟩) 0 0) 0 [] from World.ownsRow_lit w #[] 0 (Nat.le_refl _) (Nat.zero_le _) rfl)
  have HC := Lib.hid (show CellsIn B (w.alloc (.cells #[] 42)) A (srcCells xs) from hr.below ((pa (Below.refl _ w)).mono hB))
  have H1 := Lib.hid (show ∀ u ∈ srcCells xs, u.oneCell' = true from flat4_one src_one xs)
  have HL := Lib.hid (show (srcCells xs).length = xs.length * 4 from flat4_len src_len xs)
  have HM := Lib.hid (app_len4 hm)
  clear hr hm
  generalize srcCells xs = us at *
  generalize xs.length = n at *
  go_wp2_with (at_builtin; go_must (refine wpList_append_cells _ rfl (.tmp 3) (.tmp 4) _ rfl w.heap.size 42 i0 _ 4 32 Tryd.underlying22 hi0 hz0 hz1 hz2 rfl (by decide) (.slice (some ⟨w.heap.size, 0, none⟩) 0 0) 0 [] rfl HO.out B A n c us rfl HC.out HL.out H1.out HM.out.1 HM.out.2 (by simp) ?_); intro v1 w1 hown1 hg1 hat1)
  go_ret
  rw [Nat.zero_add, List.nil_append] at hown1
  obtain ⟨A1, c1, rfl, hc1, _⟩ := own_form hown1
  exact ⟨A1, c1, rfl, cellsIn_of_own hown1, hc1, pg (pa pr) HO.out (Nat.le_refl _) hg1⟩
set_option maxRecDepth 100000 in
set_option maxHeartbeats 1000000 in
theorem copyCurrents_any (B : Nat) (A : Option Addr) (c : Nat) (xs : List Cu) (w : World) (hr : CellsIn B w A (cuCells xs)) (hB : B ≤ w.heap.size) (hm : xs.length ≤ 1000000) :
    Calls Tryd.prog 10 #[.slice A xs.length c] w (CellsRet w xs.length (cuCells xs)) := by
  obtain ⟨i0, hi0, hz0, hz1, hz2⟩ := info_parts current_info
  go_enter Tryd.func10, Tryd.ntmps10
  have HO := Lib.hid (show (w.alloc (.cells #[] 44)).ownsRow w.heap.size 44 4 (.slice (some ⟨w.heap.size, 0, none⟩) 0 0) 0 [] from World.ownsRow_lit w #[] 0 (Nat.le_refl _) (Nat.zero_le _) rfl)
  have HC := Lib.hid (show CellsIn B (w.alloc (.cells #[] 44)) A (cuCells xs) from hr.below ((pa (Below.refl _ w)).mono hB))
  have H1 := Lib.hid (show ∀ u ∈ cuCells xs, u.oneCell' = true from flat4_one cu_one xs)
  have HL := Lib.hid (show (cuCells xs).length = xs.length * 4 from flat4_len cu_len xs)
  have HM := Lib.hid (app_len4 hm)
  clear hr hm
  generalize cuCells xs = us at *
  generalize xs.length = n at *
  go_wp2_with (at_builtin; go_must (refine wpList_append_cells _ rfl (.tmp 3) (.tmp 4) _ rfl w.heap.size 44 i0 _ 4 32 Tryd.underlying31 hi0 hz0 hz1 hz2 rfl (by decide) (.slice (some ⟨w.heap.size, 0, none⟩) 0 0) 0 [] rfl HO.out B A n c us rfl HC.out HL.out H1.out HM.out.1 HM.out.2 (by simp) ?_); intro v1 w1 hown1 hg1 hat1)
  go_ret
  rw [Nat.zero_add, List.nil_append] at hown1
  obtain ⟨A1, c1, rfl, hc1, _⟩ := own_form hown1
  exact ⟨A1, c1, rfl, cellsIn_of_own hown1, hc1, pg (pa pr) HO.out (Nat.le_refl _) hg1⟩

end Go.Proofs.YtpdkbhjcpddnpaaDoor
