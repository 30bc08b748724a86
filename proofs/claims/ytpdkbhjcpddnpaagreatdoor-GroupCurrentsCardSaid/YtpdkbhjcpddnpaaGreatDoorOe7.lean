/- The walk of the law on currents. Printed by a program (gen_curlaw.py). -/
import Derived.Test.YtpdkbhjcpddnpaaGreatDoorOe1
import Derived.Test.YtpdkbhjcpddnpaaGreatDoorOe2
import Derived.Test.YtpdkbhjcpddnpaaGreatDoorOe3
import Derived.Test.YtpdkbhjcpddnpaaGreatDoorOd9
import Derived.Test.YtpdkbhjcpddnpaaGreatDoorOe6

section
namespace Go.Proofs.YtpdkbhjcpddnpaaGreatDoor
open Go.RowKit
attribute [local go_sem ↓] Go.wp_at_zero Go.wp_at_succ

theorem curSmall_all {ls : List Src} {p q : Int} : CurSmall ls p q ↔ allSmall ls p q := by
  have key : ∀ x : Rat, fsmallB x.num (x.den : Int) = smallR x := fun x => by
    have := x.den_nz
    have h1 : (1 : Int) ≤ (x.den : Int) := by omega
    unfold fsmallB smallR
    rw [show withinB (x.den : Int) 1 1000000000 = decide ((x.den : Int) ≤ 1000000000) by unfold withinB; rw [decide_eq_true h1, Bool.true_and]]
  unfold CurSmall allSmall
  constructor
  · intro h s hs
    obtain ⟨j, hj, rfl⟩ := List.mem_iff_getElem.1 hs
    have := h j hj
    rw [key, key] at this
    rwa [show ls.getD j default = ls[j] by simp [List.getD, hj]] at this
  · intro h j hj
    rw [key, key]
    exact h _ (cur_mem hj)
theorem cur_ok64 {ls : List Src} {p q : Int} (h : loadE ls p q = 0) : sourcesE ls = 0 ∧ phE p q = 0 := by
  unfold loadE at h
  split at h
  · rename_i h1; exact ⟨h1, h⟩
  · rename_i h1; exact absurd h h1


set_option maxHeartbeats 16000000 in
set_option maxRecDepth 100000 in
theorem curlaw_many (ls : List Src) (A : Option Addr) (c : Nat) (p q : Int) (cs : List Cu) (A2 : Option Addr) (c2 : Nat) (w : World) (_hr : CellsIn w.heap.size w A (srcCells ls)) (_hr2 : CellsIn w.heap.size w A2 (cuCells cs)) (_h64 : ∀ s ∈ ls, Src64 s) (_h64c : ∀ s ∈ cs, Cu64 s) (hT : TwIn w) (hP : PatIn w) (h : 6 < ls.length ∨ 6 < cs.length) :
    Calls Tryz.prog 3 #[.agg #[.slice A ls.length c, .int .i64 p, .int .i64 q], .slice A2 cs.length c2] w fun e w' => e = .returned (.bool true) ∧ Below w.heap.size w w' := by
  have HAw := Lib.hid (show ∀ W, Below w.heap.size w W → Calls Tryz.prog 6 #[] W fun e w' => e = .returned (.bool true) ∧ Below W.heap.size W w' from fun W hW => awake_any W (hT.below hW) (hP.below hW))
  clear _hr _hr2 _h64 _h64c hT hP
  generalize ls.length = n at *
  generalize cs.length = m at *
  by_cases h1 : 6 < n
  · have i1 : (6 : Int) < (n : Int) := by omega
    clear h
    go_enter Tryz.func3, Tryz.ntmps3
    go_wp2_with (go_at_call 6; (with_reducible refine (HAw.out _ (pa pr)).mono ?_); rintro e w1 ⟨rfl, hb1⟩; have BX := Lib.hid (show Blk w1 w.heap.size 26 #[.slice A n c, .int .i64 p, .int .i64 q] from (Blk.newAt (w := w) (t := 26) (cs := #[.slice A n c, .int .i64 p, .int .i64 q]) rfl).past hb1); have HQ := Lib.hid (pt (pa (pr (w := w))) hb1); have x0 := BX.out.cellAt 0 rfl; have xl := BX.out.lt; clear hb1)
    go_ret
    exact ⟨rfl, HQ.out⟩
  · have h2 : 6 < m := by omega
    have i1 : ¬ (6 : Int) < (n : Int) := by omega
    have i2 : (6 : Int) < (m : Int) := by omega
    clear h
    go_enter Tryz.func3, Tryz.ntmps3
    go_wp2_with (go_at_call 6; (with_reducible refine (HAw.out _ (pa pr)).mono ?_); rintro e w1 ⟨rfl, hb1⟩; have BX := Lib.hid (show Blk w1 w.heap.size 26 #[.slice A n c, .int .i64 p, .int .i64 q] from (Blk.newAt (w := w) (t := 26) (cs := #[.slice A n c, .int .i64 p, .int .i64 q]) rfl).past hb1); have HQ := Lib.hid (pt (pa (pr (w := w))) hb1); have x0 := BX.out.cellAt 0 rfl; have xl := BX.out.lt; clear hb1)
    go_ret
    exact ⟨rfl, HQ.out⟩

set_option maxHeartbeats 16000000 in
set_option maxRecDepth 100000 in
theorem curlaw_srcs (ls : List Src) (A : Option Addr) (c : Nat) (p q : Int) (cs : List Cu) (A2 : Option Addr) (c2 : Nat) (w : World) (hr : CellsIn w.heap.size w A (srcCells ls)) (hr2 : CellsIn w.heap.size w A2 (cuCells cs)) (h64 : ∀ s ∈ ls, Src64 s) (h64c : ∀ s ∈ cs, Cu64 s) (hT : TwIn w) (hP : PatIn w) (hl : ls.length ≤ 6) (hm : cs.length ≤ 6) (h0 : sourcesE ls ≠ 0) :
    Calls Tryz.prog 3 #[.agg #[.slice A ls.length c, .int .i64 p, .int .i64 q], .slice A2 cs.length c2] w fun e w' => e = .returned (.bool true) ∧ Below w.heap.size w w' := by
  have HAw := Lib.hid (show ∀ W, Below w.heap.size w W → Calls Tryz.prog 6 #[] W fun e w' => e = .returned (.bool true) ∧ Below W.heap.size W w' from fun W hW => awake_any W (hT.below hW) (hP.below hW))
  have n6 : (ls.length : Int) ≤ 6 := by omega
  have m6 : (cs.length : Int) ≤ 6 := by omega
  have i1 : ¬ (6 : Int) < (ls.length : Int) := by omega
  have i2 : ¬ (6 : Int) < (cs.length : Int) := by omega
  have i3 : ¬ 6 < ls.length := by omega
  have i4 : ¬ 6 < cs.length := by omega
  have HXc := Lib.hid (show ∀ W, Below w.heap.size w W → CellsIn W.heap.size W A (srcCells ls) from fun W hW => (hr.below hW).more hW.size)
  have HYc := Lib.hid (show ∀ W, Below w.heap.size w W → CellsIn W.heap.size W A2 (cuCells cs) from fun W hW => (hr2.below hW).more hW.size)
  have HCp := Lib.hid (show ∀ W, Below w.heap.size w W → Calls Tryz.prog 8 #[.slice A ls.length c] W (CellsRet W ls.length (srcCells ls)) from fun W hW => copySources_any W.heap.size A c ls W ((hr.below hW).more hW.size) (Nat.le_refl _) (by omega))
  have HCd := Lib.hid (show ∀ W, Below w.heap.size w W → Calls Tryz.prog 10 #[.slice A2 cs.length c2] W (CellsRet W cs.length (cuCells cs)) from fun W hW => copyCurrents_any W.heap.size A2 c2 cs W ((hr2.below hW).more hW.size) (Nat.le_refl _) (by omega))
  have HSe := Lib.hid (show ∀ W, Below w.heap.size w W → Calls Tryz.prog 11 #[.slice A ls.length c] W fun e w' => e = .returned (.int .i64 (sourcesE ls)) ∧ Below W.heap.size W w' from fun W hW => refSourcesErr_any W.heap.size ls A c W ((hr.below hW).more hW.size).srcs (Nat.le_refl _) h64)
  have HPe := Lib.hid (fun W => refPhasorErr_any p q W)
  have HCk := Lib.hid (show ∀ W A1 c1 A6 c6, CellsIn W.heap.size W A1 (srcCells ls) → CellsIn W.heap.size W A6 (cuCells cs) → Calls Tryz.prog 9 #[.slice A1 ls.length c1, .agg #[.int .i64 p, .int .i64 q], .slice A6 cs.length c6] W fun e w' => e = .returned (.tuple #[.int .i64 (checkV ls p q cs).1, .int .i64 (checkV ls p q cs).2]) ∧ Below W.heap.size W w' from fun W A1 c1 A6 c6 h1 h2 => CheckCurrents_any W.heap.size ls A1 c1 cs A6 c6 p q W h1.srcs h2.cus (Nat.le_refl _) h64 h64c)
  have hle : loadE ls p q = sourcesE ls := by unfold loadE; rw [if_neg h0]
  have hne : loadE ls p q ≠ 0 := by rw [hle]; exact h0
  have HCu := Lib.hid (show ∀ W A1 c1, CellsIn W.heap.size W A1 (srcCells ls) → Calls Tryz.prog 7 #[.slice A1 ls.length c1, .agg #[.int .i64 p, .int .i64 q]] W fun e w' => e = .returned (.tuple #[.slice none 0 0, .int .i64 (sourcesE ls)]) ∧ Below W.heap.size W w' from fun W A1 c1 h => by
    have z := CurrentsOf_err W.heap.size ls A1 c1 p q W h.srcs (Nat.le_refl _) h64 hne
    rw [hle] at z
    exact z)
  rw [check_err hne, hle] at HCk
  have e1 : (sourcesE ls != 0) = true := by simpa using h0
  have e2 : (sourcesE ls == 0) = false := by simpa using h0
  have e3 : ¬ sourcesE ls = 0 := h0
  clear hle hne h0
  generalize sourcesE ls = E at *
  clear hr hr2 h64 h64c hT hP hl hm
  go_enter Tryz.func3, Tryz.ntmps3
  go_wp2_with (go_at_call 6; (with_reducible refine (HAw.out _ (pa pr)).mono ?_); rintro e w1 ⟨rfl, hb1⟩; have BX := Lib.hid (show Blk w1 w.heap.size 26 #[.slice A ls.length c, .int .i64 p, .int .i64 q] from (Blk.newAt (w := w) (t := 26) (cs := #[.slice A ls.length c, .int .i64 p, .int .i64 q]) rfl).past hb1); have HQ := Lib.hid (pt (pa (pr (w := w))) hb1); have x0 := BX.out.cellAt 0 rfl; have xl := BX.out.lt; clear hb1)
  clear x0 xl
  have HSS := Lib.hid (show ∀ W, Below w1.heap.size w1 W → W.cell? ⟨w.heap.size, 0, none⟩ = some (.slice A ls.length c) ∧ W.cell? ⟨w.heap.size, 1, none⟩ = some (.int .i64 p) ∧ W.cell? ⟨w.heap.size, 2, none⟩ = some (.int .i64 q) from fun W hW => ⟨(BX.out.past hW).cellAt 0 rfl, (BX.out.past hW).cellAt 1 rfl, (BX.out.past hW).cellAt 2 rfl⟩)
  refine wp_region_G 10 follows_mixed (fun W => W.cell? ⟨w.heap.size, 0, none⟩ = some (.slice A ls.length c) ∧ W.cell? ⟨w.heap.size, 1, none⟩ = some (.int .i64 p) ∧ W.cell? ⟨w.heap.size, 2, none⟩ = some (.int .i64 q)) (HSS.out _ (pd pr)) ?_
  intro hSd inv
  have HSd := Lib.hid hSd
  clear hSd
  have HB0 := Lib.hid (show Below w1.heap.size w1 w1.drew from pd pr)
  refine wpAnyG_take (i := 0) (v := ?_) rfl (by kernel_rfl) (by kernel_rfl) (by kernel_rfl) (by kernel_rfl) (by kernel_rfl) (by decide) (by decide) inv (fun _ _ _ h => h) (Or.inl ⟨by rfl, ?_⟩) HSd.out ?_; rotate_left; (focus (intro W y1; obtain ⟨y1, y2, y3⟩ := y1; go_simp; (first | done | with_reducible rfl))); clear inv; intro inv; simp only [List.getElem_toArray, List.getElem_cons_zero, Act.put, List.setIfInBounds_toArray, List.set_cons_zero, List.set_cons_succ]
  refine wpAnyG_take (i := 1) (v := ?_) rfl (by kernel_rfl) (by kernel_rfl) (by kernel_rfl) (by kernel_rfl) (by kernel_rfl) (by decide) (by decide) inv (fun _ _ _ h => h) (Or.inl ⟨by rfl, ?_⟩) HSd.out ?_; rotate_left; (focus (intro W y1; obtain ⟨y1, y2, y3⟩ := y1; go_simp; (first | done | with_reducible rfl))); clear inv; intro inv; simp only [List.getElem_toArray, List.getElem_cons_zero, List.getElem_cons_succ, Act.put, List.setIfInBounds_toArray, List.set_cons_zero, List.set_cons_succ]
  refine wpAnyG_take (i := 3) (v := ?_) rfl (by kernel_rfl) (by kernel_rfl) (by kernel_rfl) (by kernel_rfl) (by kernel_rfl) (by decide) (by decide) inv (fun _ _ _ h => h) (Or.inl ⟨by rfl, ?_⟩) HSd.out ?_; rotate_left; (focus (intro W y1; obtain ⟨y1, y2, y3⟩ := y1; go_simp; (first | done | with_reducible rfl))); clear inv; intro inv; simp only [List.getElem_toArray, List.getElem_cons_zero, List.getElem_cons_succ, Act.put, List.setIfInBounds_toArray, List.set_cons_zero, List.set_cons_succ]
  refine wpAnyG_take (i := 4) (v := ?_) rfl (by kernel_rfl) (by kernel_rfl) (by kernel_rfl) (by kernel_rfl) (by kernel_rfl) (by decide) (by decide) inv (fun _ _ _ h => h) (Or.inl ⟨by rfl, ?_⟩) HSd.out ?_; rotate_left; (focus (intro W y1; obtain ⟨y1, y2, y3⟩ := y1; go_simp; (first | done | with_reducible rfl))); clear inv; intro inv; simp only [List.getElem_toArray, List.getElem_cons_zero, List.getElem_cons_succ, Act.put, List.setIfInBounds_toArray, List.set_cons_zero, List.set_cons_succ]
  have HInv := Lib.hid inv
  clear inv
  refine wpAnyG_one (i := 2) (by kernel_rfl) rfl rfl fun K hK => ?_
  go_simp
  refine (HCp.out _ (pt HQ.out HB0.out)).mono ?_
  rintro e w2 ⟨A4, c4, rfl, hc4, hl4, hb⟩
  have HBx2 := Lib.hid (show Below w1.heap.size w1 w2 from pt HB0.out hb)
  have HC4 := Lib.hid hc4
  clear hc4 hl4
  refine hK.out _ _ (fun _ => HSS.out _ HBx2.out) ?_
  clear hK K hb
  replace HInv := Lib.hid (inv_one (i := 2) HInv.out (by kernel_rfl) (by decide))
  refine wpAnyG_one (i := 5) (by kernel_rfl) rfl rfl fun K hK => ?_
  go_simp
  refine (HCu.out _ A4 c4 HC4.out).mono ?_
  rintro e w3 ⟨rfl, hb⟩
  have HBx5 := Lib.hid (show Below w1.heap.size w1 w3 from pt HBx2.out hb)
  clear HC4
  refine hK.out _ _ (fun _ => HSS.out _ HBx5.out) ?_
  clear hK K hb
  replace HInv := Lib.hid (inv_one (i := 5) HInv.out (by kernel_rfl) (by decide))
  refine wpAnyG_one (i := 6) (by kernel_rfl) rfl rfl fun K hK => ?_
  go_simp
  refine hK.out _ _ (fun _ => HSS.out _ HBx5.out) ?_
  clear hK K
  replace HInv := Lib.hid (inv_one (i := 6) HInv.out (by kernel_rfl) (by decide))
  have inv := HInv.out
  clear HInv
  replace HSd := Lib.hid (HSS.out _ HBx5.out)
  refine wpAnyG_take (i := 7) (v := ?_) rfl (by kernel_rfl) (by kernel_rfl) (by kernel_rfl) (by kernel_rfl) (by kernel_rfl) (by decide) (by decide) inv (fun _ _ _ h => h) (Or.inl ⟨by rfl, ?_⟩) HSd.out ?_; rotate_left; (focus (intro W y1; obtain ⟨y1, y2, y3⟩ := y1; go_simp; (first | done | with_reducible rfl))); clear inv; intro inv; simp only [List.getElem_toArray, List.getElem_cons_zero, List.getElem_cons_succ, Act.put, List.setIfInBounds_toArray, List.set_cons_zero, List.set_cons_succ]
  refine wpAnyG_take (i := 8) (v := ?_) rfl (by kernel_rfl) (by kernel_rfl) (by kernel_rfl) (by kernel_rfl) (by kernel_rfl) (by decide) (by decide) inv (fun _ _ _ h => h) (Or.inl ⟨by rfl, ?_⟩) HSd.out ?_; rotate_left; (focus (intro W y1; obtain ⟨y1, y2, y3⟩ := y1; go_simp; (first | done | with_reducible rfl))); clear inv; intro inv; simp only [List.getElem_toArray, List.getElem_cons_zero, List.getElem_cons_succ, Act.put, List.setIfInBounds_toArray, List.set_cons_zero, List.set_cons_succ]
  have HInv := Lib.hid inv
  clear inv
  refine wpAnyG_one (i := 9) (by kernel_rfl) rfl rfl fun K hK => ?_
  go_simp
  refine hK.out _ _ (fun _ => HSS.out _ HBx5.out) ?_
  clear hK K
  replace HInv := Lib.hid (inv_one (i := 9) HInv.out (by kernel_rfl) (by decide))
  refine wpAnyG_one (i := 10) (by kernel_rfl) rfl rfl fun K hK => ?_
  go_simp
  refine hK.out _ _ (fun h => absurd h (by decide)) ?_
  clear hK K
  refine wpAnyG_done (by kernel_rfl) ?_
  clear HInv
  clear HSS HSd HB0
  have BX3 := Lib.hid (BX.out.past HBx5.out)
  have HQ3 := Lib.hid (pt HQ.out HBx5.out)
  clear BX HQ HAw HCu
  as_aux_lemma =>
  go_wp2
  have HSS := Lib.hid (show ∀ W, Below w3.heap.size w3 W → W.cell? ⟨w.heap.size, 0, none⟩ = some (.slice A ls.length c) ∧ W.cell? ⟨w.heap.size, 1, none⟩ = some (.int .i64 p) ∧ W.cell? ⟨w.heap.size, 2, none⟩ = some (.int .i64 q) from fun W hW => ⟨(BX3.out.past hW).cellAt 0 rfl, (BX3.out.past hW).cellAt 1 rfl, (BX3.out.past hW).cellAt 2 rfl⟩)
  refine wp_region_G 12 follows_mixed (fun W => W.cell? ⟨w.heap.size, 0, none⟩ = some (.slice A ls.length c) ∧ W.cell? ⟨w.heap.size, 1, none⟩ = some (.int .i64 p) ∧ W.cell? ⟨w.heap.size, 2, none⟩ = some (.int .i64 q)) (HSS.out _ (pd pr)) ?_
  intro hSd inv
  have HSd := Lib.hid hSd
  clear hSd
  have HB0 := Lib.hid (show Below w3.heap.size w3 w3.drew from pd pr)
  refine wpAnyG_take (i := 0) (v := ?_) rfl (by kernel_rfl) (by kernel_rfl) (by kernel_rfl) (by kernel_rfl) (by kernel_rfl) (by decide) (by decide) inv (fun _ _ _ h => h) (Or.inl ⟨by rfl, ?_⟩) HSd.out ?_; rotate_left; (focus (intro W y1; obtain ⟨y1, y2, y3⟩ := y1; go_simp; (first | done | with_reducible rfl))); clear inv; intro inv; simp only [List.getElem_toArray, List.getElem_cons_zero, Act.put, List.setIfInBounds_toArray, List.set_cons_zero, List.set_cons_succ]
  refine wpAnyG_take (i := 1) (v := ?_) rfl (by kernel_rfl) (by kernel_rfl) (by kernel_rfl) (by kernel_rfl) (by kernel_rfl) (by decide) (by decide) inv (fun _ _ _ h => h) (Or.inl ⟨by rfl, ?_⟩) HSd.out ?_; rotate_left; (focus (intro W y1; obtain ⟨y1, y2, y3⟩ := y1; go_simp; (first | done | with_reducible rfl))); clear inv; intro inv; simp only [List.getElem_toArray, List.getElem_cons_zero, List.getElem_cons_succ, Act.put, List.setIfInBounds_toArray, List.set_cons_zero, List.set_cons_succ]
  refine wpAnyG_take (i := 3) (v := ?_) rfl (by kernel_rfl) (by kernel_rfl) (by kernel_rfl) (by kernel_rfl) (by kernel_rfl) (by decide) (by decide) inv (fun _ _ _ h => h) (Or.inl ⟨by rfl, ?_⟩) HSd.out ?_; rotate_left; (focus (intro W y1; obtain ⟨y1, y2, y3⟩ := y1; go_simp; (first | done | with_reducible rfl))); clear inv; intro inv; simp only [List.getElem_toArray, List.getElem_cons_zero, List.getElem_cons_succ, Act.put, List.setIfInBounds_toArray, List.set_cons_zero, List.set_cons_succ]
  refine wpAnyG_take (i := 4) (v := ?_) rfl (by kernel_rfl) (by kernel_rfl) (by kernel_rfl) (by kernel_rfl) (by kernel_rfl) (by decide) (by decide) inv (fun _ _ _ h => h) (Or.inl ⟨by rfl, ?_⟩) HSd.out ?_; rotate_left; (focus (intro W y1; obtain ⟨y1, y2, y3⟩ := y1; go_simp; (first | done | with_reducible rfl))); clear inv; intro inv; simp only [List.getElem_toArray, List.getElem_cons_zero, List.getElem_cons_succ, Act.put, List.setIfInBounds_toArray, List.set_cons_zero, List.set_cons_succ]
  refine wpAnyG_take (i := 5) (v := ?_) rfl (by kernel_rfl) (by kernel_rfl) (by kernel_rfl) (by kernel_rfl) (by kernel_rfl) (by decide) (by decide) inv (fun _ _ _ h => h) (Or.inl ⟨by rfl, ?_⟩) HSd.out ?_; rotate_left; (focus (intro W y1; obtain ⟨y1, y2, y3⟩ := y1; go_simp; (first | done | with_reducible rfl))); clear inv; intro inv; simp only [List.getElem_toArray, List.getElem_cons_zero, List.getElem_cons_succ, Act.put, List.setIfInBounds_toArray, List.set_cons_zero, List.set_cons_succ]
  have HInv := Lib.hid inv
  clear inv
  refine wpAnyG_one (i := 2) (by kernel_rfl) rfl rfl fun K hK => ?_
  go_simp
  refine (HCp.out _ (pt HQ3.out HB0.out)).mono ?_
  rintro e w4 ⟨A6, c6, rfl, hc6, hl6, hb⟩
  have HBx2 := Lib.hid (show Below w3.heap.size w3 w4 from pt HB0.out hb)
  have HC6 := Lib.hid hc6
  clear hc6 hl6
  refine hK.out _ _ (fun _ => HSS.out _ HBx2.out) ?_
  clear hK K hb
  replace HInv := Lib.hid (inv_one (i := 2) HInv.out (by kernel_rfl) (by decide))
  refine wpAnyG_one (i := 6) (by kernel_rfl) rfl rfl fun K hK => ?_
  go_simp
  refine (HCd.out _ (pt HQ3.out HBx2.out)).mono ?_
  rintro e w5 ⟨A7, c7, rfl, hc7, hl7, hb⟩
  have HBx6 := Lib.hid (show Below w3.heap.size w3 w5 from pt HBx2.out hb)
  have HC7 := Lib.hid hc7
  have HC8 := Lib.hid ((HC6.out.below hb).more hb.size)
  clear hc7 hl7
  refine hK.out _ _ (fun _ => HSS.out _ HBx6.out) ?_
  clear hK K hb
  replace HInv := Lib.hid (inv_one (i := 6) HInv.out (by kernel_rfl) (by decide))
  refine wpAnyG_one (i := 7) (by kernel_rfl) rfl rfl fun K hK => ?_
  go_simp
  refine (HCk.out w5 A6 c6 A7 c7 HC8.out HC7.out).mono ?_
  rintro e w6 ⟨rfl, hb⟩
  have HBx7 := Lib.hid (show Below w3.heap.size w3 w6 from pt HBx6.out hb)
  clear HC7 HC6 HC8
  refine hK.out _ _ (fun _ => HSS.out _ HBx7.out) ?_
  clear hK K hb
  replace HInv := Lib.hid (inv_one (i := 7) HInv.out (by kernel_rfl) (by decide))
  refine wpAnyG_one (i := 8) (by kernel_rfl) rfl rfl fun K hK => ?_
  go_simp
  refine hK.out _ _ (fun _ => HSS.out _ HBx7.out) ?_
  clear hK K
  replace HInv := Lib.hid (inv_one (i := 8) HInv.out (by kernel_rfl) (by decide))
  have inv := HInv.out
  clear HInv
  replace HSd := Lib.hid (HSS.out _ HBx7.out)
  refine wpAnyG_take (i := 9) (v := ?_) rfl (by kernel_rfl) (by kernel_rfl) (by kernel_rfl) (by kernel_rfl) (by kernel_rfl) (by decide) (by decide) inv (fun _ _ _ h => h) (Or.inl ⟨by rfl, ?_⟩) HSd.out ?_; rotate_left; (focus (intro W y1; obtain ⟨y1, y2, y3⟩ := y1; go_simp; (first | done | with_reducible rfl))); clear inv; intro inv; simp only [List.getElem_toArray, List.getElem_cons_zero, List.getElem_cons_succ, Act.put, List.setIfInBounds_toArray, List.set_cons_zero, List.set_cons_succ]
  refine wpAnyG_take (i := 10) (v := ?_) rfl (by kernel_rfl) (by kernel_rfl) (by kernel_rfl) (by kernel_rfl) (by kernel_rfl) (by decide) (by decide) inv (fun _ _ _ h => h) (Or.inl ⟨by rfl, ?_⟩) HSd.out ?_; rotate_left; (focus (intro W y1; obtain ⟨y1, y2, y3⟩ := y1; go_simp; (first | done | with_reducible rfl))); clear inv; intro inv; simp only [List.getElem_toArray, List.getElem_cons_zero, List.getElem_cons_succ, Act.put, List.setIfInBounds_toArray, List.set_cons_zero, List.set_cons_succ]
  have HInv := Lib.hid inv
  clear inv
  refine wpAnyG_one (i := 11) (by kernel_rfl) rfl rfl fun K hK => ?_
  go_simp
  refine hK.out _ _ (fun _ => HSS.out _ HBx7.out) ?_
  clear hK K
  replace HInv := Lib.hid (inv_one (i := 11) HInv.out (by kernel_rfl) (by decide))
  refine wpAnyG_one (i := 12) (by kernel_rfl) rfl rfl fun K hK => ?_
  go_simp
  refine hK.out _ _ (fun h => absurd h (by decide)) ?_
  clear hK K
  refine wpAnyG_done (by kernel_rfl) ?_
  clear HInv
  clear HSS HSd HB0
  have BX6 := Lib.hid (BX3.out.past HBx7.out)
  have HQ6 := Lib.hid (pt HQ3.out HBx7.out)
  clear BX3 HQ3 HCp HCd HCk
  have x0 := BX6.out.cellAt 0 rfl
  have x1 := BX6.out.cellAt 1 rfl
  have x2 := BX6.out.cellAt 2 rfl
  have xl := BX6.out.lt
  as_aux_lemma =>
  go_wp2_with (first
    | (go_at_call 11; (with_reducible refine (HSe.out _ HQ6.out).mono ?_); rintro e w7 ⟨rfl, hb⟩; have BX7 := Lib.hid (BX6.out.past hb); have HQ7 := Lib.hid (pt HQ6.out hb); clear x0 x1 x2 xl; have x0 := BX7.out.cellAt 0 rfl; have x1 := BX7.out.cellAt 1 rfl; have x2 := BX7.out.cellAt 2 rfl; have xl := BX7.out.lt; clear hb))
  go_ret
  exact ⟨by first | rfl | simp, HQ7.out⟩

set_option maxHeartbeats 16000000 in
set_option maxRecDepth 100000 in
theorem curlaw_load (ls : List Src) (A : Option Addr) (c : Nat) (p q : Int) (cs : List Cu) (A2 : Option Addr) (c2 : Nat) (w : World) (hr : CellsIn w.heap.size w A (srcCells ls)) (hr2 : CellsIn w.heap.size w A2 (cuCells cs)) (h64 : ∀ s ∈ ls, Src64 s) (h64c : ∀ s ∈ cs, Cu64 s) (hT : TwIn w) (hP : PatIn w) (hl : ls.length ≤ 6) (hm : cs.length ≤ 6) (h0 : sourcesE ls = 0) (h1 : phE p q ≠ 0) :
    Calls Tryz.prog 3 #[.agg #[.slice A ls.length c, .int .i64 p, .int .i64 q], .slice A2 cs.length c2] w fun e w' => e = .returned (.bool true) ∧ Below w.heap.size w w' := by
  have HAw := Lib.hid (show ∀ W, Below w.heap.size w W → Calls Tryz.prog 6 #[] W fun e w' => e = .returned (.bool true) ∧ Below W.heap.size W w' from fun W hW => awake_any W (hT.below hW) (hP.below hW))
  have n6 : (ls.length : Int) ≤ 6 := by omega
  have m6 : (cs.length : Int) ≤ 6 := by omega
  have i1 : ¬ (6 : Int) < (ls.length : Int) := by omega
  have i2 : ¬ (6 : Int) < (cs.length : Int) := by omega
  have i3 : ¬ 6 < ls.length := by omega
  have i4 : ¬ 6 < cs.length := by omega
  have HXc := Lib.hid (show ∀ W, Below w.heap.size w W → CellsIn W.heap.size W A (srcCells ls) from fun W hW => (hr.below hW).more hW.size)
  have HYc := Lib.hid (show ∀ W, Below w.heap.size w W → CellsIn W.heap.size W A2 (cuCells cs) from fun W hW => (hr2.below hW).more hW.size)
  have HCp := Lib.hid (show ∀ W, Below w.heap.size w W → Calls Tryz.prog 8 #[.slice A ls.length c] W (CellsRet W ls.length (srcCells ls)) from fun W hW => copySources_any W.heap.size A c ls W ((hr.below hW).more hW.size) (Nat.le_refl _) (by omega))
  have HCd := Lib.hid (show ∀ W, Below w.heap.size w W → Calls Tryz.prog 10 #[.slice A2 cs.length c2] W (CellsRet W cs.length (cuCells cs)) from fun W hW => copyCurrents_any W.heap.size A2 c2 cs W ((hr2.below hW).more hW.size) (Nat.le_refl _) (by omega))
  have HSe := Lib.hid (show ∀ W, Below w.heap.size w W → Calls Tryz.prog 11 #[.slice A ls.length c] W fun e w' => e = .returned (.int .i64 (sourcesE ls)) ∧ Below W.heap.size W w' from fun W hW => refSourcesErr_any W.heap.size ls A c W ((hr.below hW).more hW.size).srcs (Nat.le_refl _) h64)
  have HPe := Lib.hid (fun W => refPhasorErr_any p q W)
  have HCk := Lib.hid (show ∀ W A1 c1 A6 c6, CellsIn W.heap.size W A1 (srcCells ls) → CellsIn W.heap.size W A6 (cuCells cs) → Calls Tryz.prog 9 #[.slice A1 ls.length c1, .agg #[.int .i64 p, .int .i64 q], .slice A6 cs.length c6] W fun e w' => e = .returned (.tuple #[.int .i64 (checkV ls p q cs).1, .int .i64 (checkV ls p q cs).2]) ∧ Below W.heap.size W w' from fun W A1 c1 A6 c6 h1 h2 => CheckCurrents_any W.heap.size ls A1 c1 cs A6 c6 p q W h1.srcs h2.cus (Nat.le_refl _) h64 h64c)
  have hle : loadE ls p q = phE p q := by unfold loadE; rw [if_pos h0]
  have hne : loadE ls p q ≠ 0 := by rw [hle]; exact h1
  have HCu := Lib.hid (show ∀ W A1 c1, CellsIn W.heap.size W A1 (srcCells ls) → Calls Tryz.prog 7 #[.slice A1 ls.length c1, .agg #[.int .i64 p, .int .i64 q]] W fun e w' => e = .returned (.tuple #[.slice none 0 0, .int .i64 (phE p q)]) ∧ Below W.heap.size W w' from fun W A1 c1 h => by
    have z := CurrentsOf_err W.heap.size ls A1 c1 p q W h.srcs (Nat.le_refl _) h64 hne
    rw [hle] at z
    exact z)
  rw [check_err hne, hle] at HCk
  rw [h0] at HSe
  have e1 : (phE p q != 0) = true := by simpa using h1
  have e2 : (phE p q == 0) = false := by simpa using h1
  have e3 : ¬ phE p q = 0 := h1
  clear hle hne h0 h1
  generalize phE p q = E at *
  clear hr hr2 h64 h64c hT hP hl hm
  go_enter Tryz.func3, Tryz.ntmps3
  go_wp2_with (go_at_call 6; (with_reducible refine (HAw.out _ (pa pr)).mono ?_); rintro e w1 ⟨rfl, hb1⟩; have BX := Lib.hid (show Blk w1 w.heap.size 26 #[.slice A ls.length c, .int .i64 p, .int .i64 q] from (Blk.newAt (w := w) (t := 26) (cs := #[.slice A ls.length c, .int .i64 p, .int .i64 q]) rfl).past hb1); have HQ := Lib.hid (pt (pa (pr (w := w))) hb1); have x0 := BX.out.cellAt 0 rfl; have xl := BX.out.lt; clear hb1)
  clear x0 xl
  have HSS := Lib.hid (show ∀ W, Below w1.heap.size w1 W → W.cell? ⟨w.heap.size, 0, none⟩ = some (.slice A ls.length c) ∧ W.cell? ⟨w.heap.size, 1, none⟩ = some (.int .i64 p) ∧ W.cell? ⟨w.heap.size, 2, none⟩ = some (.int .i64 q) from fun W hW => ⟨(BX.out.past hW).cellAt 0 rfl, (BX.out.past hW).cellAt 1 rfl, (BX.out.past hW).cellAt 2 rfl⟩)
  refine wp_region_G 10 follows_mixed (fun W => W.cell? ⟨w.heap.size, 0, none⟩ = some (.slice A ls.length c) ∧ W.cell? ⟨w.heap.size, 1, none⟩ = some (.int .i64 p) ∧ W.cell? ⟨w.heap.size, 2, none⟩ = some (.int .i64 q)) (HSS.out _ (pd pr)) ?_
  intro hSd inv
  have HSd := Lib.hid hSd
  clear hSd
  have HB0 := Lib.hid (show Below w1.heap.size w1 w1.drew from pd pr)
  refine wpAnyG_take (i := 0) (v := ?_) rfl (by kernel_rfl) (by kernel_rfl) (by kernel_rfl) (by kernel_rfl) (by kernel_rfl) (by decide) (by decide) inv (fun _ _ _ h => h) (Or.inl ⟨by rfl, ?_⟩) HSd.out ?_; rotate_left; (focus (intro W y1; obtain ⟨y1, y2, y3⟩ := y1; go_simp; (first | done | with_reducible rfl))); clear inv; intro inv; simp only [List.getElem_toArray, List.getElem_cons_zero, Act.put, List.setIfInBounds_toArray, List.set_cons_zero, List.set_cons_succ]
  refine wpAnyG_take (i := 1) (v := ?_) rfl (by kernel_rfl) (by kernel_rfl) (by kernel_rfl) (by kernel_rfl) (by kernel_rfl) (by decide) (by decide) inv (fun _ _ _ h => h) (Or.inl ⟨by rfl, ?_⟩) HSd.out ?_; rotate_left; (focus (intro W y1; obtain ⟨y1, y2, y3⟩ := y1; go_simp; (first | done | with_reducible rfl))); clear inv; intro inv; simp only [List.getElem_toArray, List.getElem_cons_zero, List.getElem_cons_succ, Act.put, List.setIfInBounds_toArray, List.set_cons_zero, List.set_cons_succ]
  refine wpAnyG_take (i := 3) (v := ?_) rfl (by kernel_rfl) (by kernel_rfl) (by kernel_rfl) (by kernel_rfl) (by kernel_rfl) (by decide) (by decide) inv (fun _ _ _ h => h) (Or.inl ⟨by rfl, ?_⟩) HSd.out ?_; rotate_left; (focus (intro W y1; obtain ⟨y1, y2, y3⟩ := y1; go_simp; (first | done | with_reducible rfl))); clear inv; intro inv; simp only [List.getElem_toArray, List.getElem_cons_zero, List.getElem_cons_succ, Act.put, List.setIfInBounds_toArray, List.set_cons_zero, List.set_cons_succ]
  refine wpAnyG_take (i := 4) (v := ?_) rfl (by kernel_rfl) (by kernel_rfl) (by kernel_rfl) (by kernel_rfl) (by kernel_rfl) (by decide) (by decide) inv (fun _ _ _ h => h) (Or.inl ⟨by rfl, ?_⟩) HSd.out ?_; rotate_left; (focus (intro W y1; obtain ⟨y1, y2, y3⟩ := y1; go_simp; (first | done | with_reducible rfl))); clear inv; intro inv; simp only [List.getElem_toArray, List.getElem_cons_zero, List.getElem_cons_succ, Act.put, List.setIfInBounds_toArray, List.set_cons_zero, List.set_cons_succ]
  have HInv := Lib.hid inv
  clear inv
  refine wpAnyG_one (i := 2) (by kernel_rfl) rfl rfl fun K hK => ?_
  go_simp
  refine (HCp.out _ (pt HQ.out HB0.out)).mono ?_
  rintro e w2 ⟨A4, c4, rfl, hc4, hl4, hb⟩
  have HBx2 := Lib.hid (show Below w1.heap.size w1 w2 from pt HB0.out hb)
  have HC4 := Lib.hid hc4
  clear hc4 hl4
  refine hK.out _ _ (fun _ => HSS.out _ HBx2.out) ?_
  clear hK K hb
  replace HInv := Lib.hid (inv_one (i := 2) HInv.out (by kernel_rfl) (by decide))
  refine wpAnyG_one (i := 5) (by kernel_rfl) rfl rfl fun K hK => ?_
  go_simp
  refine (HCu.out _ A4 c4 HC4.out).mono ?_
  rintro e w3 ⟨rfl, hb⟩
  have HBx5 := Lib.hid (show Below w1.heap.size w1 w3 from pt HBx2.out hb)
  clear HC4
  refine hK.out _ _ (fun _ => HSS.out _ HBx5.out) ?_
  clear hK K hb
  replace HInv := Lib.hid (inv_one (i := 5) HInv.out (by kernel_rfl) (by decide))
  refine wpAnyG_one (i := 6) (by kernel_rfl) rfl rfl fun K hK => ?_
  go_simp
  refine hK.out _ _ (fun _ => HSS.out _ HBx5.out) ?_
  clear hK K
  replace HInv := Lib.hid (inv_one (i := 6) HInv.out (by kernel_rfl) (by decide))
  have inv := HInv.out
  clear HInv
  replace HSd := Lib.hid (HSS.out _ HBx5.out)
  refine wpAnyG_take (i := 7) (v := ?_) rfl (by kernel_rfl) (by kernel_rfl) (by kernel_rfl) (by kernel_rfl) (by kernel_rfl) (by decide) (by decide) inv (fun _ _ _ h => h) (Or.inl ⟨by rfl, ?_⟩) HSd.out ?_; rotate_left; (focus (intro W y1; obtain ⟨y1, y2, y3⟩ := y1; go_simp; (first | done | with_reducible rfl))); clear inv; intro inv; simp only [List.getElem_toArray, List.getElem_cons_zero, List.getElem_cons_succ, Act.put, List.setIfInBounds_toArray, List.set_cons_zero, List.set_cons_succ]
  refine wpAnyG_take (i := 8) (v := ?_) rfl (by kernel_rfl) (by kernel_rfl) (by kernel_rfl) (by kernel_rfl) (by kernel_rfl) (by decide) (by decide) inv (fun _ _ _ h => h) (Or.inl ⟨by rfl, ?_⟩) HSd.out ?_; rotate_left; (focus (intro W y1; obtain ⟨y1, y2, y3⟩ := y1; go_simp; (first | done | with_reducible rfl))); clear inv; intro inv; simp only [List.getElem_toArray, List.getElem_cons_zero, List.getElem_cons_succ, Act.put, List.setIfInBounds_toArray, List.set_cons_zero, List.set_cons_succ]
  have HInv := Lib.hid inv
  clear inv
  refine wpAnyG_one (i := 9) (by kernel_rfl) rfl rfl fun K hK => ?_
  go_simp
  refine hK.out _ _ (fun _ => HSS.out _ HBx5.out) ?_
  clear hK K
  replace HInv := Lib.hid (inv_one (i := 9) HInv.out (by kernel_rfl) (by decide))
  refine wpAnyG_one (i := 10) (by kernel_rfl) rfl rfl fun K hK => ?_
  go_simp
  refine hK.out _ _ (fun h => absurd h (by decide)) ?_
  clear hK K
  refine wpAnyG_done (by kernel_rfl) ?_
  clear HInv
  clear HSS HSd HB0
  have BX3 := Lib.hid (BX.out.past HBx5.out)
  have HQ3 := Lib.hid (pt HQ.out HBx5.out)
  clear BX HQ HAw HCu
  as_aux_lemma =>
  go_wp2
  have HSS := Lib.hid (show ∀ W, Below w3.heap.size w3 W → W.cell? ⟨w.heap.size, 0, none⟩ = some (.slice A ls.length c) ∧ W.cell? ⟨w.heap.size, 1, none⟩ = some (.int .i64 p) ∧ W.cell? ⟨w.heap.size, 2, none⟩ = some (.int .i64 q) from fun W hW => ⟨(BX3.out.past hW).cellAt 0 rfl, (BX3.out.past hW).cellAt 1 rfl, (BX3.out.past hW).cellAt 2 rfl⟩)
  refine wp_region_G 12 follows_mixed (fun W => W.cell? ⟨w.heap.size, 0, none⟩ = some (.slice A ls.length c) ∧ W.cell? ⟨w.heap.size, 1, none⟩ = some (.int .i64 p) ∧ W.cell? ⟨w.heap.size, 2, none⟩ = some (.int .i64 q)) (HSS.out _ (pd pr)) ?_
  intro hSd inv
  have HSd := Lib.hid hSd
  clear hSd
  have HB0 := Lib.hid (show Below w3.heap.size w3 w3.drew from pd pr)
  refine wpAnyG_take (i := 0) (v := ?_) rfl (by kernel_rfl) (by kernel_rfl) (by kernel_rfl) (by kernel_rfl) (by kernel_rfl) (by decide) (by decide) inv (fun _ _ _ h => h) (Or.inl ⟨by rfl, ?_⟩) HSd.out ?_; rotate_left; (focus (intro W y1; obtain ⟨y1, y2, y3⟩ := y1; go_simp; (first | done | with_reducible rfl))); clear inv; intro inv; simp only [List.getElem_toArray, List.getElem_cons_zero, Act.put, List.setIfInBounds_toArray, List.set_cons_zero, List.set_cons_succ]
  refine wpAnyG_take (i := 1) (v := ?_) rfl (by kernel_rfl) (by kernel_rfl) (by kernel_rfl) (by kernel_rfl) (by kernel_rfl) (by decide) (by decide) inv (fun _ _ _ h => h) (Or.inl ⟨by rfl, ?_⟩) HSd.out ?_; rotate_left; (focus (intro W y1; obtain ⟨y1, y2, y3⟩ := y1; go_simp; (first | done | with_reducible rfl))); clear inv; intro inv; simp only [List.getElem_toArray, List.getElem_cons_zero, List.getElem_cons_succ, Act.put, List.setIfInBounds_toArray, List.set_cons_zero, List.set_cons_succ]
  refine wpAnyG_take (i := 3) (v := ?_) rfl (by kernel_rfl) (by kernel_rfl) (by kernel_rfl) (by kernel_rfl) (by kernel_rfl) (by decide) (by decide) inv (fun _ _ _ h => h) (Or.inl ⟨by rfl, ?_⟩) HSd.out ?_; rotate_left; (focus (intro W y1; obtain ⟨y1, y2, y3⟩ := y1; go_simp; (first | done | with_reducible rfl))); clear inv; intro inv; simp only [List.getElem_toArray, List.getElem_cons_zero, List.getElem_cons_succ, Act.put, List.setIfInBounds_toArray, List.set_cons_zero, List.set_cons_succ]
  refine wpAnyG_take (i := 4) (v := ?_) rfl (by kernel_rfl) (by kernel_rfl) (by kernel_rfl) (by kernel_rfl) (by kernel_rfl) (by decide) (by decide) inv (fun _ _ _ h => h) (Or.inl ⟨by rfl, ?_⟩) HSd.out ?_; rotate_left; (focus (intro W y1; obtain ⟨y1, y2, y3⟩ := y1; go_simp; (first | done | with_reducible rfl))); clear inv; intro inv; simp only [List.getElem_toArray, List.getElem_cons_zero, List.getElem_cons_succ, Act.put, List.setIfInBounds_toArray, List.set_cons_zero, List.set_cons_succ]
  refine wpAnyG_take (i := 5) (v := ?_) rfl (by kernel_rfl) (by kernel_rfl) (by kernel_rfl) (by kernel_rfl) (by kernel_rfl) (by decide) (by decide) inv (fun _ _ _ h => h) (Or.inl ⟨by rfl, ?_⟩) HSd.out ?_; rotate_left; (focus (intro W y1; obtain ⟨y1, y2, y3⟩ := y1; go_simp; (first | done | with_reducible rfl))); clear inv; intro inv; simp only [List.getElem_toArray, List.getElem_cons_zero, List.getElem_cons_succ, Act.put, List.setIfInBounds_toArray, List.set_cons_zero, List.set_cons_succ]
  have HInv := Lib.hid inv
  clear inv
  refine wpAnyG_one (i := 2) (by kernel_rfl) rfl rfl fun K hK => ?_
  go_simp
  refine (HCp.out _ (pt HQ3.out HB0.out)).mono ?_
  rintro e w4 ⟨A6, c6, rfl, hc6, hl6, hb⟩
  have HBx2 := Lib.hid (show Below w3.heap.size w3 w4 from pt HB0.out hb)
  have HC6 := Lib.hid hc6
  clear hc6 hl6
  refine hK.out _ _ (fun _ => HSS.out _ HBx2.out) ?_
  clear hK K hb
  replace HInv := Lib.hid (inv_one (i := 2) HInv.out (by kernel_rfl) (by decide))
  refine wpAnyG_one (i := 6) (by kernel_rfl) rfl rfl fun K hK => ?_
  go_simp
  refine (HCd.out _ (pt HQ3.out HBx2.out)).mono ?_
  rintro e w5 ⟨A7, c7, rfl, hc7, hl7, hb⟩
  have HBx6 := Lib.hid (show Below w3.heap.size w3 w5 from pt HBx2.out hb)
  have HC7 := Lib.hid hc7
  have HC8 := Lib.hid ((HC6.out.below hb).more hb.size)
  clear hc7 hl7
  refine hK.out _ _ (fun _ => HSS.out _ HBx6.out) ?_
  clear hK K hb
  replace HInv := Lib.hid (inv_one (i := 6) HInv.out (by kernel_rfl) (by decide))
  refine wpAnyG_one (i := 7) (by kernel_rfl) rfl rfl fun K hK => ?_
  go_simp
  refine (HCk.out w5 A6 c6 A7 c7 HC8.out HC7.out).mono ?_
  rintro e w6 ⟨rfl, hb⟩
  have HBx7 := Lib.hid (show Below w3.heap.size w3 w6 from pt HBx6.out hb)
  clear HC7 HC6 HC8
  refine hK.out _ _ (fun _ => HSS.out _ HBx7.out) ?_
  clear hK K hb
  replace HInv := Lib.hid (inv_one (i := 7) HInv.out (by kernel_rfl) (by decide))
  refine wpAnyG_one (i := 8) (by kernel_rfl) rfl rfl fun K hK => ?_
  go_simp
  refine hK.out _ _ (fun _ => HSS.out _ HBx7.out) ?_
  clear hK K
  replace HInv := Lib.hid (inv_one (i := 8) HInv.out (by kernel_rfl) (by decide))
  have inv := HInv.out
  clear HInv
  replace HSd := Lib.hid (HSS.out _ HBx7.out)
  refine wpAnyG_take (i := 9) (v := ?_) rfl (by kernel_rfl) (by kernel_rfl) (by kernel_rfl) (by kernel_rfl) (by kernel_rfl) (by decide) (by decide) inv (fun _ _ _ h => h) (Or.inl ⟨by rfl, ?_⟩) HSd.out ?_; rotate_left; (focus (intro W y1; obtain ⟨y1, y2, y3⟩ := y1; go_simp; (first | done | with_reducible rfl))); clear inv; intro inv; simp only [List.getElem_toArray, List.getElem_cons_zero, List.getElem_cons_succ, Act.put, List.setIfInBounds_toArray, List.set_cons_zero, List.set_cons_succ]
  refine wpAnyG_take (i := 10) (v := ?_) rfl (by kernel_rfl) (by kernel_rfl) (by kernel_rfl) (by kernel_rfl) (by kernel_rfl) (by decide) (by decide) inv (fun _ _ _ h => h) (Or.inl ⟨by rfl, ?_⟩) HSd.out ?_; rotate_left; (focus (intro W y1; obtain ⟨y1, y2, y3⟩ := y1; go_simp; (first | done | with_reducible rfl))); clear inv; intro inv; simp only [List.getElem_toArray, List.getElem_cons_zero, List.getElem_cons_succ, Act.put, List.setIfInBounds_toArray, List.set_cons_zero, List.set_cons_succ]
  have HInv := Lib.hid inv
  clear inv
  refine wpAnyG_one (i := 11) (by kernel_rfl) rfl rfl fun K hK => ?_
  go_simp
  refine hK.out _ _ (fun _ => HSS.out _ HBx7.out) ?_
  clear hK K
  replace HInv := Lib.hid (inv_one (i := 11) HInv.out (by kernel_rfl) (by decide))
  refine wpAnyG_one (i := 12) (by kernel_rfl) rfl rfl fun K hK => ?_
  go_simp
  refine hK.out _ _ (fun h => absurd h (by decide)) ?_
  clear hK K
  refine wpAnyG_done (by kernel_rfl) ?_
  clear HInv
  clear HSS HSd HB0
  have BX6 := Lib.hid (BX3.out.past HBx7.out)
  have HQ6 := Lib.hid (pt HQ3.out HBx7.out)
  clear BX3 HQ3 HCp HCd HCk
  have x0 := BX6.out.cellAt 0 rfl
  have x1 := BX6.out.cellAt 1 rfl
  have x2 := BX6.out.cellAt 2 rfl
  have xl := BX6.out.lt
  as_aux_lemma =>
  go_wp2_with (first
    | (go_at_call 11; (with_reducible refine (HSe.out _ HQ6.out).mono ?_); rintro e w7 ⟨rfl, hb⟩; have BX7 := Lib.hid (BX6.out.past hb); have HQ7 := Lib.hid (pt HQ6.out hb); clear x0 x1 x2 xl; have x0 := BX7.out.cellAt 0 rfl; have x1 := BX7.out.cellAt 1 rfl; have x2 := BX7.out.cellAt 2 rfl; have xl := BX7.out.lt; clear hb)
    | (go_at_call 12; (with_reducible refine (HPe.out _).mono ?_); rintro e w8 ⟨rfl, hb⟩; have BX8 := Lib.hid (BX7.out.past hb); have HQ8 := Lib.hid (pt HQ7.out hb); clear x0 x1 x2 xl; have x0 := BX8.out.cellAt 0 rfl; have x1 := BX8.out.cellAt 1 rfl; have x2 := BX8.out.cellAt 2 rfl; have xl := BX8.out.lt; clear hb))
  go_ret
  exact ⟨by first | rfl | simp, HQ8.out⟩

set_option maxHeartbeats 16000000 in
set_option maxRecDepth 100000 in
theorem curlaw_none (ls : List Src) (A : Option Addr) (c : Nat) (p q : Int) (cs : List Cu) (A2 : Option Addr) (c2 : Nat) (w : World) (hr : CellsIn w.heap.size w A (srcCells ls)) (hr2 : CellsIn w.heap.size w A2 (cuCells cs)) (h64 : ∀ s ∈ ls, Src64 s) (h64c : ∀ s ∈ cs, Cu64 s) (hT : TwIn w) (hP : PatIn w) (hl : ls.length ≤ 6) (hm : cs.length ≤ 6) (h0 : loadE ls p q = 0) (hs : ¬ allSmall ls p q) :
    Calls Tryz.prog 3 #[.agg #[.slice A ls.length c, .int .i64 p, .int .i64 q], .slice A2 cs.length c2] w fun e w' => e = .returned (.bool true) ∧ Below w.heap.size w w' := by
  have HAw := Lib.hid (show ∀ W, Below w.heap.size w W → Calls Tryz.prog 6 #[] W fun e w' => e = .returned (.bool true) ∧ Below W.heap.size W w' from fun W hW => awake_any W (hT.below hW) (hP.below hW))
  have n6 : (ls.length : Int) ≤ 6 := by omega
  have m6 : (cs.length : Int) ≤ 6 := by omega
  have i1 : ¬ (6 : Int) < (ls.length : Int) := by omega
  have i2 : ¬ (6 : Int) < (cs.length : Int) := by omega
  have i3 : ¬ 6 < ls.length := by omega
  have i4 : ¬ 6 < cs.length := by omega
  have HXc := Lib.hid (show ∀ W, Below w.heap.size w W → CellsIn W.heap.size W A (srcCells ls) from fun W hW => (hr.below hW).more hW.size)
  have HYc := Lib.hid (show ∀ W, Below w.heap.size w W → CellsIn W.heap.size W A2 (cuCells cs) from fun W hW => (hr2.below hW).more hW.size)
  have HCp := Lib.hid (show ∀ W, Below w.heap.size w W → Calls Tryz.prog 8 #[.slice A ls.length c] W (CellsRet W ls.length (srcCells ls)) from fun W hW => copySources_any W.heap.size A c ls W ((hr.below hW).more hW.size) (Nat.le_refl _) (by omega))
  have HCd := Lib.hid (show ∀ W, Below w.heap.size w W → Calls Tryz.prog 10 #[.slice A2 cs.length c2] W (CellsRet W cs.length (cuCells cs)) from fun W hW => copyCurrents_any W.heap.size A2 c2 cs W ((hr2.below hW).more hW.size) (Nat.le_refl _) (by omega))
  have HSe := Lib.hid (show ∀ W, Below w.heap.size w W → Calls Tryz.prog 11 #[.slice A ls.length c] W fun e w' => e = .returned (.int .i64 (sourcesE ls)) ∧ Below W.heap.size W w' from fun W hW => refSourcesErr_any W.heap.size ls A c W ((hr.below hW).more hW.size).srcs (Nat.le_refl _) h64)
  have HPe := Lib.hid (fun W => refPhasorErr_any p q W)
  have HCk := Lib.hid (show ∀ W A1 c1 A6 c6, CellsIn W.heap.size W A1 (srcCells ls) → CellsIn W.heap.size W A6 (cuCells cs) → Calls Tryz.prog 9 #[.slice A1 ls.length c1, .agg #[.int .i64 p, .int .i64 q], .slice A6 cs.length c6] W fun e w' => e = .returned (.tuple #[.int .i64 (checkV ls p q cs).1, .int .i64 (checkV ls p q cs).2]) ∧ Below W.heap.size W w' from fun W A1 c1 A6 c6 h1 h2 => CheckCurrents_any W.heap.size ls A1 c1 cs A6 c6 p q W h1.srcs h2.cus (Nat.le_refl _) h64 h64c)
  obtain ⟨hz1, hz2⟩ := cur_ok64 h0
  obtain ⟨hok, hlp, hlq⟩ := loadE_ok h0
  have z := fun W A1 c1 (h : CellsIn W.heap.size W A1 (srcCells ls)) => CurrentsOf_ok W.heap.size ls A1 c1 p q W h.srcs (Nat.le_refl _) h64 h0
  have HCu := Lib.hid (show ∀ W A1 c1, CellsIn W.heap.size W A1 (srcCells ls) → Calls Tryz.prog 7 #[.slice A1 ls.length c1, .agg #[.int .i64 p, .int .i64 q]] W fun e w' => e = .returned (.tuple #[.slice none 0 0, .int .i64 8]) ∧ Below W.heap.size W w' from fun W A1 c1 h => (z W A1 c1 h).mono (by
    rintro e w' (⟨h1, _⟩ | ⟨_, h1⟩)
    · exact absurd h1 hs
    · exact h1))
  have HRf := Lib.hid (show ∀ W, Below w.heap.size w W → Calls Tryz.prog 14 #[.slice A ls.length c, .agg #[.int .i64 p, .int .i64 q]] W fun e w' => e = .returned (.tuple #[.slice none 0 0, .bool false]) ∧ Below W.heap.size W w' from fun W hW => (refCurrents_any ls A c p q W ((hr.below hW).more hW.size).srcs hok hlp hlq).mono (by
    rintro e w' ⟨h3, (⟨h1, _⟩ | ⟨_, h1⟩)⟩
    · exact absurd (curSmall_all.1 h1) hs
    · exact ⟨h1, h3⟩))
  have HRk := Lib.hid (show ∀ W, Below w.heap.size w W → Calls Tryz.prog 13 #[.slice A ls.length c, .agg #[.int .i64 p, .int .i64 q], .slice A2 cs.length c2] W fun e w' => e = .returned (.tuple #[.int .i64 (checkV ls p q cs).1, .int .i64 (checkV ls p q cs).2]) ∧ Below W.heap.size W w' from fun W hW => by
    by_cases hcl : cs.length = ls.length
    · rw [check_ok h0 hcl, hcl]
      exact refCheckCurrents_ok ls A c cs A2 c2 p q W ((hr.below hW).more hW.size).srcs ((hr2.below hW).more hW.size).cus hok h64c hcl hlp hlq
    · rw [check_len h0 hcl]
      exact refCheckCurrents_len ls.length cs.length c c2 A A2 p q W hcl)
  rw [hz1] at HSe
  rw [hz2] at HPe
  clear z hz1 hz2 hok hlp hlq h0 hs
  generalize (checkV ls p q cs).1 = k at *
  generalize (checkV ls p q cs).2 = b at *
  clear hr hr2 h64 h64c hT hP hl hm
  go_enter Tryz.func3, Tryz.ntmps3
  go_wp2_with (go_at_call 6; (with_reducible refine (HAw.out _ (pa pr)).mono ?_); rintro e w1 ⟨rfl, hb1⟩; have BX := Lib.hid (show Blk w1 w.heap.size 26 #[.slice A ls.length c, .int .i64 p, .int .i64 q] from (Blk.newAt (w := w) (t := 26) (cs := #[.slice A ls.length c, .int .i64 p, .int .i64 q]) rfl).past hb1); have HQ := Lib.hid (pt (pa (pr (w := w))) hb1); have x0 := BX.out.cellAt 0 rfl; have xl := BX.out.lt; clear hb1)
  clear x0 xl
  have HSS := Lib.hid (show ∀ W, Below w1.heap.size w1 W → W.cell? ⟨w.heap.size, 0, none⟩ = some (.slice A ls.length c) ∧ W.cell? ⟨w.heap.size, 1, none⟩ = some (.int .i64 p) ∧ W.cell? ⟨w.heap.size, 2, none⟩ = some (.int .i64 q) from fun W hW => ⟨(BX.out.past hW).cellAt 0 rfl, (BX.out.past hW).cellAt 1 rfl, (BX.out.past hW).cellAt 2 rfl⟩)
  refine wp_region_G 10 follows_mixed (fun W => W.cell? ⟨w.heap.size, 0, none⟩ = some (.slice A ls.length c) ∧ W.cell? ⟨w.heap.size, 1, none⟩ = some (.int .i64 p) ∧ W.cell? ⟨w.heap.size, 2, none⟩ = some (.int .i64 q)) (HSS.out _ (pd pr)) ?_
  intro hSd inv
  have HSd := Lib.hid hSd
  clear hSd
  have HB0 := Lib.hid (show Below w1.heap.size w1 w1.drew from pd pr)
  refine wpAnyG_take (i := 0) (v := ?_) rfl (by kernel_rfl) (by kernel_rfl) (by kernel_rfl) (by kernel_rfl) (by kernel_rfl) (by decide) (by decide) inv (fun _ _ _ h => h) (Or.inl ⟨by rfl, ?_⟩) HSd.out ?_; rotate_left; (focus (intro W y1; obtain ⟨y1, y2, y3⟩ := y1; go_simp; (first | done | with_reducible rfl))); clear inv; intro inv; simp only [List.getElem_toArray, List.getElem_cons_zero, Act.put, List.setIfInBounds_toArray, List.set_cons_zero, List.set_cons_succ]
  refine wpAnyG_take (i := 1) (v := ?_) rfl (by kernel_rfl) (by kernel_rfl) (by kernel_rfl) (by kernel_rfl) (by kernel_rfl) (by decide) (by decide) inv (fun _ _ _ h => h) (Or.inl ⟨by rfl, ?_⟩) HSd.out ?_; rotate_left; (focus (intro W y1; obtain ⟨y1, y2, y3⟩ := y1; go_simp; (first | done | with_reducible rfl))); clear inv; intro inv; simp only [List.getElem_toArray, List.getElem_cons_zero, List.getElem_cons_succ, Act.put, List.setIfInBounds_toArray, List.set_cons_zero, List.set_cons_succ]
  refine wpAnyG_take (i := 3) (v := ?_) rfl (by kernel_rfl) (by kernel_rfl) (by kernel_rfl) (by kernel_rfl) (by kernel_rfl) (by decide) (by decide) inv (fun _ _ _ h => h) (Or.inl ⟨by rfl, ?_⟩) HSd.out ?_; rotate_left; (focus (intro W y1; obtain ⟨y1, y2, y3⟩ := y1; go_simp; (first | done | with_reducible rfl))); clear inv; intro inv; simp only [List.getElem_toArray, List.getElem_cons_zero, List.getElem_cons_succ, Act.put, List.setIfInBounds_toArray, List.set_cons_zero, List.set_cons_succ]
  refine wpAnyG_take (i := 4) (v := ?_) rfl (by kernel_rfl) (by kernel_rfl) (by kernel_rfl) (by kernel_rfl) (by kernel_rfl) (by decide) (by decide) inv (fun _ _ _ h => h) (Or.inl ⟨by rfl, ?_⟩) HSd.out ?_; rotate_left; (focus (intro W y1; obtain ⟨y1, y2, y3⟩ := y1; go_simp; (first | done | with_reducible rfl))); clear inv; intro inv; simp only [List.getElem_toArray, List.getElem_cons_zero, List.getElem_cons_succ, Act.put, List.setIfInBounds_toArray, List.set_cons_zero, List.set_cons_succ]
  have HInv := Lib.hid inv
  clear inv
  refine wpAnyG_one (i := 2) (by kernel_rfl) rfl rfl fun K hK => ?_
  go_simp
  refine (HCp.out _ (pt HQ.out HB0.out)).mono ?_
  rintro e w2 ⟨A4, c4, rfl, hc4, hl4, hb⟩
  have HBx2 := Lib.hid (show Below w1.heap.size w1 w2 from pt HB0.out hb)
  have HC4 := Lib.hid hc4
  clear hc4 hl4
  refine hK.out _ _ (fun _ => HSS.out _ HBx2.out) ?_
  clear hK K hb
  replace HInv := Lib.hid (inv_one (i := 2) HInv.out (by kernel_rfl) (by decide))
  refine wpAnyG_one (i := 5) (by kernel_rfl) rfl rfl fun K hK => ?_
  go_simp
  refine (HCu.out _ A4 c4 HC4.out).mono ?_
  rintro e w3 ⟨rfl, hb⟩
  have HBx5 := Lib.hid (show Below w1.heap.size w1 w3 from pt HBx2.out hb)
  clear HC4
  refine hK.out _ _ (fun _ => HSS.out _ HBx5.out) ?_
  clear hK K hb
  replace HInv := Lib.hid (inv_one (i := 5) HInv.out (by kernel_rfl) (by decide))
  refine wpAnyG_one (i := 6) (by kernel_rfl) rfl rfl fun K hK => ?_
  go_simp
  refine hK.out _ _ (fun _ => HSS.out _ HBx5.out) ?_
  clear hK K
  replace HInv := Lib.hid (inv_one (i := 6) HInv.out (by kernel_rfl) (by decide))
  have inv := HInv.out
  clear HInv
  replace HSd := Lib.hid (HSS.out _ HBx5.out)
  refine wpAnyG_take (i := 7) (v := ?_) rfl (by kernel_rfl) (by kernel_rfl) (by kernel_rfl) (by kernel_rfl) (by kernel_rfl) (by decide) (by decide) inv (fun _ _ _ h => h) (Or.inl ⟨by rfl, ?_⟩) HSd.out ?_; rotate_left; (focus (intro W y1; obtain ⟨y1, y2, y3⟩ := y1; go_simp; (first | done | with_reducible rfl))); clear inv; intro inv; simp only [List.getElem_toArray, List.getElem_cons_zero, List.getElem_cons_succ, Act.put, List.setIfInBounds_toArray, List.set_cons_zero, List.set_cons_succ]
  refine wpAnyG_take (i := 8) (v := ?_) rfl (by kernel_rfl) (by kernel_rfl) (by kernel_rfl) (by kernel_rfl) (by kernel_rfl) (by decide) (by decide) inv (fun _ _ _ h => h) (Or.inl ⟨by rfl, ?_⟩) HSd.out ?_; rotate_left; (focus (intro W y1; obtain ⟨y1, y2, y3⟩ := y1; go_simp; (first | done | with_reducible rfl))); clear inv; intro inv; simp only [List.getElem_toArray, List.getElem_cons_zero, List.getElem_cons_succ, Act.put, List.setIfInBounds_toArray, List.set_cons_zero, List.set_cons_succ]
  have HInv := Lib.hid inv
  clear inv
  refine wpAnyG_one (i := 9) (by kernel_rfl) rfl rfl fun K hK => ?_
  go_simp
  refine hK.out _ _ (fun _ => HSS.out _ HBx5.out) ?_
  clear hK K
  replace HInv := Lib.hid (inv_one (i := 9) HInv.out (by kernel_rfl) (by decide))
  refine wpAnyG_one (i := 10) (by kernel_rfl) rfl rfl fun K hK => ?_
  go_simp
  refine hK.out _ _ (fun h => absurd h (by decide)) ?_
  clear hK K
  refine wpAnyG_done (by kernel_rfl) ?_
  clear HInv
  clear HSS HSd HB0
  have BX3 := Lib.hid (BX.out.past HBx5.out)
  have HQ3 := Lib.hid (pt HQ.out HBx5.out)
  clear BX HQ HAw HCu
  as_aux_lemma =>
  go_wp2
  have HSS := Lib.hid (show ∀ W, Below w3.heap.size w3 W → W.cell? ⟨w.heap.size, 0, none⟩ = some (.slice A ls.length c) ∧ W.cell? ⟨w.heap.size, 1, none⟩ = some (.int .i64 p) ∧ W.cell? ⟨w.heap.size, 2, none⟩ = some (.int .i64 q) from fun W hW => ⟨(BX3.out.past hW).cellAt 0 rfl, (BX3.out.past hW).cellAt 1 rfl, (BX3.out.past hW).cellAt 2 rfl⟩)
  refine wp_region_G 12 follows_mixed (fun W => W.cell? ⟨w.heap.size, 0, none⟩ = some (.slice A ls.length c) ∧ W.cell? ⟨w.heap.size, 1, none⟩ = some (.int .i64 p) ∧ W.cell? ⟨w.heap.size, 2, none⟩ = some (.int .i64 q)) (HSS.out _ (pd pr)) ?_
  intro hSd inv
  have HSd := Lib.hid hSd
  clear hSd
  have HB0 := Lib.hid (show Below w3.heap.size w3 w3.drew from pd pr)
  refine wpAnyG_take (i := 0) (v := ?_) rfl (by kernel_rfl) (by kernel_rfl) (by kernel_rfl) (by kernel_rfl) (by kernel_rfl) (by decide) (by decide) inv (fun _ _ _ h => h) (Or.inl ⟨by rfl, ?_⟩) HSd.out ?_; rotate_left; (focus (intro W y1; obtain ⟨y1, y2, y3⟩ := y1; go_simp; (first | done | with_reducible rfl))); clear inv; intro inv; simp only [List.getElem_toArray, List.getElem_cons_zero, Act.put, List.setIfInBounds_toArray, List.set_cons_zero, List.set_cons_succ]
  refine wpAnyG_take (i := 1) (v := ?_) rfl (by kernel_rfl) (by kernel_rfl) (by kernel_rfl) (by kernel_rfl) (by kernel_rfl) (by decide) (by decide) inv (fun _ _ _ h => h) (Or.inl ⟨by rfl, ?_⟩) HSd.out ?_; rotate_left; (focus (intro W y1; obtain ⟨y1, y2, y3⟩ := y1; go_simp; (first | done | with_reducible rfl))); clear inv; intro inv; simp only [List.getElem_toArray, List.getElem_cons_zero, List.getElem_cons_succ, Act.put, List.setIfInBounds_toArray, List.set_cons_zero, List.set_cons_succ]
  refine wpAnyG_take (i := 3) (v := ?_) rfl (by kernel_rfl) (by kernel_rfl) (by kernel_rfl) (by kernel_rfl) (by kernel_rfl) (by decide) (by decide) inv (fun _ _ _ h => h) (Or.inl ⟨by rfl, ?_⟩) HSd.out ?_; rotate_left; (focus (intro W y1; obtain ⟨y1, y2, y3⟩ := y1; go_simp; (first | done | with_reducible rfl))); clear inv; intro inv; simp only [List.getElem_toArray, List.getElem_cons_zero, List.getElem_cons_succ, Act.put, List.setIfInBounds_toArray, List.set_cons_zero, List.set_cons_succ]
  refine wpAnyG_take (i := 4) (v := ?_) rfl (by kernel_rfl) (by kernel_rfl) (by kernel_rfl) (by kernel_rfl) (by kernel_rfl) (by decide) (by decide) inv (fun _ _ _ h => h) (Or.inl ⟨by rfl, ?_⟩) HSd.out ?_; rotate_left; (focus (intro W y1; obtain ⟨y1, y2, y3⟩ := y1; go_simp; (first | done | with_reducible rfl))); clear inv; intro inv; simp only [List.getElem_toArray, List.getElem_cons_zero, List.getElem_cons_succ, Act.put, List.setIfInBounds_toArray, List.set_cons_zero, List.set_cons_succ]
  refine wpAnyG_take (i := 5) (v := ?_) rfl (by kernel_rfl) (by kernel_rfl) (by kernel_rfl) (by kernel_rfl) (by kernel_rfl) (by decide) (by decide) inv (fun _ _ _ h => h) (Or.inl ⟨by rfl, ?_⟩) HSd.out ?_; rotate_left; (focus (intro W y1; obtain ⟨y1, y2, y3⟩ := y1; go_simp; (first | done | with_reducible rfl))); clear inv; intro inv; simp only [List.getElem_toArray, List.getElem_cons_zero, List.getElem_cons_succ, Act.put, List.setIfInBounds_toArray, List.set_cons_zero, List.set_cons_succ]
  have HInv := Lib.hid inv
  clear inv
  refine wpAnyG_one (i := 2) (by kernel_rfl) rfl rfl fun K hK => ?_
  go_simp
  refine (HCp.out _ (pt HQ3.out HB0.out)).mono ?_
  rintro e w4 ⟨A6, c6, rfl, hc6, hl6, hb⟩
  have HBx2 := Lib.hid (show Below w3.heap.size w3 w4 from pt HB0.out hb)
  have HC6 := Lib.hid hc6
  clear hc6 hl6
  refine hK.out _ _ (fun _ => HSS.out _ HBx2.out) ?_
  clear hK K hb
  replace HInv := Lib.hid (inv_one (i := 2) HInv.out (by kernel_rfl) (by decide))
  refine wpAnyG_one (i := 6) (by kernel_rfl) rfl rfl fun K hK => ?_
  go_simp
  refine (HCd.out _ (pt HQ3.out HBx2.out)).mono ?_
  rintro e w5 ⟨A7, c7, rfl, hc7, hl7, hb⟩
  have HBx6 := Lib.hid (show Below w3.heap.size w3 w5 from pt HBx2.out hb)
  have HC7 := Lib.hid hc7
  have HC8 := Lib.hid ((HC6.out.below hb).more hb.size)
  clear hc7 hl7
  refine hK.out _ _ (fun _ => HSS.out _ HBx6.out) ?_
  clear hK K hb
  replace HInv := Lib.hid (inv_one (i := 6) HInv.out (by kernel_rfl) (by decide))
  refine wpAnyG_one (i := 7) (by kernel_rfl) rfl rfl fun K hK => ?_
  go_simp
  refine (HCk.out w5 A6 c6 A7 c7 HC8.out HC7.out).mono ?_
  rintro e w6 ⟨rfl, hb⟩
  have HBx7 := Lib.hid (show Below w3.heap.size w3 w6 from pt HBx6.out hb)
  clear HC7 HC6 HC8
  refine hK.out _ _ (fun _ => HSS.out _ HBx7.out) ?_
  clear hK K hb
  replace HInv := Lib.hid (inv_one (i := 7) HInv.out (by kernel_rfl) (by decide))
  refine wpAnyG_one (i := 8) (by kernel_rfl) rfl rfl fun K hK => ?_
  go_simp
  refine hK.out _ _ (fun _ => HSS.out _ HBx7.out) ?_
  clear hK K
  replace HInv := Lib.hid (inv_one (i := 8) HInv.out (by kernel_rfl) (by decide))
  have inv := HInv.out
  clear HInv
  replace HSd := Lib.hid (HSS.out _ HBx7.out)
  refine wpAnyG_take (i := 9) (v := ?_) rfl (by kernel_rfl) (by kernel_rfl) (by kernel_rfl) (by kernel_rfl) (by kernel_rfl) (by decide) (by decide) inv (fun _ _ _ h => h) (Or.inl ⟨by rfl, ?_⟩) HSd.out ?_; rotate_left; (focus (intro W y1; obtain ⟨y1, y2, y3⟩ := y1; go_simp; (first | done | with_reducible rfl))); clear inv; intro inv; simp only [List.getElem_toArray, List.getElem_cons_zero, List.getElem_cons_succ, Act.put, List.setIfInBounds_toArray, List.set_cons_zero, List.set_cons_succ]
  refine wpAnyG_take (i := 10) (v := ?_) rfl (by kernel_rfl) (by kernel_rfl) (by kernel_rfl) (by kernel_rfl) (by kernel_rfl) (by decide) (by decide) inv (fun _ _ _ h => h) (Or.inl ⟨by rfl, ?_⟩) HSd.out ?_; rotate_left; (focus (intro W y1; obtain ⟨y1, y2, y3⟩ := y1; go_simp; (first | done | with_reducible rfl))); clear inv; intro inv; simp only [List.getElem_toArray, List.getElem_cons_zero, List.getElem_cons_succ, Act.put, List.setIfInBounds_toArray, List.set_cons_zero, List.set_cons_succ]
  have HInv := Lib.hid inv
  clear inv
  refine wpAnyG_one (i := 11) (by kernel_rfl) rfl rfl fun K hK => ?_
  go_simp
  refine hK.out _ _ (fun _ => HSS.out _ HBx7.out) ?_
  clear hK K
  replace HInv := Lib.hid (inv_one (i := 11) HInv.out (by kernel_rfl) (by decide))
  refine wpAnyG_one (i := 12) (by kernel_rfl) rfl rfl fun K hK => ?_
  go_simp
  refine hK.out _ _ (fun h => absurd h (by decide)) ?_
  clear hK K
  refine wpAnyG_done (by kernel_rfl) ?_
  clear HInv
  clear HSS HSd HB0
  have BX6 := Lib.hid (BX3.out.past HBx7.out)
  have HQ6 := Lib.hid (pt HQ3.out HBx7.out)
  clear BX3 HQ3 HCp HCd HCk
  have x0 := BX6.out.cellAt 0 rfl
  have x1 := BX6.out.cellAt 1 rfl
  have x2 := BX6.out.cellAt 2 rfl
  have xl := BX6.out.lt
  as_aux_lemma =>
  go_wp2_with (first
    | (go_at_call 11; (with_reducible refine (HSe.out _ HQ6.out).mono ?_); rintro e w7 ⟨rfl, hb⟩; have BX7 := Lib.hid (BX6.out.past hb); have HQ7 := Lib.hid (pt HQ6.out hb); clear x0 x1 x2 xl; have x0 := BX7.out.cellAt 0 rfl; have x1 := BX7.out.cellAt 1 rfl; have x2 := BX7.out.cellAt 2 rfl; have xl := BX7.out.lt; clear hb)
    | (go_at_call 12; (with_reducible refine (HPe.out _).mono ?_); rintro e w8 ⟨rfl, hb⟩; have BX8 := Lib.hid (BX7.out.past hb); have HQ8 := Lib.hid (pt HQ7.out hb); clear x0 x1 x2 xl; have x0 := BX8.out.cellAt 0 rfl; have x1 := BX8.out.cellAt 1 rfl; have x2 := BX8.out.cellAt 2 rfl; have xl := BX8.out.lt; clear hb)
    | (go_at_call 13; (with_reducible refine (HRk.out _ HQ8.out).mono ?_); rintro e w9 ⟨rfl, hb⟩; have BX9 := Lib.hid (BX8.out.past hb); have HQ9 := Lib.hid (pt HQ8.out hb); clear x0 x1 x2 xl; have x0 := BX9.out.cellAt 0 rfl; have x1 := BX9.out.cellAt 1 rfl; have x2 := BX9.out.cellAt 2 rfl; have xl := BX9.out.lt; clear hb)
    | (go_at_call 14; (with_reducible refine (HRf.out _ HQ9.out).mono ?_); rintro e w10 ⟨rfl, hb⟩; have BX10 := Lib.hid (BX9.out.past hb); have HQ10 := Lib.hid (pt HQ9.out hb); clear x0 x1 x2 xl; have x0 := BX10.out.cellAt 0 rfl; have x1 := BX10.out.cellAt 1 rfl; have x2 := BX10.out.cellAt 2 rfl; have xl := BX10.out.lt; clear hb))
  go_ret
  exact ⟨by first | rfl | simp, HQ10.out⟩

set_option maxHeartbeats 16000000 in
set_option maxRecDepth 100000 in
theorem curlaw_all (ls : List Src) (A : Option Addr) (c : Nat) (p q : Int) (cs : List Cu) (A2 : Option Addr) (c2 : Nat) (w : World) (hr : CellsIn w.heap.size w A (srcCells ls)) (hr2 : CellsIn w.heap.size w A2 (cuCells cs)) (h64 : ∀ s ∈ ls, Src64 s) (h64c : ∀ s ∈ cs, Cu64 s) (hT : TwIn w) (hP : PatIn w) (hl : ls.length ≤ 6) (hm : cs.length ≤ 6) (h0 : loadE ls p q = 0) (hs : allSmall ls p q) :
    Calls Tryz.prog 3 #[.agg #[.slice A ls.length c, .int .i64 p, .int .i64 q], .slice A2 cs.length c2] w fun e w' => e = .returned (.bool true) ∧ Below w.heap.size w w' := by
  have HAw := Lib.hid (show ∀ W, Below w.heap.size w W → Calls Tryz.prog 6 #[] W fun e w' => e = .returned (.bool true) ∧ Below W.heap.size W w' from fun W hW => awake_any W (hT.below hW) (hP.below hW))
  have n6 : (ls.length : Int) ≤ 6 := by omega
  have m6 : (cs.length : Int) ≤ 6 := by omega
  have i1 : ¬ (6 : Int) < (ls.length : Int) := by omega
  have i2 : ¬ (6 : Int) < (cs.length : Int) := by omega
  have i3 : ¬ 6 < ls.length := by omega
  have i4 : ¬ 6 < cs.length := by omega
  have HXc := Lib.hid (show ∀ W, Below w.heap.size w W → CellsIn W.heap.size W A (srcCells ls) from fun W hW => (hr.below hW).more hW.size)
  have HYc := Lib.hid (show ∀ W, Below w.heap.size w W → CellsIn W.heap.size W A2 (cuCells cs) from fun W hW => (hr2.below hW).more hW.size)
  have HCp := Lib.hid (show ∀ W, Below w.heap.size w W → Calls Tryz.prog 8 #[.slice A ls.length c] W (CellsRet W ls.length (srcCells ls)) from fun W hW => copySources_any W.heap.size A c ls W ((hr.below hW).more hW.size) (Nat.le_refl _) (by omega))
  have HCd := Lib.hid (show ∀ W, Below w.heap.size w W → Calls Tryz.prog 10 #[.slice A2 cs.length c2] W (CellsRet W cs.length (cuCells cs)) from fun W hW => copyCurrents_any W.heap.size A2 c2 cs W ((hr2.below hW).more hW.size) (Nat.le_refl _) (by omega))
  have HSe := Lib.hid (show ∀ W, Below w.heap.size w W → Calls Tryz.prog 11 #[.slice A ls.length c] W fun e w' => e = .returned (.int .i64 (sourcesE ls)) ∧ Below W.heap.size W w' from fun W hW => refSourcesErr_any W.heap.size ls A c W ((hr.below hW).more hW.size).srcs (Nat.le_refl _) h64)
  have HPe := Lib.hid (fun W => refPhasorErr_any p q W)
  have HCk := Lib.hid (show ∀ W A1 c1 A6 c6, CellsIn W.heap.size W A1 (srcCells ls) → CellsIn W.heap.size W A6 (cuCells cs) → Calls Tryz.prog 9 #[.slice A1 ls.length c1, .agg #[.int .i64 p, .int .i64 q], .slice A6 cs.length c6] W fun e w' => e = .returned (.tuple #[.int .i64 (checkV ls p q cs).1, .int .i64 (checkV ls p q cs).2]) ∧ Below W.heap.size W w' from fun W A1 c1 A6 c6 h1 h2 => CheckCurrents_any W.heap.size ls A1 c1 cs A6 c6 p q W h1.srcs h2.cus (Nat.le_refl _) h64 h64c)
  obtain ⟨hz1, hz2⟩ := cur_ok64 h0
  obtain ⟨hok, hlp, hlq⟩ := loadE_ok h0
  have z := fun W A1 c1 (h : CellsIn W.heap.size W A1 (srcCells ls)) => CurrentsOf_ok W.heap.size ls A1 c1 p q W h.srcs (Nat.le_refl _) h64 h0
  have HCu := Lib.hid (show ∀ W A1 c1, CellsIn W.heap.size W A1 (srcCells ls) → Calls Tryz.prog 7 #[.slice A1 ls.length c1, .agg #[.int .i64 p, .int .i64 q]] W fun e w' => ∃ (A5 : Option Addr) (c5 : Nat), e = .returned (.tuple #[.slice A5 ls.length c5, .int .i64 0]) ∧ CellsIn w'.heap.size w' A5 (cuCells (curCs ls p q)) ∧ Below W.heap.size W w' from fun W A1 c1 h => (z W A1 c1 h).mono (by
    rintro e w' (⟨_, A5, c5, h1, h2, _, h3⟩ | ⟨h1, _⟩)
    · exact ⟨A5, c5, h1, h2, h3⟩
    · exact absurd hs h1))
  have HRf := Lib.hid (show ∀ W, Below w.heap.size w W → Calls Tryz.prog 14 #[.slice A ls.length c, .agg #[.int .i64 p, .int .i64 q]] W fun e w' => ∃ (A5 : Option Addr) (c5 : Nat), e = .returned (.tuple #[.slice A5 ls.length c5, .bool true]) ∧ CusIn w'.heap.size w' A5 (curCs ls p q) ∧ Below W.heap.size W w' from fun W hW => (refCurrents_any ls A c p q W ((hr.below hW).more hW.size).srcs hok hlp hlq).mono (by
    rintro e w' ⟨h3, (⟨_, A5, c5, h1, h2⟩ | ⟨h1, _⟩)⟩
    · exact ⟨A5, c5, h1, h2, h3⟩
    · exact absurd (curSmall_all.2 hs) h1))
  have hlc : (curCs ls p q).length = ls.length := by unfold curCs; exact List.length_map _
  have HSm := Lib.hid (show ∀ W A5 c5 A6 c6, CusIn W.heap.size W A5 (curCs ls p q) → CusIn W.heap.size W A6 (curCs ls p q) → Calls Tryz.prog 15 #[.slice A5 ls.length c5, .slice A6 ls.length c6] W fun e w' => e = .returned (.bool true) ∧ Below W.heap.size W w' from fun W A5 c5 A6 c6 h1 h2 => by
    have z := sameCurrents_any (curCs ls p q) A5 A6 c5 c6 W h1 h2 (by rw [hlc]; exact hok.1.2)
    rw [hlc] at z
    exact z)
  clear hlc
  have HRk := Lib.hid (show ∀ W, Below w.heap.size w W → Calls Tryz.prog 13 #[.slice A ls.length c, .agg #[.int .i64 p, .int .i64 q], .slice A2 cs.length c2] W fun e w' => e = .returned (.tuple #[.int .i64 (checkV ls p q cs).1, .int .i64 (checkV ls p q cs).2]) ∧ Below W.heap.size W w' from fun W hW => by
    by_cases hcl : cs.length = ls.length
    · rw [check_ok h0 hcl, hcl]
      exact refCheckCurrents_ok ls A c cs A2 c2 p q W ((hr.below hW).more hW.size).srcs ((hr2.below hW).more hW.size).cus hok h64c hcl hlp hlq
    · rw [check_len h0 hcl]
      exact refCheckCurrents_len ls.length cs.length c c2 A A2 p q W hcl)
  rw [hz1] at HSe
  rw [hz2] at HPe
  clear z hz1 hz2 hok hlp hlq h0 hs
  generalize (checkV ls p q cs).1 = k at *
  generalize (checkV ls p q cs).2 = b at *
  clear hr hr2 h64 h64c hT hP hl hm
  go_enter Tryz.func3, Tryz.ntmps3
  go_wp2_with (go_at_call 6; (with_reducible refine (HAw.out _ (pa pr)).mono ?_); rintro e w1 ⟨rfl, hb1⟩; have BX := Lib.hid (show Blk w1 w.heap.size 26 #[.slice A ls.length c, .int .i64 p, .int .i64 q] from (Blk.newAt (w := w) (t := 26) (cs := #[.slice A ls.length c, .int .i64 p, .int .i64 q]) rfl).past hb1); have HQ := Lib.hid (pt (pa (pr (w := w))) hb1); have x0 := BX.out.cellAt 0 rfl; have xl := BX.out.lt; clear hb1)
  clear x0 xl
  have HSS := Lib.hid (show ∀ W, Below w1.heap.size w1 W → W.cell? ⟨w.heap.size, 0, none⟩ = some (.slice A ls.length c) ∧ W.cell? ⟨w.heap.size, 1, none⟩ = some (.int .i64 p) ∧ W.cell? ⟨w.heap.size, 2, none⟩ = some (.int .i64 q) from fun W hW => ⟨(BX.out.past hW).cellAt 0 rfl, (BX.out.past hW).cellAt 1 rfl, (BX.out.past hW).cellAt 2 rfl⟩)
  refine wp_region_G 10 follows_mixed (fun W => W.cell? ⟨w.heap.size, 0, none⟩ = some (.slice A ls.length c) ∧ W.cell? ⟨w.heap.size, 1, none⟩ = some (.int .i64 p) ∧ W.cell? ⟨w.heap.size, 2, none⟩ = some (.int .i64 q)) (HSS.out _ (pd pr)) ?_
  intro hSd inv
  have HSd := Lib.hid hSd
  clear hSd
  have HB0 := Lib.hid (show Below w1.heap.size w1 w1.drew from pd pr)
  refine wpAnyG_take (i := 0) (v := ?_) rfl (by kernel_rfl) (by kernel_rfl) (by kernel_rfl) (by kernel_rfl) (by kernel_rfl) (by decide) (by decide) inv (fun _ _ _ h => h) (Or.inl ⟨by rfl, ?_⟩) HSd.out ?_; rotate_left; (focus (intro W y1; obtain ⟨y1, y2, y3⟩ := y1; go_simp; (first | done | with_reducible rfl))); clear inv; intro inv; simp only [List.getElem_toArray, List.getElem_cons_zero, Act.put, List.setIfInBounds_toArray, List.set_cons_zero, List.set_cons_succ]
  refine wpAnyG_take (i := 1) (v := ?_) rfl (by kernel_rfl) (by kernel_rfl) (by kernel_rfl) (by kernel_rfl) (by kernel_rfl) (by decide) (by decide) inv (fun _ _ _ h => h) (Or.inl ⟨by rfl, ?_⟩) HSd.out ?_; rotate_left; (focus (intro W y1; obtain ⟨y1, y2, y3⟩ := y1; go_simp; (first | done | with_reducible rfl))); clear inv; intro inv; simp only [List.getElem_toArray, List.getElem_cons_zero, List.getElem_cons_succ, Act.put, List.setIfInBounds_toArray, List.set_cons_zero, List.set_cons_succ]
  refine wpAnyG_take (i := 3) (v := ?_) rfl (by kernel_rfl) (by kernel_rfl) (by kernel_rfl) (by kernel_rfl) (by kernel_rfl) (by decide) (by decide) inv (fun _ _ _ h => h) (Or.inl ⟨by rfl, ?_⟩) HSd.out ?_; rotate_left; (focus (intro W y1; obtain ⟨y1, y2, y3⟩ := y1; go_simp; (first | done | with_reducible rfl))); clear inv; intro inv; simp only [List.getElem_toArray, List.getElem_cons_zero, List.getElem_cons_succ, Act.put, List.setIfInBounds_toArray, List.set_cons_zero, List.set_cons_succ]
  refine wpAnyG_take (i := 4) (v := ?_) rfl (by kernel_rfl) (by kernel_rfl) (by kernel_rfl) (by kernel_rfl) (by kernel_rfl) (by decide) (by decide) inv (fun _ _ _ h => h) (Or.inl ⟨by rfl, ?_⟩) HSd.out ?_; rotate_left; (focus (intro W y1; obtain ⟨y1, y2, y3⟩ := y1; go_simp; (first | done | with_reducible rfl))); clear inv; intro inv; simp only [List.getElem_toArray, List.getElem_cons_zero, List.getElem_cons_succ, Act.put, List.setIfInBounds_toArray, List.set_cons_zero, List.set_cons_succ]
  have HInv := Lib.hid inv
  clear inv
  refine wpAnyG_one (i := 2) (by kernel_rfl) rfl rfl fun K hK => ?_
  go_simp
  refine (HCp.out _ (pt HQ.out HB0.out)).mono ?_
  rintro e w2 ⟨A4, c4, rfl, hc4, hl4, hb⟩
  have HBx2 := Lib.hid (show Below w1.heap.size w1 w2 from pt HB0.out hb)
  have HC4 := Lib.hid hc4
  clear hc4 hl4
  refine hK.out _ _ (fun _ => HSS.out _ HBx2.out) ?_
  clear hK K hb
  replace HInv := Lib.hid (inv_one (i := 2) HInv.out (by kernel_rfl) (by decide))
  refine wpAnyG_one (i := 5) (by kernel_rfl) rfl rfl fun K hK => ?_
  go_simp
  refine (HCu.out _ A4 c4 HC4.out).mono ?_
  rintro e w3 ⟨A5, c5, rfl, hc5, hb⟩
  have HBx5 := Lib.hid (show Below w1.heap.size w1 w3 from pt HBx2.out hb)
  have HC5 := Lib.hid hc5
  clear hc5 HC4
  refine hK.out _ _ (fun _ => HSS.out _ HBx5.out) ?_
  clear hK K hb
  replace HInv := Lib.hid (inv_one (i := 5) HInv.out (by kernel_rfl) (by decide))
  refine wpAnyG_one (i := 6) (by kernel_rfl) rfl rfl fun K hK => ?_
  go_simp
  refine hK.out _ _ (fun _ => HSS.out _ HBx5.out) ?_
  clear hK K
  replace HInv := Lib.hid (inv_one (i := 6) HInv.out (by kernel_rfl) (by decide))
  have inv := HInv.out
  clear HInv
  replace HSd := Lib.hid (HSS.out _ HBx5.out)
  refine wpAnyG_take (i := 7) (v := ?_) rfl (by kernel_rfl) (by kernel_rfl) (by kernel_rfl) (by kernel_rfl) (by kernel_rfl) (by decide) (by decide) inv (fun _ _ _ h => h) (Or.inl ⟨by rfl, ?_⟩) HSd.out ?_; rotate_left; (focus (intro W y1; obtain ⟨y1, y2, y3⟩ := y1; go_simp; (first | done | with_reducible rfl))); clear inv; intro inv; simp only [List.getElem_toArray, List.getElem_cons_zero, List.getElem_cons_succ, Act.put, List.setIfInBounds_toArray, List.set_cons_zero, List.set_cons_succ]
  refine wpAnyG_take (i := 8) (v := ?_) rfl (by kernel_rfl) (by kernel_rfl) (by kernel_rfl) (by kernel_rfl) (by kernel_rfl) (by decide) (by decide) inv (fun _ _ _ h => h) (Or.inl ⟨by rfl, ?_⟩) HSd.out ?_; rotate_left; (focus (intro W y1; obtain ⟨y1, y2, y3⟩ := y1; go_simp; (first | done | with_reducible rfl))); clear inv; intro inv; simp only [List.getElem_toArray, List.getElem_cons_zero, List.getElem_cons_succ, Act.put, List.setIfInBounds_toArray, List.set_cons_zero, List.set_cons_succ]
  have HInv := Lib.hid inv
  clear inv
  refine wpAnyG_one (i := 9) (by kernel_rfl) rfl rfl fun K hK => ?_
  go_simp
  refine hK.out _ _ (fun _ => HSS.out _ HBx5.out) ?_
  clear hK K
  replace HInv := Lib.hid (inv_one (i := 9) HInv.out (by kernel_rfl) (by decide))
  refine wpAnyG_one (i := 10) (by kernel_rfl) rfl rfl fun K hK => ?_
  go_simp
  refine hK.out _ _ (fun h => absurd h (by decide)) ?_
  clear hK K
  refine wpAnyG_done (by kernel_rfl) ?_
  clear HInv
  clear HSS HSd HB0
  have BX3 := Lib.hid (BX.out.past HBx5.out)
  have HQ3 := Lib.hid (pt HQ.out HBx5.out)
  clear BX HQ HAw HCu
  as_aux_lemma =>
  go_wp2
  have HSS := Lib.hid (show ∀ W, Below w3.heap.size w3 W → W.cell? ⟨w.heap.size, 0, none⟩ = some (.slice A ls.length c) ∧ W.cell? ⟨w.heap.size, 1, none⟩ = some (.int .i64 p) ∧ W.cell? ⟨w.heap.size, 2, none⟩ = some (.int .i64 q) from fun W hW => ⟨(BX3.out.past hW).cellAt 0 rfl, (BX3.out.past hW).cellAt 1 rfl, (BX3.out.past hW).cellAt 2 rfl⟩)
  refine wp_region_G 12 follows_mixed (fun W => W.cell? ⟨w.heap.size, 0, none⟩ = some (.slice A ls.length c) ∧ W.cell? ⟨w.heap.size, 1, none⟩ = some (.int .i64 p) ∧ W.cell? ⟨w.heap.size, 2, none⟩ = some (.int .i64 q)) (HSS.out _ (pd pr)) ?_
  intro hSd inv
  have HSd := Lib.hid hSd
  clear hSd
  have HB0 := Lib.hid (show Below w3.heap.size w3 w3.drew from pd pr)
  refine wpAnyG_take (i := 0) (v := ?_) rfl (by kernel_rfl) (by kernel_rfl) (by kernel_rfl) (by kernel_rfl) (by kernel_rfl) (by decide) (by decide) inv (fun _ _ _ h => h) (Or.inl ⟨by rfl, ?_⟩) HSd.out ?_; rotate_left; (focus (intro W y1; obtain ⟨y1, y2, y3⟩ := y1; go_simp; (first | done | with_reducible rfl))); clear inv; intro inv; simp only [List.getElem_toArray, List.getElem_cons_zero, Act.put, List.setIfInBounds_toArray, List.set_cons_zero, List.set_cons_succ]
  refine wpAnyG_take (i := 1) (v := ?_) rfl (by kernel_rfl) (by kernel_rfl) (by kernel_rfl) (by kernel_rfl) (by kernel_rfl) (by decide) (by decide) inv (fun _ _ _ h => h) (Or.inl ⟨by rfl, ?_⟩) HSd.out ?_; rotate_left; (focus (intro W y1; obtain ⟨y1, y2, y3⟩ := y1; go_simp; (first | done | with_reducible rfl))); clear inv; intro inv; simp only [List.getElem_toArray, List.getElem_cons_zero, List.getElem_cons_succ, Act.put, List.setIfInBounds_toArray, List.set_cons_zero, List.set_cons_succ]
  refine wpAnyG_take (i := 3) (v := ?_) rfl (by kernel_rfl) (by kernel_rfl) (by kernel_rfl) (by kernel_rfl) (by kernel_rfl) (by decide) (by decide) inv (fun _ _ _ h => h) (Or.inl ⟨by rfl, ?_⟩) HSd.out ?_; rotate_left; (focus (intro W y1; obtain ⟨y1, y2, y3⟩ := y1; go_simp; (first | done | with_reducible rfl))); clear inv; intro inv; simp only [List.getElem_toArray, List.getElem_cons_zero, List.getElem_cons_succ, Act.put, List.setIfInBounds_toArray, List.set_cons_zero, List.set_cons_succ]
  refine wpAnyG_take (i := 4) (v := ?_) rfl (by kernel_rfl) (by kernel_rfl) (by kernel_rfl) (by kernel_rfl) (by kernel_rfl) (by decide) (by decide) inv (fun _ _ _ h => h) (Or.inl ⟨by rfl, ?_⟩) HSd.out ?_; rotate_left; (focus (intro W y1; obtain ⟨y1, y2, y3⟩ := y1; go_simp; (first | done | with_reducible rfl))); clear inv; intro inv; simp only [List.getElem_toArray, List.getElem_cons_zero, List.getElem_cons_succ, Act.put, List.setIfInBounds_toArray, List.set_cons_zero, List.set_cons_succ]
  refine wpAnyG_take (i := 5) (v := ?_) rfl (by kernel_rfl) (by kernel_rfl) (by kernel_rfl) (by kernel_rfl) (by kernel_rfl) (by decide) (by decide) inv (fun _ _ _ h => h) (Or.inl ⟨by rfl, ?_⟩) HSd.out ?_; rotate_left; (focus (intro W y1; obtain ⟨y1, y2, y3⟩ := y1; go_simp; (first | done | with_reducible rfl))); clear inv; intro inv; simp only [List.getElem_toArray, List.getElem_cons_zero, List.getElem_cons_succ, Act.put, List.setIfInBounds_toArray, List.set_cons_zero, List.set_cons_succ]
  have HInv := Lib.hid inv
  clear inv
  refine wpAnyG_one (i := 2) (by kernel_rfl) rfl rfl fun K hK => ?_
  go_simp
  refine (HCp.out _ (pt HQ3.out HB0.out)).mono ?_
  rintro e w4 ⟨A6, c6, rfl, hc6, hl6, hb⟩
  have HBx2 := Lib.hid (show Below w3.heap.size w3 w4 from pt HB0.out hb)
  have HC6 := Lib.hid hc6
  clear hc6 hl6
  refine hK.out _ _ (fun _ => HSS.out _ HBx2.out) ?_
  clear hK K hb
  replace HInv := Lib.hid (inv_one (i := 2) HInv.out (by kernel_rfl) (by decide))
  refine wpAnyG_one (i := 6) (by kernel_rfl) rfl rfl fun K hK => ?_
  go_simp
  refine (HCd.out _ (pt HQ3.out HBx2.out)).mono ?_
  rintro e w5 ⟨A7, c7, rfl, hc7, hl7, hb⟩
  have HBx6 := Lib.hid (show Below w3.heap.size w3 w5 from pt HBx2.out hb)
  have HC7 := Lib.hid hc7
  have HC8 := Lib.hid ((HC6.out.below hb).more hb.size)
  clear hc7 hl7
  refine hK.out _ _ (fun _ => HSS.out _ HBx6.out) ?_
  clear hK K hb
  replace HInv := Lib.hid (inv_one (i := 6) HInv.out (by kernel_rfl) (by decide))
  refine wpAnyG_one (i := 7) (by kernel_rfl) rfl rfl fun K hK => ?_
  go_simp
  refine (HCk.out w5 A6 c6 A7 c7 HC8.out HC7.out).mono ?_
  rintro e w6 ⟨rfl, hb⟩
  have HBx7 := Lib.hid (show Below w3.heap.size w3 w6 from pt HBx6.out hb)
  clear HC7 HC6 HC8
  refine hK.out _ _ (fun _ => HSS.out _ HBx7.out) ?_
  clear hK K hb
  replace HInv := Lib.hid (inv_one (i := 7) HInv.out (by kernel_rfl) (by decide))
  refine wpAnyG_one (i := 8) (by kernel_rfl) rfl rfl fun K hK => ?_
  go_simp
  refine hK.out _ _ (fun _ => HSS.out _ HBx7.out) ?_
  clear hK K
  replace HInv := Lib.hid (inv_one (i := 8) HInv.out (by kernel_rfl) (by decide))
  have inv := HInv.out
  clear HInv
  replace HSd := Lib.hid (HSS.out _ HBx7.out)
  refine wpAnyG_take (i := 9) (v := ?_) rfl (by kernel_rfl) (by kernel_rfl) (by kernel_rfl) (by kernel_rfl) (by kernel_rfl) (by decide) (by decide) inv (fun _ _ _ h => h) (Or.inl ⟨by rfl, ?_⟩) HSd.out ?_; rotate_left; (focus (intro W y1; obtain ⟨y1, y2, y3⟩ := y1; go_simp; (first | done | with_reducible rfl))); clear inv; intro inv; simp only [List.getElem_toArray, List.getElem_cons_zero, List.getElem_cons_succ, Act.put, List.setIfInBounds_toArray, List.set_cons_zero, List.set_cons_succ]
  refine wpAnyG_take (i := 10) (v := ?_) rfl (by kernel_rfl) (by kernel_rfl) (by kernel_rfl) (by kernel_rfl) (by kernel_rfl) (by decide) (by decide) inv (fun _ _ _ h => h) (Or.inl ⟨by rfl, ?_⟩) HSd.out ?_; rotate_left; (focus (intro W y1; obtain ⟨y1, y2, y3⟩ := y1; go_simp; (first | done | with_reducible rfl))); clear inv; intro inv; simp only [List.getElem_toArray, List.getElem_cons_zero, List.getElem_cons_succ, Act.put, List.setIfInBounds_toArray, List.set_cons_zero, List.set_cons_succ]
  have HInv := Lib.hid inv
  clear inv
  refine wpAnyG_one (i := 11) (by kernel_rfl) rfl rfl fun K hK => ?_
  go_simp
  refine hK.out _ _ (fun _ => HSS.out _ HBx7.out) ?_
  clear hK K
  replace HInv := Lib.hid (inv_one (i := 11) HInv.out (by kernel_rfl) (by decide))
  refine wpAnyG_one (i := 12) (by kernel_rfl) rfl rfl fun K hK => ?_
  go_simp
  refine hK.out _ _ (fun h => absurd h (by decide)) ?_
  clear hK K
  refine wpAnyG_done (by kernel_rfl) ?_
  clear HInv
  clear HSS HSd HB0
  have BX6 := Lib.hid (BX3.out.past HBx7.out)
  have HQ6 := Lib.hid (pt HQ3.out HBx7.out)
  have HC5 := Lib.hid ((HC5.out.below HBx7.out).more HBx7.out.size)
  clear BX3 HQ3 HCp HCd HCk
  have x0 := BX6.out.cellAt 0 rfl
  have x1 := BX6.out.cellAt 1 rfl
  have x2 := BX6.out.cellAt 2 rfl
  have xl := BX6.out.lt
  as_aux_lemma =>
  have HX5 := Lib.hid (show ∀ W, Below w6.heap.size w6 W → CusIn W.heap.size W A5 (curCs ls p q) from fun W hW => ((HC5.out.below hW).more hW.size).cus)
  go_wp2_with (first
    | (go_at_call 11; (with_reducible refine (HSe.out _ HQ6.out).mono ?_); rintro e w7 ⟨rfl, hb⟩; have HX5 := Lib.hid (show ∀ W, Below w7.heap.size w7 W → CusIn W.heap.size W A5 (curCs ls p q) from fun W hW => HX5.out W (pt hb hW)); have BX7 := Lib.hid (BX6.out.past hb); have HQ7 := Lib.hid (pt HQ6.out hb); clear x0 x1 x2 xl; have x0 := BX7.out.cellAt 0 rfl; have x1 := BX7.out.cellAt 1 rfl; have x2 := BX7.out.cellAt 2 rfl; have xl := BX7.out.lt; clear hb)
    | (go_at_call 12; (with_reducible refine (HPe.out _).mono ?_); rintro e w8 ⟨rfl, hb⟩; have HX5 := Lib.hid (show ∀ W, Below w8.heap.size w8 W → CusIn W.heap.size W A5 (curCs ls p q) from fun W hW => HX5.out W (pt hb hW)); have BX8 := Lib.hid (BX7.out.past hb); have HQ8 := Lib.hid (pt HQ7.out hb); clear x0 x1 x2 xl; have x0 := BX8.out.cellAt 0 rfl; have x1 := BX8.out.cellAt 1 rfl; have x2 := BX8.out.cellAt 2 rfl; have xl := BX8.out.lt; clear hb)
    | (go_at_call 13; (with_reducible refine (HRk.out _ HQ8.out).mono ?_); rintro e w9 ⟨rfl, hb⟩; have HX5 := Lib.hid (show ∀ W, Below w9.heap.size w9 W → CusIn W.heap.size W A5 (curCs ls p q) from fun W hW => HX5.out W (pt hb hW)); have BX9 := Lib.hid (BX8.out.past hb); have HQ9 := Lib.hid (pt HQ8.out hb); clear x0 x1 x2 xl; have x0 := BX9.out.cellAt 0 rfl; have x1 := BX9.out.cellAt 1 rfl; have x2 := BX9.out.cellAt 2 rfl; have xl := BX9.out.lt; clear hb)
    | (go_at_call 14; (with_reducible refine (HRf.out _ HQ9.out).mono ?_); rintro e w10 ⟨A9, c9, rfl, hc9, hb⟩; have HC9 := Lib.hid hc9; have HCx := Lib.hid (HX5.out _ hb); clear hc9; have BX10 := Lib.hid (BX9.out.past hb); have HQ10 := Lib.hid (pt HQ9.out hb); clear x0 x1 x2 xl; have x0 := BX10.out.cellAt 0 rfl; have x1 := BX10.out.cellAt 1 rfl; have x2 := BX10.out.cellAt 2 rfl; have xl := BX10.out.lt; clear hb)
    | (go_at_call 15; (with_reducible refine (HSm.out _ A5 c5 A9 c9 HCx.out HC9.out).mono ?_); rintro e w11 ⟨rfl, hb⟩; have BX11 := Lib.hid (BX10.out.past hb); have HQ11 := Lib.hid (pt HQ10.out hb); clear x0 x1 x2 xl; have x0 := BX11.out.cellAt 0 rfl; have x1 := BX11.out.cellAt 1 rfl; have x2 := BX11.out.cellAt 2 rfl; have xl := BX11.out.lt; clear hb))
  go_ret
  exact ⟨by first | rfl | simp, HQ11.out⟩

theorem currents_any (ls : List Src) (A : Option Addr) (c : Nat) (p q : Int) (cs : List Cu) (A2 : Option Addr) (c2 : Nat) (w : World) (hr : CellsIn w.heap.size w A (srcCells ls)) (hr2 : CellsIn w.heap.size w A2 (cuCells cs)) (h64 : ∀ s ∈ ls, Src64 s) (h64c : ∀ s ∈ cs, Cu64 s) (hT : TwIn w) (hP : PatIn w) :
    Calls Tryz.prog 3 #[.agg #[.slice A ls.length c, .int .i64 p, .int .i64 q], .slice A2 cs.length c2] w fun e w' => e = .returned (.bool true) ∧ Below w.heap.size w w' := by
  by_cases hm : 6 < ls.length ∨ 6 < cs.length
  · exact curlaw_many ls A c p q cs A2 c2 w hr hr2 h64 h64c hT hP hm
  · have h1 : ls.length ≤ 6 := by omega
    have h2 : cs.length ≤ 6 := by omega
    by_cases h0 : sourcesE ls = 0
    · by_cases hp : phE p q = 0
      · have hle : loadE ls p q = 0 := by unfold loadE; rw [if_pos h0]; exact hp
        by_cases hs : allSmall ls p q
        · exact curlaw_all ls A c p q cs A2 c2 w hr hr2 h64 h64c hT hP h1 h2 hle hs
        · exact curlaw_none ls A c p q cs A2 c2 w hr hr2 h64 h64c hT hP h1 h2 hle hs
      · exact curlaw_load ls A c p q cs A2 c2 w hr hr2 h64 h64c hT hP h1 h2 h0 hp
    · exact curlaw_srcs ls A c p q cs A2 c2 w hr hr2 h64 h64c hT hP h1 h2 h0

end Go.Proofs.YtpdkbhjcpddnpaaGreatDoor
end
