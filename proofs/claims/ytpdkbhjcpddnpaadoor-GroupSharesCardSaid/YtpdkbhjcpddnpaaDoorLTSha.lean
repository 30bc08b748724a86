/- The walk of the law on shares. Printed by a program (gen_shares.py). -/
import Derived.Test.YtpdkbhjcpddnpaaDoorLSShaP
import Derived.Test.YtpdkbhjcpddnpaaDoorP0Region
import Derived.Test.YtpdkbhjcpddnpaaDoorGJAwake
import Derived.Deep.DeepCutAuto
namespace Go.Proofs.YtpdkbhjcpddnpaaDoor
open Go.RowKit
attribute [local go_sem ↓] Go.wp_at_zero Go.wp_at_succ

/-- What stands all the way: both arguments. -/
structure ShSt (w : World) (A : Option Addr) (n c : Nat) (p q b0 b1 b2 : Int) (W : World) : Prop where
  bx : Blk W w.heap.size 26 #[.slice A n c, .int .i64 p, .int .i64 q]
  by_ : Blk W (w.heap.size + 1) 27 #[.int .i64 b0, .int .i64 b1, .int .i64 b2]
  bel : Below w.heap.size w W
section
variable {w : World} {A : Option Addr} {n c : Nat} {p q b0 b1 b2 : Int} {wr W : World}
theorem ShSt.past (h : ShSt w A n c p q b0 b1 b2 wr) (hb : Below wr.heap.size wr W) : ShSt w A n c p q b0 b1 b2 W := ⟨h.bx.past hb, h.by_.past hb, pt h.bel hb⟩
end
theorem times_bd {p n : Int} (h : -1000000 ≤ p ∧ p ≤ 1000000) (hn : 1 ≤ n ∧ n ≤ 5) : -5000000 ≤ n * p ∧ n * p ≤ 5000000 := by
  have a : n = 1 ∨ n = 2 ∨ n = 3 ∨ n = 4 ∨ n = 5 := by omega
  rcases a with rfl | rfl | rfl | rfl | rfl <;> omega
theorem inv_one {md : Region.Mode} {ops : Array Oper} {n i : Nat} {listed : Array Bool} (inv : HeadInv md ops n listed) (hr : Region.ready md ops listed = [i]) (hi : i < n) : HeadInv md ops n (listed.setIfInBounds i true) := inv.set (by rw [hr]; exact List.mem_singleton_self i) hi
theorem cur_result {B : Nat} {ls : List Src} {A : Option Addr} {c : Nat} {p q : Int} {w : World} (hr : SrcsIn B w A ls) (hB : B ≤ w.heap.size) (h64 : ∀ s ∈ ls, Src64 s) (h0 : loadE ls p q = 0) :
    (allSmall ls p q → Calls Tryd.prog 7 #[.slice A ls.length c, .agg #[.int .i64 p, .int .i64 q]] w fun e w' => ∃ (A1 : Option Addr) (c1 : Nat), e = .returned (.tuple #[.slice A1 ls.length c1, .int .i64 0]) ∧ CellsIn w'.heap.size w' A1 (cuCells (curCs ls p q)) ∧ ls.length ≤ c1 ∧ Below w.heap.size w w') ∧
    (¬ allSmall ls p q → Calls Tryd.prog 7 #[.slice A ls.length c, .agg #[.int .i64 p, .int .i64 q]] w fun e w' => e = .returned (.tuple #[.slice none 0 0, .int .i64 8]) ∧ Below w.heap.size w w') := by
  have h := CurrentsOf_ok B ls A c p q w hr hB h64 h0
  constructor
  · intro hs
    refine h.mono ?_
    rintro e w' (⟨_, h1⟩ | ⟨h1, _⟩)
    · exact h1
    · exact absurd hs h1
  · intro hs
    refine h.mono ?_
    rintro e w' (⟨h1, _⟩ | ⟨_, h1⟩)
    · exact absurd h1 hs
    · exact h1


set_option maxHeartbeats 16000000 in
set_option maxRecDepth 100000 in
theorem shares_srcs (ls : List Src) (A : Option Addr) (c : Nat) (p q b0 b1 b2 : Int) (w : World) (hr : CellsIn w.heap.size w A (srcCells ls)) (h64 : ∀ s ∈ ls, Src64 s) (_hby : W64 b0 ∧ W64 b1 ∧ W64 b2) (hT : TwIn w) (hP : PatIn w) (h0 : sourcesE ls ≠ 0) :
    Calls Tryd.prog 3 #[.agg #[.slice A ls.length c, .int .i64 p, .int .i64 q], .agg #[.int .i64 b0, .int .i64 b1, .int .i64 b2]] w fun e w' => e = .returned (.bool true) ∧ Below w.heap.size w w' := by
  have HAw := Lib.hid (show ∀ W, Below w.heap.size w W → Calls Tryd.prog 4 #[] W fun e w' => e = .returned (.bool true) ∧ Below W.heap.size W w' from fun W hW => awake_any W (hT.below hW) (hP.below hW))
  have HXc := Lib.hid (show ∀ W, Below w.heap.size w W → CellsIn W.heap.size W A (srcCells ls) from fun W hW => (hr.below hW).more hW.size)
  have HSe := Lib.hid (show ∀ W, Below w.heap.size w W → Calls Tryd.prog 5 #[.slice A ls.length c] W fun e w' => e = .returned (.int .i64 (sourcesE ls)) ∧ Below W.heap.size W w' from fun W hW => refSourcesErr_any W.heap.size ls A c W ((hr.below hW).more hW.size).srcs (Nat.le_refl _) h64)
  have HPe := Lib.hid (fun W => refPhasorErr_any p q W)
  have e1 : (sourcesE ls != 0) = true := by simpa using h0
  have e2 : ¬ sourcesE ls = 0 := h0
  clear hr h64 _hby hT hP h0
  generalize sourcesE ls = E at *
  go_enter Tryd.func3, Tryd.ntmps3
  go_wp2_with (first
    | (go_at_call 4; (with_reducible refine (HAw.out _ (pa (pa pr))).mono ?_); rintro e w1 ⟨rfl, hb1⟩; have ST1 := Lib.hid (show ShSt w A ls.length c p q b0 b1 b2 w1 from ⟨((Blk.newAt (w := w) (t := 26) (cs := #[.slice A ls.length c, .int .i64 p, .int .i64 q]) rfl).alloc (o := .cells #[.int .i64 b0, .int .i64 b1, .int .i64 b2] 27)).past hb1, (Blk.newAt (w := w.alloc (.cells #[.slice A ls.length c, .int .i64 p, .int .i64 q] 26)) (t := 27) (cs := #[.int .i64 b0, .int .i64 b1, .int .i64 b2]) (n := w.heap.size + 1) (by simp)).past hb1, pt (pa (pa (pr (w := w)))) hb1⟩); have x0 := ST1.out.bx.cellAt 0 rfl; have xl := ST1.out.bx.lt; clear hb1)
    | (go_at_call 5; (with_reducible refine (HSe.out _ ST1.out.bel).mono ?_); rintro e w2 ⟨rfl, hb2⟩; have ST2 := Lib.hid (ST1.out.past hb2); clear x0 xl; have x1 := ST2.out.bx.cellAt 1 rfl; have x2 := ST2.out.bx.cellAt 2 rfl; have xl := ST2.out.bx.lt; clear hb2))
  go_ret
  exact ⟨rfl, ST2.out.bel⟩

set_option maxHeartbeats 16000000 in
set_option maxRecDepth 100000 in
theorem shares_load (ls : List Src) (A : Option Addr) (c : Nat) (p q b0 b1 b2 : Int) (w : World) (hr : CellsIn w.heap.size w A (srcCells ls)) (h64 : ∀ s ∈ ls, Src64 s) (_hby : W64 b0 ∧ W64 b1 ∧ W64 b2) (hT : TwIn w) (hP : PatIn w) (h0 : sourcesE ls = 0) (h1 : phE p q ≠ 0) :
    Calls Tryd.prog 3 #[.agg #[.slice A ls.length c, .int .i64 p, .int .i64 q], .agg #[.int .i64 b0, .int .i64 b1, .int .i64 b2]] w fun e w' => e = .returned (.bool true) ∧ Below w.heap.size w w' := by
  have HAw := Lib.hid (show ∀ W, Below w.heap.size w W → Calls Tryd.prog 4 #[] W fun e w' => e = .returned (.bool true) ∧ Below W.heap.size W w' from fun W hW => awake_any W (hT.below hW) (hP.below hW))
  have HXc := Lib.hid (show ∀ W, Below w.heap.size w W → CellsIn W.heap.size W A (srcCells ls) from fun W hW => (hr.below hW).more hW.size)
  have HSe := Lib.hid (show ∀ W, Below w.heap.size w W → Calls Tryd.prog 5 #[.slice A ls.length c] W fun e w' => e = .returned (.int .i64 (sourcesE ls)) ∧ Below W.heap.size W w' from fun W hW => refSourcesErr_any W.heap.size ls A c W ((hr.below hW).more hW.size).srcs (Nat.le_refl _) h64)
  have HPe := Lib.hid (fun W => refPhasorErr_any p q W)
  rw [h0] at HSe
  have e1 : (phE p q != 0) = true := by simpa using h1
  have e2 : ¬ phE p q = 0 := h1
  clear hr h64 _hby hT hP h0 h1
  generalize phE p q = E at *
  go_enter Tryd.func3, Tryd.ntmps3
  go_wp2_with (first
    | (go_at_call 4; (with_reducible refine (HAw.out _ (pa (pa pr))).mono ?_); rintro e w1 ⟨rfl, hb1⟩; have ST1 := Lib.hid (show ShSt w A ls.length c p q b0 b1 b2 w1 from ⟨((Blk.newAt (w := w) (t := 26) (cs := #[.slice A ls.length c, .int .i64 p, .int .i64 q]) rfl).alloc (o := .cells #[.int .i64 b0, .int .i64 b1, .int .i64 b2] 27)).past hb1, (Blk.newAt (w := w.alloc (.cells #[.slice A ls.length c, .int .i64 p, .int .i64 q] 26)) (t := 27) (cs := #[.int .i64 b0, .int .i64 b1, .int .i64 b2]) (n := w.heap.size + 1) (by simp)).past hb1, pt (pa (pa (pr (w := w)))) hb1⟩); have x0 := ST1.out.bx.cellAt 0 rfl; have xl := ST1.out.bx.lt; clear hb1)
    | (go_at_call 5; (with_reducible refine (HSe.out _ ST1.out.bel).mono ?_); rintro e w2 ⟨rfl, hb2⟩; have ST2 := Lib.hid (ST1.out.past hb2); clear x0 xl; have x1 := ST2.out.bx.cellAt 1 rfl; have x2 := ST2.out.bx.cellAt 2 rfl; have xl := ST2.out.bx.lt; clear hb2)
    | (go_at_call 6; (with_reducible refine (HPe.out _).mono ?_); rintro e w3 ⟨rfl, hb3⟩; have ST3 := Lib.hid (ST2.out.past hb3); clear hb3 x1 x2 xl))
  go_ret
  exact ⟨rfl, ST3.out.bel⟩

set_option maxHeartbeats 16000000 in
set_option maxRecDepth 100000 in
theorem shares_big (ls : List Src) (A : Option Addr) (c : Nat) (p q b0 b1 b2 : Int) (w : World) (hr : CellsIn w.heap.size w A (srcCells ls)) (h64 : ∀ s ∈ ls, Src64 s) (_hby : W64 b0 ∧ W64 b1 ∧ W64 b2) (hT : TwIn w) (hP : PatIn w) (h0 : sourcesE ls = 0) (h1 : phE p q = 0) (hns : ¬ allSmall ls p q) :
    Calls Tryd.prog 3 #[.agg #[.slice A ls.length c, .int .i64 p, .int .i64 q], .agg #[.int .i64 b0, .int .i64 b1, .int .i64 b2]] w fun e w' => e = .returned (.bool true) ∧ Below w.heap.size w w' := by
  have HAw := Lib.hid (show ∀ W, Below w.heap.size w W → Calls Tryd.prog 4 #[] W fun e w' => e = .returned (.bool true) ∧ Below W.heap.size W w' from fun W hW => awake_any W (hT.below hW) (hP.below hW))
  have HXc := Lib.hid (show ∀ W, Below w.heap.size w W → CellsIn W.heap.size W A (srcCells ls) from fun W hW => (hr.below hW).more hW.size)
  have HSe := Lib.hid (show ∀ W, Below w.heap.size w W → Calls Tryd.prog 5 #[.slice A ls.length c] W fun e w' => e = .returned (.int .i64 (sourcesE ls)) ∧ Below W.heap.size W w' from fun W hW => refSourcesErr_any W.heap.size ls A c W ((hr.below hW).more hW.size).srcs (Nat.le_refl _) h64)
  have HPe := Lib.hid (fun W => refPhasorErr_any p q W)
  have hle : loadE ls p q = 0 := by unfold loadE; rw [if_pos h0]; exact h1
  obtain ⟨hok, hp, hq⟩ := loadE_ok hle
  have HCu := Lib.hid (fun W A1 c1 (h : CellsIn W.heap.size W A1 (srcCells ls)) => cur_result (c := c1) h.srcs (Nat.le_refl _) h64 hle)
  have HCp := Lib.hid (show ∀ W, Below w.heap.size w W → Calls Tryd.prog 8 #[.slice A ls.length c] W (CellsRet W ls.length (srcCells ls)) from fun W hW => copySources_any W.heap.size A c ls W ((hr.below hW).more hW.size) (Nat.le_refl _) (Nat.le_trans hok.1.2 (by decide)))
  rw [h0] at HSe
  rw [h1] at HPe
  have HCn := Lib.hid (fun W A1 c1 (h : CellsIn W.heap.size W A1 (srcCells ls)) => (HCu.out W A1 c1 h).2 hns)
  clear hr h64 _hby hT hP h0 h1 hns hle hok hp hq HCu
  go_enter Tryd.func3, Tryd.ntmps3
  go_wp2_with (first
    | (go_at_call 4; (with_reducible refine (HAw.out _ (pa (pa pr))).mono ?_); rintro e w1 ⟨rfl, hb1⟩; have ST1 := Lib.hid (show ShSt w A ls.length c p q b0 b1 b2 w1 from ⟨((Blk.newAt (w := w) (t := 26) (cs := #[.slice A ls.length c, .int .i64 p, .int .i64 q]) rfl).alloc (o := .cells #[.int .i64 b0, .int .i64 b1, .int .i64 b2] 27)).past hb1, (Blk.newAt (w := w.alloc (.cells #[.slice A ls.length c, .int .i64 p, .int .i64 q] 26)) (t := 27) (cs := #[.int .i64 b0, .int .i64 b1, .int .i64 b2]) (n := w.heap.size + 1) (by simp)).past hb1, pt (pa (pa (pr (w := w)))) hb1⟩); have x0 := ST1.out.bx.cellAt 0 rfl; have xl := ST1.out.bx.lt; clear hb1)
    | (go_at_call 5; (with_reducible refine (HSe.out _ ST1.out.bel).mono ?_); rintro e w2 ⟨rfl, hb2⟩; have ST2 := Lib.hid (ST1.out.past hb2); clear x0 xl; have x1 := ST2.out.bx.cellAt 1 rfl; have x2 := ST2.out.bx.cellAt 2 rfl; have xl := ST2.out.bx.lt; clear hb2)
    | (go_at_call 6; (with_reducible refine (HPe.out _).mono ?_); rintro e w3 ⟨rfl, hb3⟩; have ST3 := Lib.hid (ST2.out.past hb3); clear hb3 x1 x2 xl))
  have HSS := Lib.hid (show ∀ W, Below w3.heap.size w3 W → W.cell? ⟨w.heap.size, 0, none⟩ = some (.slice A ls.length c) ∧ W.cell? ⟨w.heap.size, 1, none⟩ = some (.int .i64 p) ∧ W.cell? ⟨w.heap.size, 2, none⟩ = some (.int .i64 q) ∧ W.cell? ⟨w.heap.size + 1, 1, none⟩ = some (.int .i64 b1) from fun W hW => ⟨(ST3.out.bx.past hW).cellAt 0 rfl, (ST3.out.bx.past hW).cellAt 1 rfl, (ST3.out.bx.past hW).cellAt 2 rfl, (ST3.out.by_.past hW).cellAt 1 rfl⟩)
  refine wp_region_G 10 follows_mixed (fun W => W.cell? ⟨w.heap.size, 0, none⟩ = some (.slice A ls.length c) ∧ W.cell? ⟨w.heap.size, 1, none⟩ = some (.int .i64 p) ∧ W.cell? ⟨w.heap.size, 2, none⟩ = some (.int .i64 q) ∧ W.cell? ⟨w.heap.size + 1, 1, none⟩ = some (.int .i64 b1)) (HSS.out _ (pd pr)) ?_
  intro hSd inv
  have HSd := Lib.hid hSd
  clear hSd
  have HB0 := Lib.hid (show Below w3.heap.size w3 w3.drew from pd pr)
  refine wpAnyG_take (i := 0) (v := ?_) rfl (by kernel_rfl) (by kernel_rfl) (by kernel_rfl) (by kernel_rfl) (by kernel_rfl) (by decide) (by decide) inv (fun _ _ _ h => h) (Or.inl ⟨by rfl, ?_⟩) HSd.out ?_; rotate_left; (focus (intro W y1; obtain ⟨y1, y2, y3, y4⟩ := y1; go_simp; (first | done | with_reducible rfl))); clear inv; intro inv; simp only [List.getElem_toArray, List.getElem_cons_zero, Act.put, List.setIfInBounds_toArray, List.set_cons_zero, List.set_cons_succ]
  refine wpAnyG_take (i := 1) (v := ?_) rfl (by kernel_rfl) (by kernel_rfl) (by kernel_rfl) (by kernel_rfl) (by kernel_rfl) (by decide) (by decide) inv (fun _ _ _ h => h) (Or.inl ⟨by rfl, ?_⟩) HSd.out ?_; rotate_left; (focus (intro W y1; obtain ⟨y1, y2, y3, y4⟩ := y1; go_simp; (first | done | with_reducible rfl))); clear inv; intro inv; simp only [List.getElem_toArray, List.getElem_cons_zero, List.getElem_cons_succ, Act.put, List.setIfInBounds_toArray, List.set_cons_zero, List.set_cons_succ]
  refine wpAnyG_take (i := 3) (v := ?_) rfl (by kernel_rfl) (by kernel_rfl) (by kernel_rfl) (by kernel_rfl) (by kernel_rfl) (by decide) (by decide) inv (fun _ _ _ h => h) (Or.inl ⟨by rfl, ?_⟩) HSd.out ?_; rotate_left; (focus (intro W y1; obtain ⟨y1, y2, y3, y4⟩ := y1; go_simp; (first | done | with_reducible rfl))); clear inv; intro inv; simp only [List.getElem_toArray, List.getElem_cons_zero, List.getElem_cons_succ, Act.put, List.setIfInBounds_toArray, List.set_cons_zero, List.set_cons_succ]
  refine wpAnyG_take (i := 4) (v := ?_) rfl (by kernel_rfl) (by kernel_rfl) (by kernel_rfl) (by kernel_rfl) (by kernel_rfl) (by decide) (by decide) inv (fun _ _ _ h => h) (Or.inl ⟨by rfl, ?_⟩) HSd.out ?_; rotate_left; (focus (intro W y1; obtain ⟨y1, y2, y3, y4⟩ := y1; go_simp; (first | done | with_reducible rfl))); clear inv; intro inv; simp only [List.getElem_toArray, List.getElem_cons_zero, List.getElem_cons_succ, Act.put, List.setIfInBounds_toArray, List.set_cons_zero, List.set_cons_succ]
  have HInv := Lib.hid inv
  clear inv
  refine wpAnyG_one (i := 2) (by kernel_rfl) rfl rfl fun K hK => ?_
  go_simp
  refine (HCp.out _ (pt ST3.out.bel HB0.out)).mono ?_
  rintro e w4 ⟨A4, c4, rfl, hc4, hl4, hb⟩
  have HB2_ := Lib.hid (show Below w3.heap.size w3 w4 from pt HB0.out hb)
  have HC4 := Lib.hid hc4
  clear hc4
  refine hK.out _ _ (fun _ => HSS.out _ HB2_.out) ?_
  clear hK K hb
  replace HInv := Lib.hid (inv_one (i := 2) HInv.out (by kernel_rfl) (by decide))
  refine wpAnyG_one (i := 5) (by kernel_rfl) rfl rfl fun K hK => ?_
  go_simp
  refine (HCn.out _ A4 c4 HC4.out).mono ?_
  rintro e w5 ⟨rfl, hb⟩
  have HB5_ := Lib.hid (show Below w3.heap.size w3 w5 from pt HB2_.out hb)
  refine hK.out _ _ (fun _ => HSS.out _ HB5_.out) ?_
  clear hK K hb
  replace HInv := Lib.hid (inv_one (i := 5) HInv.out (by kernel_rfl) (by decide))
  refine wpAnyG_one (i := 6) (by kernel_rfl) rfl rfl fun K hK => ?_
  go_simp
  refine hK.out _ _ (fun _ => HSS.out _ HB5_.out) ?_
  clear hK K
  replace HInv := Lib.hid (inv_one (i := 6) HInv.out (by kernel_rfl) (by decide))
  have inv := HInv.out
  clear HInv
  replace HSd := Lib.hid (HSS.out _ HB5_.out)
  refine wpAnyG_take (i := 7) (v := ?_) rfl (by kernel_rfl) (by kernel_rfl) (by kernel_rfl) (by kernel_rfl) (by kernel_rfl) (by decide) (by decide) inv (fun _ _ _ h => h) (Or.inl ⟨by rfl, ?_⟩) HSd.out ?_; rotate_left; (focus (intro W y1; obtain ⟨y1, y2, y3, y4⟩ := y1; go_simp; (first | done | with_reducible rfl))); clear inv; intro inv; simp only [List.getElem_toArray, List.getElem_cons_zero, List.getElem_cons_succ, Act.put, List.setIfInBounds_toArray, List.set_cons_zero, List.set_cons_succ]
  refine wpAnyG_take (i := 8) (v := ?_) rfl (by kernel_rfl) (by kernel_rfl) (by kernel_rfl) (by kernel_rfl) (by kernel_rfl) (by decide) (by decide) inv (fun _ _ _ h => h) (Or.inl ⟨by rfl, ?_⟩) HSd.out ?_; rotate_left; (focus (intro W y1; obtain ⟨y1, y2, y3, y4⟩ := y1; go_simp; (first | done | with_reducible rfl))); clear inv; intro inv; simp only [List.getElem_toArray, List.getElem_cons_zero, List.getElem_cons_succ, Act.put, List.setIfInBounds_toArray, List.set_cons_zero, List.set_cons_succ]
  have HInv := Lib.hid inv
  clear inv
  refine wpAnyG_one (i := 9) (by kernel_rfl) rfl rfl fun K hK => ?_
  go_simp
  refine hK.out _ _ (fun _ => HSS.out _ HB5_.out) ?_
  clear hK K
  replace HInv := Lib.hid (inv_one (i := 9) HInv.out (by kernel_rfl) (by decide))
  refine wpAnyG_one (i := 10) (by kernel_rfl) rfl rfl fun K hK => ?_
  go_simp
  refine hK.out _ _ (fun h => absurd h (by decide)) ?_
  clear hK K
  clear HInv
  refine wpAnyG_done (by kernel_rfl) ?_
  clear HSS HSd HB0
  have ST5 := Lib.hid (ST3.out.past HB5_.out)
  go_wp2
  go_ret
  exact ⟨rfl, ST5.out.bel⟩

set_option maxHeartbeats 16000000 in
set_option maxRecDepth 100000 in
theorem shares_main (ls : List Src) (A : Option Addr) (c : Nat) (p q b0 b1 b2 : Int) (w : World) (hr : CellsIn w.heap.size w A (srcCells ls)) (h64 : ∀ s ∈ ls, Src64 s) (hby : W64 b0 ∧ W64 b1 ∧ W64 b2) (hT : TwIn w) (hP : PatIn w) (h0 : sourcesE ls = 0) (h1 : phE p q = 0) (hs : allSmall ls p q) :
    Calls Tryd.prog 3 #[.agg #[.slice A ls.length c, .int .i64 p, .int .i64 q], .agg #[.int .i64 b0, .int .i64 b1, .int .i64 b2]] w fun e w' => e = .returned (.bool true) ∧ Below w.heap.size w w' := by
  have HAw := Lib.hid (show ∀ W, Below w.heap.size w W → Calls Tryd.prog 4 #[] W fun e w' => e = .returned (.bool true) ∧ Below W.heap.size W w' from fun W hW => awake_any W (hT.below hW) (hP.below hW))
  have HXc := Lib.hid (show ∀ W, Below w.heap.size w W → CellsIn W.heap.size W A (srcCells ls) from fun W hW => (hr.below hW).more hW.size)
  have HSe := Lib.hid (show ∀ W, Below w.heap.size w W → Calls Tryd.prog 5 #[.slice A ls.length c] W fun e w' => e = .returned (.int .i64 (sourcesE ls)) ∧ Below W.heap.size W w' from fun W hW => refSourcesErr_any W.heap.size ls A c W ((hr.below hW).more hW.size).srcs (Nat.le_refl _) h64)
  have HPe := Lib.hid (fun W => refPhasorErr_any p q W)
  have hle : loadE ls p q = 0 := by unfold loadE; rw [if_pos h0]; exact h1
  obtain ⟨hok, hp, hq⟩ := loadE_ok hle
  have HCu := Lib.hid (fun W A1 c1 (h : CellsIn W.heap.size W A1 (srcCells ls)) => cur_result (c := c1) h.srcs (Nat.le_refl _) h64 hle)
  have HCp := Lib.hid (show ∀ W, Below w.heap.size w W → Calls Tryd.prog 8 #[.slice A ls.length c] W (CellsRet W ls.length (srcCells ls)) from fun W hW => copySources_any W.heap.size A c ls W ((hr.below hW).more hW.size) (Nat.le_refl _) (Nat.le_trans hok.1.2 (by decide)))
  rw [h0] at HSe
  rw [h1] at HPe
  have HCs := Lib.hid (fun W A1 c1 (h : CellsIn W.heap.size W A1 (srcCells ls)) => (HCu.out W A1 c1 h).1 hs)
  have hlc := curCs_len ls p q
  have hcu64 : ∀ x ∈ curCs ls p q, Cu64 x := fun x hx => by
    obtain ⟨s, hs', rfl⟩ := List.mem_map.1 hx
    exact cu64_ok (curC_ok hs hs')
  have HChk := Lib.hid (show ∀ W A1 c1 A2 c2 cs, CellsIn W.heap.size W A1 (srcCells ls) → CusIn W.heap.size W A2 cs → cs.length = ls.length → (∀ x ∈ cs, Cu64 x) → Calls Tryd.prog 9 #[.slice A1 ls.length c1, .agg #[.int .i64 p, .int .i64 q], .slice A2 ls.length c2] W fun e w' => e = .returned (.tuple #[.int .i64 (checkV ls p q cs).1, .int .i64 (checkV ls p q cs).2]) ∧ Below W.heap.size W w' from fun W A1 c1 A2 c2 cs h1 h2 h3 h4 => by
    have z := CheckCurrents_any W.heap.size ls A1 c1 cs A2 c2 p q W h1.srcs h2 (Nat.le_refl _) h64 h4
    rw [h3] at z
    exact z)
  have HSelf := Lib.hid (show checkV ls p q (curCs ls p q) = (0, 0) by rw [check_ok hle hlc]; exact check_self hok hs)
  have HCc := Lib.hid (show ∀ W A1 c1, CellsIn W.heap.size W A1 (cuCells (curCs ls p q)) → Calls Tryd.prog 10 #[.slice A1 ls.length c1] W fun e w' => ∃ (A2 : Option Addr) (c2 : Nat), e = .returned (.slice A2 ls.length c2) ∧ w'.ownsRow W.heap.size 44 4 (.slice A2 ls.length c2) ls.length (cuCells (curCs ls p q)) ∧ Below W.heap.size W w' from fun W A1 c1 h => by
    have z := copyCurrents_own W.heap.size A1 c1 (curCs ls p q) W h (Nat.le_refl _) (by rw [hlc]; exact Nat.le_trans hok.1.2 (by decide))
    rw [hlc] at z
    exact z)
  have HOk := Lib.hid hok
  have HSm := Lib.hid hs
  have HLe := Lib.hid hle
  have HCu64 := Lib.hid hcu64
  have HLc := Lib.hid hlc
  have HBy := Lib.hid hby
  have HPQ := Lib.hid (And.intro hp hq)
  have HL := Lib.hid hok.1
  have H64 := Lib.hid h64
  clear hr h64 hby hT hP h0 h1 hs hle hok hp hq HCu hlc hcu64
  go_enter Tryd.func3, Tryd.ntmps3
  go_wp2_with (first
    | (go_at_call 4; (with_reducible refine (HAw.out _ (pa (pa pr))).mono ?_); rintro e w1 ⟨rfl, hb1⟩; have ST1 := Lib.hid (show ShSt w A ls.length c p q b0 b1 b2 w1 from ⟨((Blk.newAt (w := w) (t := 26) (cs := #[.slice A ls.length c, .int .i64 p, .int .i64 q]) rfl).alloc (o := .cells #[.int .i64 b0, .int .i64 b1, .int .i64 b2] 27)).past hb1, (Blk.newAt (w := w.alloc (.cells #[.slice A ls.length c, .int .i64 p, .int .i64 q] 26)) (t := 27) (cs := #[.int .i64 b0, .int .i64 b1, .int .i64 b2]) (n := w.heap.size + 1) (by simp)).past hb1, pt (pa (pa (pr (w := w)))) hb1⟩); have x0 := ST1.out.bx.cellAt 0 rfl; have xl := ST1.out.bx.lt; clear hb1)
    | (go_at_call 5; (with_reducible refine (HSe.out _ ST1.out.bel).mono ?_); rintro e w2 ⟨rfl, hb2⟩; have ST2 := Lib.hid (ST1.out.past hb2); clear x0 xl; have x1 := ST2.out.bx.cellAt 1 rfl; have x2 := ST2.out.bx.cellAt 2 rfl; have xl := ST2.out.bx.lt; clear hb2)
    | (go_at_call 6; (with_reducible refine (HPe.out _).mono ?_); rintro e w3 ⟨rfl, hb3⟩; have ST3 := Lib.hid (ST2.out.past hb3); clear hb3 x1 x2 xl))
  have HSS := Lib.hid (show ∀ W, Below w3.heap.size w3 W → W.cell? ⟨w.heap.size, 0, none⟩ = some (.slice A ls.length c) ∧ W.cell? ⟨w.heap.size, 1, none⟩ = some (.int .i64 p) ∧ W.cell? ⟨w.heap.size, 2, none⟩ = some (.int .i64 q) ∧ W.cell? ⟨w.heap.size + 1, 1, none⟩ = some (.int .i64 b1) from fun W hW => ⟨(ST3.out.bx.past hW).cellAt 0 rfl, (ST3.out.bx.past hW).cellAt 1 rfl, (ST3.out.bx.past hW).cellAt 2 rfl, (ST3.out.by_.past hW).cellAt 1 rfl⟩)
  as_aux_lemma =>
  refine wp_region_G 10 follows_mixed (fun W => W.cell? ⟨w.heap.size, 0, none⟩ = some (.slice A ls.length c) ∧ W.cell? ⟨w.heap.size, 1, none⟩ = some (.int .i64 p) ∧ W.cell? ⟨w.heap.size, 2, none⟩ = some (.int .i64 q) ∧ W.cell? ⟨w.heap.size + 1, 1, none⟩ = some (.int .i64 b1)) (HSS.out _ (pd pr)) ?_
  intro hSd inv
  have HSd := Lib.hid hSd
  clear hSd
  have HB0 := Lib.hid (show Below w3.heap.size w3 w3.drew from pd pr)
  refine wpAnyG_take (i := 0) (v := ?_) rfl (by kernel_rfl) (by kernel_rfl) (by kernel_rfl) (by kernel_rfl) (by kernel_rfl) (by decide) (by decide) inv (fun _ _ _ h => h) (Or.inl ⟨by rfl, ?_⟩) HSd.out ?_; rotate_left; (focus (intro W y1; obtain ⟨y1, y2, y3, y4⟩ := y1; go_simp; (first | done | with_reducible rfl))); clear inv; intro inv; simp only [List.getElem_toArray, List.getElem_cons_zero, Act.put, List.setIfInBounds_toArray, List.set_cons_zero, List.set_cons_succ]
  refine wpAnyG_take (i := 1) (v := ?_) rfl (by kernel_rfl) (by kernel_rfl) (by kernel_rfl) (by kernel_rfl) (by kernel_rfl) (by decide) (by decide) inv (fun _ _ _ h => h) (Or.inl ⟨by rfl, ?_⟩) HSd.out ?_; rotate_left; (focus (intro W y1; obtain ⟨y1, y2, y3, y4⟩ := y1; go_simp; (first | done | with_reducible rfl))); clear inv; intro inv; simp only [List.getElem_toArray, List.getElem_cons_zero, List.getElem_cons_succ, Act.put, List.setIfInBounds_toArray, List.set_cons_zero, List.set_cons_succ]
  refine wpAnyG_take (i := 3) (v := ?_) rfl (by kernel_rfl) (by kernel_rfl) (by kernel_rfl) (by kernel_rfl) (by kernel_rfl) (by decide) (by decide) inv (fun _ _ _ h => h) (Or.inl ⟨by rfl, ?_⟩) HSd.out ?_; rotate_left; (focus (intro W y1; obtain ⟨y1, y2, y3, y4⟩ := y1; go_simp; (first | done | with_reducible rfl))); clear inv; intro inv; simp only [List.getElem_toArray, List.getElem_cons_zero, List.getElem_cons_succ, Act.put, List.setIfInBounds_toArray, List.set_cons_zero, List.set_cons_succ]
  refine wpAnyG_take (i := 4) (v := ?_) rfl (by kernel_rfl) (by kernel_rfl) (by kernel_rfl) (by kernel_rfl) (by kernel_rfl) (by decide) (by decide) inv (fun _ _ _ h => h) (Or.inl ⟨by rfl, ?_⟩) HSd.out ?_; rotate_left; (focus (intro W y1; obtain ⟨y1, y2, y3, y4⟩ := y1; go_simp; (first | done | with_reducible rfl))); clear inv; intro inv; simp only [List.getElem_toArray, List.getElem_cons_zero, List.getElem_cons_succ, Act.put, List.setIfInBounds_toArray, List.set_cons_zero, List.set_cons_succ]
  have HInv := Lib.hid inv
  clear inv
  as_aux_lemma =>
  refine wpAnyG_one (i := 2) (by kernel_rfl) rfl rfl fun K hK => ?_
  go_simp
  refine (HCp.out _ (pt ST3.out.bel HB0.out)).mono ?_
  rintro e w4 ⟨A4, c4, rfl, hc4, hl4, hb⟩
  have HB2_ := Lib.hid (show Below w3.heap.size w3 w4 from pt HB0.out hb)
  have HC4 := Lib.hid hc4
  clear hc4
  refine hK.out _ _ (fun _ => HSS.out _ HB2_.out) ?_
  clear hK K hb
  replace HInv := Lib.hid (inv_one (i := 2) HInv.out (by kernel_rfl) (by decide))
  as_aux_lemma =>
  refine wpAnyG_one (i := 5) (by kernel_rfl) rfl rfl fun K hK => ?_
  go_simp
  refine (HCs.out _ A4 c4 HC4.out).mono ?_
  rintro e w5 ⟨A5, c5, rfl, hc5, hl5, hb⟩
  have HB5_ := Lib.hid (show Below w3.heap.size w3 w5 from pt HB2_.out hb)
  have HC5 := Lib.hid hc5
  clear hc5 hl5
  refine hK.out _ _ (fun _ => HSS.out _ HB5_.out) ?_
  clear hK K hb
  replace HInv := Lib.hid (inv_one (i := 5) HInv.out (by kernel_rfl) (by decide))
  as_aux_lemma =>
  refine wpAnyG_one (i := 6) (by kernel_rfl) rfl rfl fun K hK => ?_
  go_simp
  refine hK.out _ _ (fun _ => HSS.out _ HB5_.out) ?_
  clear hK K
  replace HInv := Lib.hid (inv_one (i := 6) HInv.out (by kernel_rfl) (by decide))
  have inv := HInv.out
  clear HInv
  replace HSd := Lib.hid (HSS.out _ HB5_.out)
  refine wpAnyG_take (i := 7) (v := ?_) rfl (by kernel_rfl) (by kernel_rfl) (by kernel_rfl) (by kernel_rfl) (by kernel_rfl) (by decide) (by decide) inv (fun _ _ _ h => h) (Or.inl ⟨by rfl, ?_⟩) HSd.out ?_; rotate_left; (focus (intro W y1; obtain ⟨y1, y2, y3, y4⟩ := y1; go_simp; (first | done | with_reducible rfl))); clear inv; intro inv; simp only [List.getElem_toArray, List.getElem_cons_zero, List.getElem_cons_succ, Act.put, List.setIfInBounds_toArray, List.set_cons_zero, List.set_cons_succ]
  refine wpAnyG_take (i := 8) (v := ?_) rfl (by kernel_rfl) (by kernel_rfl) (by kernel_rfl) (by kernel_rfl) (by kernel_rfl) (by decide) (by decide) inv (fun _ _ _ h => h) (Or.inl ⟨by rfl, ?_⟩) HSd.out ?_; rotate_left; (focus (intro W y1; obtain ⟨y1, y2, y3, y4⟩ := y1; go_simp; (first | done | with_reducible rfl))); clear inv; intro inv; simp only [List.getElem_toArray, List.getElem_cons_zero, List.getElem_cons_succ, Act.put, List.setIfInBounds_toArray, List.set_cons_zero, List.set_cons_succ]
  have HInv := Lib.hid inv
  clear inv
  as_aux_lemma =>
  refine wpAnyG_one (i := 9) (by kernel_rfl) rfl rfl fun K hK => ?_
  go_simp
  refine hK.out _ _ (fun _ => HSS.out _ HB5_.out) ?_
  clear hK K
  replace HInv := Lib.hid (inv_one (i := 9) HInv.out (by kernel_rfl) (by decide))
  as_aux_lemma =>
  refine wpAnyG_one (i := 10) (by kernel_rfl) rfl rfl fun K hK => ?_
  go_simp
  refine hK.out _ _ (fun h => absurd h (by decide)) ?_
  clear hK K
  clear HInv
  refine wpAnyG_done (by kernel_rfl) ?_
  clear HSS HSd HB0
  have ST5 := Lib.hid (ST3.out.past HB5_.out)
  have x0 := ST5.out.bx.cellAt 0 rfl
  have xl := ST5.out.bx.lt
  clear HC4 hl4 ST1 ST2 ST3 HB2_ HB5_ HAw HSe HPe HCs
  as_aux_lemma =>
  go_wp2
  clear x0 xl
  have HSS := Lib.hid (show ∀ W, Below w5.heap.size w5 W → W.cell? ⟨w.heap.size, 0, none⟩ = some (.slice A ls.length c) ∧ W.cell? ⟨w.heap.size, 1, none⟩ = some (.int .i64 p) ∧ W.cell? ⟨w.heap.size, 2, none⟩ = some (.int .i64 q) ∧ W.cell? ⟨w.heap.size + 1, 1, none⟩ = some (.int .i64 b1) from fun W hW => ⟨(ST5.out.bx.past hW).cellAt 0 rfl, (ST5.out.bx.past hW).cellAt 1 rfl, (ST5.out.bx.past hW).cellAt 2 rfl, (ST5.out.by_.past hW).cellAt 1 rfl⟩)
  as_aux_lemma =>
  refine wp_region_G 12 follows_mixed (fun W => W.cell? ⟨w.heap.size, 0, none⟩ = some (.slice A ls.length c) ∧ W.cell? ⟨w.heap.size, 1, none⟩ = some (.int .i64 p) ∧ W.cell? ⟨w.heap.size, 2, none⟩ = some (.int .i64 q) ∧ W.cell? ⟨w.heap.size + 1, 1, none⟩ = some (.int .i64 b1)) (HSS.out _ (pd pr)) ?_
  intro hSd inv
  have HSd := Lib.hid hSd
  clear hSd
  have HB0 := Lib.hid (show Below w5.heap.size w5 w5.drew from pd pr)
  refine wpAnyG_take (i := 0) (v := ?_) rfl (by kernel_rfl) (by kernel_rfl) (by kernel_rfl) (by kernel_rfl) (by kernel_rfl) (by decide) (by decide) inv (fun _ _ _ h => h) (Or.inl ⟨by rfl, ?_⟩) HSd.out ?_; rotate_left; (focus (intro W y1; obtain ⟨y1, y2, y3, y4⟩ := y1; go_simp; (first | done | with_reducible rfl))); clear inv; intro inv; simp only [List.getElem_toArray, List.getElem_cons_zero, Act.put, List.setIfInBounds_toArray, List.set_cons_zero, List.set_cons_succ]
  refine wpAnyG_take (i := 1) (v := ?_) rfl (by kernel_rfl) (by kernel_rfl) (by kernel_rfl) (by kernel_rfl) (by kernel_rfl) (by decide) (by decide) inv (fun _ _ _ h => h) (Or.inl ⟨by rfl, ?_⟩) HSd.out ?_; rotate_left; (focus (intro W y1; obtain ⟨y1, y2, y3, y4⟩ := y1; go_simp; (first | done | with_reducible rfl))); clear inv; intro inv; simp only [List.getElem_toArray, List.getElem_cons_zero, List.getElem_cons_succ, Act.put, List.setIfInBounds_toArray, List.set_cons_zero, List.set_cons_succ]
  refine wpAnyG_take (i := 3) (v := ?_) rfl (by kernel_rfl) (by kernel_rfl) (by kernel_rfl) (by kernel_rfl) (by kernel_rfl) (by decide) (by decide) inv (fun _ _ _ h => h) (Or.inl ⟨by rfl, ?_⟩) HSd.out ?_; rotate_left; (focus (intro W y1; obtain ⟨y1, y2, y3, y4⟩ := y1; go_simp; (first | done | with_reducible rfl))); clear inv; intro inv; simp only [List.getElem_toArray, List.getElem_cons_zero, List.getElem_cons_succ, Act.put, List.setIfInBounds_toArray, List.set_cons_zero, List.set_cons_succ]
  refine wpAnyG_take (i := 4) (v := ?_) rfl (by kernel_rfl) (by kernel_rfl) (by kernel_rfl) (by kernel_rfl) (by kernel_rfl) (by decide) (by decide) inv (fun _ _ _ h => h) (Or.inl ⟨by rfl, ?_⟩) HSd.out ?_; rotate_left; (focus (intro W y1; obtain ⟨y1, y2, y3, y4⟩ := y1; go_simp; (first | done | with_reducible rfl))); clear inv; intro inv; simp only [List.getElem_toArray, List.getElem_cons_zero, List.getElem_cons_succ, Act.put, List.setIfInBounds_toArray, List.set_cons_zero, List.set_cons_succ]
  refine wpAnyG_take (i := 5) (v := ?_) rfl (by kernel_rfl) (by kernel_rfl) (by kernel_rfl) (by kernel_rfl) (by kernel_rfl) (by decide) (by decide) inv (fun _ _ _ h => h) (Or.inl ⟨by rfl, ?_⟩) HSd.out ?_; rotate_left; (focus (intro W y1; obtain ⟨y1, y2, y3, y4⟩ := y1; go_simp; (first | done | with_reducible rfl))); clear inv; intro inv; simp only [List.getElem_toArray, List.getElem_cons_zero, List.getElem_cons_succ, Act.put, List.setIfInBounds_toArray, List.set_cons_zero, List.set_cons_succ]
  have HInv := Lib.hid inv
  clear inv
  as_aux_lemma =>
  refine wpAnyG_one (i := 2) (by kernel_rfl) rfl rfl fun K hK => ?_
  go_simp
  refine (HCp.out _ (pt ST5.out.bel HB0.out)).mono ?_
  rintro e w6 ⟨A6, c6, rfl, hc6, hl6, hb⟩
  have HB2_ := Lib.hid (show Below w5.heap.size w5 w6 from pt HB0.out hb)
  have HC6 := Lib.hid hc6
  clear hc6
  refine hK.out _ _ (fun _ => HSS.out _ HB2_.out) ?_
  clear hK K hb
  replace HInv := Lib.hid (inv_one (i := 2) HInv.out (by kernel_rfl) (by decide))
  as_aux_lemma =>
  refine wpAnyG_one (i := 6) (by kernel_rfl) rfl rfl fun K hK => ?_
  go_simp
  refine (HCc.out _ A5 c5 ((HC5.out.below HB2_.out).more HB2_.out.size)).mono ?_
  rintro e w7 ⟨A7, c7, rfl, ho7, hb⟩
  have HB6_ := Lib.hid (show Below w5.heap.size w5 w7 from pt HB2_.out hb)
  have HO7 := Lib.hid (show CusIn w7.heap.size w7 A7 (curCs ls p q) from (cellsIn_of_own ho7).cus)
  have HC7 := Lib.hid ((HC6.out.below hb).more hb.size)
  clear ho7
  refine hK.out _ _ (fun _ => HSS.out _ HB6_.out) ?_
  clear hK K hb
  replace HInv := Lib.hid (inv_one (i := 6) HInv.out (by kernel_rfl) (by decide))
  as_aux_lemma =>
  refine wpAnyG_one (i := 7) (by kernel_rfl) rfl rfl fun K hK => ?_
  go_simp
  refine (HChk.out w7 A6 c6 A7 c7 (curCs ls p q) HC7.out HO7.out HLc.out HCu64.out).mono ?_
  rintro e w8 ⟨rfl, hb⟩
  have HB7_ := Lib.hid (show Below w5.heap.size w5 w8 from pt HB6_.out hb)
  rw [HSelf.out]
  refine hK.out _ _ (fun _ => HSS.out _ HB7_.out) ?_
  clear hK K hb
  replace HInv := Lib.hid (inv_one (i := 7) HInv.out (by kernel_rfl) (by decide))
  as_aux_lemma =>
  refine wpAnyG_one (i := 8) (by kernel_rfl) rfl rfl fun K hK => ?_
  go_simp
  refine hK.out _ _ (fun _ => HSS.out _ HB7_.out) ?_
  clear hK K
  replace HInv := Lib.hid (inv_one (i := 8) HInv.out (by kernel_rfl) (by decide))
  have inv := HInv.out
  clear HInv
  replace HSd := Lib.hid (HSS.out _ HB7_.out)
  refine wpAnyG_take (i := 9) (v := ?_) rfl (by kernel_rfl) (by kernel_rfl) (by kernel_rfl) (by kernel_rfl) (by kernel_rfl) (by decide) (by decide) inv (fun _ _ _ h => h) (Or.inl ⟨by rfl, ?_⟩) HSd.out ?_; rotate_left; (focus (intro W y1; obtain ⟨y1, y2, y3, y4⟩ := y1; go_simp; (first | done | with_reducible rfl))); clear inv; intro inv; simp only [List.getElem_toArray, List.getElem_cons_zero, List.getElem_cons_succ, Act.put, List.setIfInBounds_toArray, List.set_cons_zero, List.set_cons_succ]
  refine wpAnyG_take (i := 10) (v := ?_) rfl (by kernel_rfl) (by kernel_rfl) (by kernel_rfl) (by kernel_rfl) (by kernel_rfl) (by decide) (by decide) inv (fun _ _ _ h => h) (Or.inl ⟨by rfl, ?_⟩) HSd.out ?_; rotate_left; (focus (intro W y1; obtain ⟨y1, y2, y3, y4⟩ := y1; go_simp; (first | done | with_reducible rfl))); clear inv; intro inv; simp only [List.getElem_toArray, List.getElem_cons_zero, List.getElem_cons_succ, Act.put, List.setIfInBounds_toArray, List.set_cons_zero, List.set_cons_succ]
  have HInv := Lib.hid inv
  clear inv
  as_aux_lemma =>
  refine wpAnyG_one (i := 11) (by kernel_rfl) rfl rfl fun K hK => ?_
  go_simp
  refine hK.out _ _ (fun _ => HSS.out _ HB7_.out) ?_
  clear hK K
  replace HInv := Lib.hid (inv_one (i := 11) HInv.out (by kernel_rfl) (by decide))
  as_aux_lemma =>
  refine wpAnyG_one (i := 12) (by kernel_rfl) rfl rfl fun K hK => ?_
  go_simp
  refine hK.out _ _ (fun h => absurd h (by decide)) ?_
  clear hK K
  clear HInv
  refine wpAnyG_done (by kernel_rfl) ?_
  clear HSS HSd HB0
  have ST8 := Lib.hid (ST5.out.past HB7_.out)
  have HV := Lib.hid (show ∀ W, Below w8.heap.size w8 W → SrcsIn W.heap.size W A ls ∧ CusIn W.heap.size W A5 (curCs ls p q) ∧ ShSt w A ls.length c p q b0 b1 b2 W from fun W hW => ⟨(HXc.out _ (pt ST8.out.bel hW)).srcs, ((HC5.out.below (pt HB7_.out hW)).more (pt HB7_.out hW).size).cus, ST8.out.past hW⟩)
  have HC5 := Lib.hid (show ∀ W, Below w8.heap.size w8 W → CellsIn W.heap.size W A5 (cuCells (curCs ls p q)) from fun W hW => (HC5.out.below (pt HB7_.out hW)).more (pt HB7_.out hW).size)
  clear HC6 hl6 HC7 HO7 ST5 ST8 HB2_ HB6_ HB7_ HSelf
  as_aux_lemma =>
  go_wp2
  obtain ⟨v, rfl⟩ : ∃ v, v = w8 := ⟨_, rfl⟩
  go_loopw [9, 10] (fun sv iv wr => ∃ i : Nat, sv = .bool (sameB ls i) ∧ iv = .int .i64 (i : Int) ∧ i ≤ ls.length ∧ Below v.heap.size v wr) (fun _ iv _ => ls.length - (intOf iv).toNat)
  case atStart => exact ⟨0, rfl, rfl, Nat.zero_le _, pr⟩
  case round =>
    obtain ⟨i, rfl, rfl, hi, hq⟩ := hrel
    have HQ := Lib.hid hq
    have i0 := src_cast i
    clear hq
    by_cases hlt : i < ls.length
    · as_aux_lemma =>
      have i1 := src_lt hlt
      have i9 : (i : Int) ≤ 4 := by have := HL.out; omega
      have HI := Lib.hid hlt
      have hn0 := HL.out.1
      have hn1 : (0 : Int) < (ls.length : Int) := src_lt hn0
      obtain ⟨hs1, hc1_, hst⟩ := HV.out _ HQ.out
      obtain ⟨b, off, hA, hb, hct⟩ := hs1.at_ hlt
      subst hA
      obtain ⟨u0, u1, u2, u3⟩ := hct i hlt
      obtain ⟨z0, z1, z2, z3⟩ := hct 0 hn0
      rw [Nat.zero_mul, Nat.add_zero] at z0 z1 z2 z3
      have x0 := hst.bx.cellAt 0 rfl
      have xl := hst.bx.lt
      clear hct hs1 hc1_ hst
      have HSB := Lib.hid (show sameB ls (i + 1) = (sameB ls i && (decide ((ls.getD i default).p = (ls.getD 0 default).p) && decide ((ls.getD i default).q = (ls.getD 0 default).q))) from rfl)
      generalize ls.getD i default = s at *
      generalize ls.getD 0 default = t at *
      obtain ⟨sp, sq, sn, sd⟩ := s
      obtain ⟨tp, tq, tn, td⟩ := t
      dsimp only at u0 u1 u2 u3 z0 z1 z2 z3 HSB
      generalize sameB ls i = bs at *
      clear u2 u3 z2 z3
      as_aux_lemma =>
      go_wp2
      go_cut [9] (fun sv wx => sv = .bool (sameB ls (i + 1)) ∧ Below v.heap.size v wx)
      case first =>
        clear HXc HCp HChk HCc HOk HSm HLe HCu64 HLc HBy HPQ HL H64 HV HC5
        cases bs with
        | false =>
          as_aux_lemma =>
          refine region_below 15 follows_mixed (by kernel_rfl) ?_
          intro C hC
          simp only [List.take_succ_cons, List.take_zero, List.drop_succ_cons, List.drop_zero]
          repeat (first
            | ((with_reducible refine quiet_plain rfl (fun K hK => ?_)); (focus (apply quiet_val; (focus (intro w' hw; obtain ⟨hcq, hfq⟩ := bcell ((hC.out _).1 hw); go_simp; (first | done | rfl))); (simp only [Act.put, List.setIfInBounds_toArray, List.set_cons_succ, List.set_cons_zero]); (with_reducible refine hK _ ?_); clear hK K)))
            | ((with_reducible refine quiet_skip ?_ ?_); (focus (first | (simp [Region.wanted, yielded]; done) | (simp [Region.wanted, yielded, undef]; done))); simp only [Act.put, List.setIfInBounds_toArray, List.set_cons_succ, List.set_cons_zero])
            | ((with_reducible refine quiet_go ?_ (fun K hK => ?_)); (focus (first | (simp [Region.wanted, yielded]; done) | (simp [Region.wanted, yielded, undef]; done))); (focus (apply quiet_val; (focus (intro w' hw; obtain ⟨hcq, hfq⟩ := bcell ((hC.out _).1 hw); go_simp; (first | done | rfl))); (simp only [Act.put, List.setIfInBounds_toArray, List.set_cons_succ, List.set_cons_zero]); (with_reducible refine hK _ ?_); clear hK K))))
          refine wpQuiet_nil ?_
          intro w1 hb1
          replace hb1 := (hC.out _).1 hb1
          clear hC C
          obtain ⟨hc1, hf1⟩ := bcell hb1
          have HQ1 := Lib.hid (pt HQ.out hb1)
          clear hb1 hc1 hf1
          as_aux_lemma =>
          go_wp2
          go_meet
          case rel => exact ⟨by rw [HSB.out]; rfl, HQ1.out⟩
        | true =>
          by_cases h1 : sp = tp
          · subst h1
            by_cases h2 : sq = tq
            · subst h2
              as_aux_lemma =>
              refine region_below 15 follows_mixed (by kernel_rfl) ?_
              intro C hC
              simp only [List.take_succ_cons, List.take_zero, List.drop_succ_cons, List.drop_zero]
              repeat (first
                | ((with_reducible refine quiet_plain rfl (fun K hK => ?_)); (focus (apply quiet_val; (focus (intro w' hw; obtain ⟨hcq, hfq⟩ := bcell ((hC.out _).1 hw); go_simp; (first | done | rfl))); (simp only [Act.put, List.setIfInBounds_toArray, List.set_cons_succ, List.set_cons_zero]); (with_reducible refine hK _ ?_); clear hK K)))
                | ((with_reducible refine quiet_skip ?_ ?_); (focus (first | (simp [Region.wanted, yielded]; done) | (simp [Region.wanted, yielded, undef]; done))); simp only [Act.put, List.setIfInBounds_toArray, List.set_cons_succ, List.set_cons_zero])
                | ((with_reducible refine quiet_go ?_ (fun K hK => ?_)); (focus (first | (simp [Region.wanted, yielded]; done) | (simp [Region.wanted, yielded, undef]; done))); (focus (apply quiet_val; (focus (intro w' hw; obtain ⟨hcq, hfq⟩ := bcell ((hC.out _).1 hw); go_simp; (first | done | rfl))); (simp only [Act.put, List.setIfInBounds_toArray, List.set_cons_succ, List.set_cons_zero]); (with_reducible refine hK _ ?_); clear hK K))))
              refine wpQuiet_nil ?_
              intro w1 hb1
              replace hb1 := (hC.out _).1 hb1
              clear hC C
              obtain ⟨hc1, hf1⟩ := bcell hb1
              have HQ1 := Lib.hid (pt HQ.out hb1)
              clear hb1 hc1 hf1
              as_aux_lemma =>
              go_wp2
              go_meet
              case rel => exact ⟨by rw [HSB.out]; simp, HQ1.out⟩
            · skip
              as_aux_lemma =>
              refine region_below 15 follows_mixed (by kernel_rfl) ?_
              intro C hC
              simp only [List.take_succ_cons, List.take_zero, List.drop_succ_cons, List.drop_zero]
              repeat (first
                | ((with_reducible refine quiet_plain rfl (fun K hK => ?_)); (focus (apply quiet_val; (focus (intro w' hw; obtain ⟨hcq, hfq⟩ := bcell ((hC.out _).1 hw); go_simp; (first | done | rfl))); (simp only [Act.put, List.setIfInBounds_toArray, List.set_cons_succ, List.set_cons_zero]); (with_reducible refine hK _ ?_); clear hK K)))
                | ((with_reducible refine quiet_skip ?_ ?_); (focus (first | (simp [Region.wanted, yielded]; done) | (simp [Region.wanted, yielded, undef]; done))); simp only [Act.put, List.setIfInBounds_toArray, List.set_cons_succ, List.set_cons_zero])
                | ((with_reducible refine quiet_go ?_ (fun K hK => ?_)); (focus (first | (simp [Region.wanted, yielded]; done) | (simp [Region.wanted, yielded, undef]; done))); (focus (apply quiet_val; (focus (intro w' hw; obtain ⟨hcq, hfq⟩ := bcell ((hC.out _).1 hw); go_simp; (first | done | rfl))); (simp only [Act.put, List.setIfInBounds_toArray, List.set_cons_succ, List.set_cons_zero]); (with_reducible refine hK _ ?_); clear hK K))))
              refine wpQuiet_nil ?_
              intro w1 hb1
              replace hb1 := (hC.out _).1 hb1
              clear hC C
              obtain ⟨hc1, hf1⟩ := bcell hb1
              have HQ1 := Lib.hid (pt HQ.out hb1)
              clear hb1 hc1 hf1
              as_aux_lemma =>
              go_wp2
              go_meet
              case rel => exact ⟨by rw [HSB.out, decide_eq_false h2]; simp, HQ1.out⟩
          · skip
            as_aux_lemma =>
            refine region_below 15 follows_mixed (by kernel_rfl) ?_
            intro C hC
            simp only [List.take_succ_cons, List.take_zero, List.drop_succ_cons, List.drop_zero]
            repeat (first
              | ((with_reducible refine quiet_plain rfl (fun K hK => ?_)); (focus (apply quiet_val; (focus (intro w' hw; obtain ⟨hcq, hfq⟩ := bcell ((hC.out _).1 hw); go_simp; (first | done | rfl))); (simp only [Act.put, List.setIfInBounds_toArray, List.set_cons_succ, List.set_cons_zero]); (with_reducible refine hK _ ?_); clear hK K)))
              | ((with_reducible refine quiet_skip ?_ ?_); (focus (first | (simp [Region.wanted, yielded]; done) | (simp [Region.wanted, yielded, undef]; done))); simp only [Act.put, List.setIfInBounds_toArray, List.set_cons_succ, List.set_cons_zero])
              | ((with_reducible refine quiet_go ?_ (fun K hK => ?_)); (focus (first | (simp [Region.wanted, yielded]; done) | (simp [Region.wanted, yielded, undef]; done))); (focus (apply quiet_val; (focus (intro w' hw; obtain ⟨hcq, hfq⟩ := bcell ((hC.out _).1 hw); go_simp; (first | done | rfl))); (simp only [Act.put, List.setIfInBounds_toArray, List.set_cons_succ, List.set_cons_zero]); (with_reducible refine hK _ ?_); clear hK K))))
            refine wpQuiet_nil ?_
            intro w1 hb1
            replace hb1 := (hC.out _).1 hb1
            clear hC C
            obtain ⟨hc1, hf1⟩ := bcell hb1
            have HQ1 := Lib.hid (pt HQ.out hb1)
            clear hb1 hc1 hf1
            as_aux_lemma =>
            go_wp2
            go_meet
            case rel => exact ⟨by rw [HSB.out, decide_eq_false h1]; rfl, HQ1.out⟩
      case rest =>
        obtain ⟨rfl, hqc⟩ := hcut
        obtain ⟨wo, rfl⟩ : ∃ v, v = wc := ⟨_, rfl⟩
        have HQ := Lib.hid hqc
        clear hqc u0 u1 z0 z1 x0 xl HSB hb
        as_aux_lemma =>
        go_wp2
        go_loopw [11] (fun kv wr => ∃ k : Nat, kv = .int .i64 (k : Int) ∧ k ≤ i ∧ Below v.heap.size v wr) (fun kv _ => i - (intOf kv).toNat)
        case atStart => exact ⟨0, rfl, Nat.zero_le _, HQ.out⟩
        case round =>
          clear HQ wo
          obtain ⟨k, rfl, hk, hq⟩ := hrel
          have HQ := Lib.hid hq
          have k0 := src_cast k
          clear hq
          by_cases hkt : k < i
          · as_aux_lemma =>
            have k1 := src_lt hkt
            have HK := Lib.hid hkt
            have hkn : k < ls.length := Nat.lt_trans hkt HI.out
            have hkn1 : (k : Int) < (ls.length : Int) := src_lt hkn
            have hin := HI.out
            obtain ⟨hs1, hc1_, hst⟩ := HV.out _ HQ.out
            obtain ⟨b_, off_, hA, hb, hct⟩ := hs1.at_ HI.out
            injection hA with hA
            injection hA with hA1 hA2
            subst hA1 hA2
            obtain ⟨u0, u1, u2, u3⟩ := hct i HI.out
            obtain ⟨z0, z1, z2, z3⟩ := hct k hkn
            obtain ⟨g, og, hG, hg, hcg⟩ := hc1_.at_ (k := i) (by rw [HLc.out]; exact HI.out)
            subst hG
            obtain ⟨m0, m1, m2, m3⟩ := hcg i (by rw [HLc.out]; exact HI.out)
            obtain ⟨n0, n1, n2, n3⟩ := hcg k (by rw [HLc.out]; exact hkn)
            rw [curCs_at HI.out] at m0 m1 m2 m3
            rw [curCs_at hkn] at n0 n1 n2 n3
            have x0 := hst.bx.cellAt 0 rfl
            have xl := hst.bx.lt
            clear hct hs1 hc1_ hst hcg HXc HCp HChk HCc HOk HSm HLe HCu64 HLc HBy HPQ HL H64 HV HC5
            by_cases hst : ls.getD i default = ls.getD k default
            · rw [hst] at u0 u1 u2 u3 m0 m1 m2 m3
              clear hst
              generalize curC ls p q (ls.getD k default) = cu at *
              generalize ls.getD k default = s at *
              obtain ⟨sp, sq, sn, sd⟩ := s
              obtain ⟨pn, pd, qn, qd⟩ := cu
              dsimp only at u0 u1 u2 u3 z0 z1 z2 z3 m0 m1 m2 m3 n0 n1 n2 n3
              as_aux_lemma =>
              go_wp2
              as_aux_lemma =>
              refine region_below 21 follows_mixed (by kernel_rfl) ?_
              intro C hC
              simp only [List.take_succ_cons, List.take_zero, List.drop_succ_cons, List.drop_zero]
              repeat (first
                | ((with_reducible refine quiet_plain rfl (fun K hK => ?_)); (focus (apply quiet_val; (focus (intro w' hw; obtain ⟨hcq, hfq⟩ := bcell ((hC.out _).1 hw); go_simp; (first | done | rfl))); (simp only [Act.put, List.setIfInBounds_toArray, List.set_cons_succ, List.set_cons_zero]); (with_reducible refine hK _ ?_); clear hK K)))
                | ((with_reducible refine quiet_skip ?_ ?_); (focus (first | (simp [Region.wanted, yielded]; done) | (simp [Region.wanted, yielded, undef]; done))); simp only [Act.put, List.setIfInBounds_toArray, List.set_cons_succ, List.set_cons_zero])
                | ((with_reducible refine quiet_go ?_ (fun K hK => ?_)); (focus (first | (simp [Region.wanted, yielded]; done) | (simp [Region.wanted, yielded, undef]; done))); (focus (apply quiet_val; (focus (intro w' hw; obtain ⟨hcq, hfq⟩ := bcell ((hC.out _).1 hw); go_simp; (first | done | rfl))); (simp only [Act.put, List.setIfInBounds_toArray, List.set_cons_succ, List.set_cons_zero]); (with_reducible refine hK _ ?_); clear hK K))))
              refine wpQuiet_nil ?_
              intro w1 hb1
              replace hb1 := (hC.out _).1 hb1
              clear hC C
              obtain ⟨hc1, hf1⟩ := bcell hb1
              have HQ1 := Lib.hid (pt HQ.out hb1)
              clear hb1 hc1 hf1 u0 u1 u2 u3 z0 z1 z2 z3 m0 m1 m2 m3 n0 n1 n2 n3 x0 xl
              as_aux_lemma =>
              go_wp2
              go_roundw
              case rel => exact ⟨k + 1, src_succ _, HK.out, HQ1.out⟩
              case measure => exact src_meas HK.out
            · have hpt := src_parts hst
              clear hst m0 m1 m2 m3 n0 n1 n2 n3
              generalize ls.getD k default = t at *
              generalize ls.getD i default = s at *
              obtain ⟨sp, sq, sn, sd⟩ := s
              obtain ⟨tp, tq, tn, td⟩ := t
              dsimp only at u0 u1 u2 u3 z0 z1 z2 z3 hpt
              rcases hpt with h | h | h | h
              all_goals
                as_aux_lemma =>
                go_wp2
                as_aux_lemma =>
                refine region_below 21 follows_mixed (by kernel_rfl) ?_
                intro C hC
                simp only [List.take_succ_cons, List.take_zero, List.drop_succ_cons, List.drop_zero]
                repeat (first
                  | ((with_reducible refine quiet_plain rfl (fun K hK => ?_)); (focus (apply quiet_val; (focus (intro w' hw; obtain ⟨hcq, hfq⟩ := bcell ((hC.out _).1 hw); go_simp; (first | done | rfl))); (simp only [Act.put, List.setIfInBounds_toArray, List.set_cons_succ, List.set_cons_zero]); (with_reducible refine hK _ ?_); clear hK K)))
                  | ((with_reducible refine quiet_skip ?_ ?_); (focus (first | (simp [Region.wanted, yielded]; done) | (simp [Region.wanted, yielded, undef]; done))); simp only [Act.put, List.setIfInBounds_toArray, List.set_cons_succ, List.set_cons_zero])
                  | ((with_reducible refine quiet_go ?_ (fun K hK => ?_)); (focus (first | (simp [Region.wanted, yielded]; done) | (simp [Region.wanted, yielded, undef]; done))); (focus (apply quiet_val; (focus (intro w' hw; obtain ⟨hcq, hfq⟩ := bcell ((hC.out _).1 hw); go_simp; (first | done | rfl))); (simp only [Act.put, List.setIfInBounds_toArray, List.set_cons_succ, List.set_cons_zero]); (with_reducible refine hK _ ?_); clear hK K))))
                refine wpQuiet_nil ?_
                intro w1 hb1
                replace hb1 := (hC.out _).1 hb1
                clear hC C
                obtain ⟨hc1, hf1⟩ := bcell hb1
                have HQ1 := Lib.hid (pt HQ.out hb1)
                clear hb1 hc1 hf1 u0 u1 u2 u3 z0 z1 z2 z3 x0 xl
                as_aux_lemma =>
                go_wp2
                go_roundw
                case rel => exact ⟨k + 1, src_succ _, HK.out, HQ1.out⟩
                case measure => exact src_meas HK.out
          · as_aux_lemma =>
            obtain rfl : k = i := Nat.le_antisymm hk (Nat.le_of_not_lt hkt)
            as_aux_lemma =>
            go_wp2
            go_roundw
            case rel => exact ⟨k + 1, rfl, src_succ _, HI.out, HQ.out⟩
            case measure => exact src_meas HI.out
    · obtain rfl : i = ls.length := Nat.le_antisymm hi (Nat.le_of_not_lt hlt)
      as_aux_lemma =>
      have x9 := HL.out.1
      clear hlt hi i0
      go_wp2_with (go_at_call 11; (with_reducible refine (whole_any _ _).mono ?_); (first | (rintro e wb ⟨rfl, hbb⟩; have HWb := Lib.hid (pt HWa.out hbb); clear hbb) | (rintro e wa ⟨rfl, hba⟩; have HWa := Lib.hid (pt HQ.out hba); clear hba)))
      have HNb := Lib.hid (Blk.new wb 44 #[.int .i64 0, .int .i64 1, .int .i64 0, .int .i64 1])
      have HQ2 := Lib.hid (show Below v.heap.size v (wb.alloc (.cells #[.int .i64 0, .int .i64 1, .int .i64 0, .int .i64 1] 44)) from HWb.out.alloc HWb.out.size _)
      generalize wb.alloc (.cells #[.int .i64 0, .int .i64 1, .int .i64 0, .int .i64 1] 44) = u at *
      generalize wb.heap.size = nb at *
      have HU := Lib.hid (show ∀ W, Below u.heap.size u W → SrcsIn W.heap.size W A ls ∧ CusIn W.heap.size W A5 (curCs ls p q) ∧ ShSt w A ls.length c p q b0 b1 b2 W ∧ Blk W nb 44 #[.int .i64 0, .int .i64 1, .int .i64 0, .int .i64 1] from fun W hW => ⟨(HV.out _ (pt HQ2.out hW)).1, (HV.out _ (pt HQ2.out hW)).2.1, (HV.out _ (pt HQ2.out hW)).2.2, HNb.out.past hW⟩)
      have HC5 := Lib.hid (show ∀ W, Below u.heap.size u W → CellsIn W.heap.size W A5 (cuCells (curCs ls p q)) from fun W hW => HC5.out _ (pt HQ2.out hW))
      have HUs := Lib.hid (show Below w.heap.size w u from (HU.out _ pr).2.2.1.bel)
      have HNo := Lib.hid (fun (h : sameB ls ls.length = true) i (hi : i < ls.length) => same_none HOk.out h hi)
      clear HQ HWa HWb HNb HV HQ2
      generalize sameB ls ls.length = bs at *
      as_aux_lemma =>
      go_loopw [13] (fun iv wr => ∃ i : Nat, iv = .int .i64 (i : Int) ∧ i ≤ ls.length ∧ Below u.heap.size u wr) (fun iv _ => ls.length - (intOf iv).toNat)
      case atStart => exact ⟨0, rfl, Nat.zero_le _, pr⟩
      case round =>
        obtain ⟨i, rfl, hi, hq⟩ := hrel
        have HQ := Lib.hid hq
        have i0 := src_cast i
        clear hq
        by_cases hlt : i < ls.length
        · as_aux_lemma =>
          have i1 := src_lt hlt
          have i9 : (i : Int) ≤ 4 := by have := HL.out; omega
          have HI := Lib.hid hlt
          have hin := hlt
          obtain ⟨_, hc1_, hst, hnb⟩ := HU.out _ HQ.out
          obtain ⟨g, og, hG, hg, hcg⟩ := hc1_.at_ (k := i) (by rw [HLc.out]; exact HI.out)
          subst hG
          obtain ⟨m0, m1, m2, m3⟩ := hcg i (by rw [HLc.out]; exact HI.out)
          rw [curCs_at HI.out] at m0 m1 m2 m3
          have n0 := hnb.cellAt 0 rfl
          have n1 := hnb.cellAt 1 rfl
          have n2 := hnb.cellAt 2 rfl
          have n3 := hnb.cellAt 3 rfl
          have nl := hnb.lt
          have x1 := hst.bx.cellAt 1 rfl
          have x2 := hst.bx.cellAt 2 rfl
          have xl := hst.bx.lt
          have HNi := Lib.hid (fun h => HNo.out h i HI.out)
          clear hc1_ hst hnb hcg HXc HCp HChk HCc HOk HSm HLe HCu64 HLc HBy HPQ HL H64 HU HC5 HNo
          cases bs with
          | false =>
            clear HNi
            generalize curC ls p q (ls.getD i default) = cu at *
            obtain ⟨pn, pd, qn, qd⟩ := cu
            dsimp only at m0 m1 m2 m3
            as_aux_lemma =>
            go_wp2
            as_aux_lemma =>
            refine region_below 14 follows_mixed (by kernel_rfl) ?_
            intro C hC
            simp only [List.take_succ_cons, List.take_zero, List.drop_succ_cons, List.drop_zero]
            repeat (first
              | ((with_reducible refine quiet_plain rfl (fun K hK => ?_)); (focus (apply quiet_val; (focus (intro w' hw; obtain ⟨hcq, hfq⟩ := bcell ((hC.out _).1 hw); go_simp; (first | done | rfl))); (simp only [Act.put, List.setIfInBounds_toArray, List.set_cons_succ, List.set_cons_zero]); (with_reducible refine hK _ ?_); clear hK K)))
              | ((with_reducible refine quiet_skip ?_ ?_); (focus (first | (simp [Region.wanted, yielded]; done) | (simp [Region.wanted, yielded, undef]; done))); simp only [Act.put, List.setIfInBounds_toArray, List.set_cons_succ, List.set_cons_zero])
              | ((with_reducible refine quiet_go ?_ (fun K hK => ?_)); (focus (first | (simp [Region.wanted, yielded]; done) | (simp [Region.wanted, yielded, undef]; done))); (focus (apply quiet_val; (focus (intro w' hw; obtain ⟨hcq, hfq⟩ := bcell ((hC.out _).1 hw); go_simp; (first | done | rfl))); (simp only [Act.put, List.setIfInBounds_toArray, List.set_cons_succ, List.set_cons_zero]); (with_reducible refine hK _ ?_); clear hK K))))
            refine wpQuiet_nil ?_
            intro w1 hb1
            replace hb1 := (hC.out _).1 hb1
            clear hC C
            obtain ⟨hc1, hf1⟩ := bcell hb1
            have HQ1 := Lib.hid (pt HQ.out hb1)
            clear hb1 hc1 hf1 m0 m1 m2 m3 n0 n1 n2 n3 nl x1 x2 xl
            as_aux_lemma =>
            go_wp2
            go_roundw
            case rel => exact ⟨i + 1, src_succ _, HI.out, HQ1.out⟩
            case measure => exact src_meas HI.out
          | true =>
            by_cases hp0 : p = 0
            · by_cases hq0 : q = 0
              · subst hp0 hq0
                have e := HNi.out rfl
                rw [e] at m0 m1 m2 m3
                dsimp only at m0 m1 m2 m3
                clear e HNi
                as_aux_lemma =>
                go_wp2
                as_aux_lemma =>
                refine region_below 14 follows_mixed (by kernel_rfl) ?_
                intro C hC
                simp only [List.take_succ_cons, List.take_zero, List.drop_succ_cons, List.drop_zero]
                repeat (first
                  | ((with_reducible refine quiet_plain rfl (fun K hK => ?_)); (focus (apply quiet_val; (focus (intro w' hw; obtain ⟨hcq, hfq⟩ := bcell ((hC.out _).1 hw); go_simp; (first | done | rfl))); (simp only [Act.put, List.setIfInBounds_toArray, List.set_cons_succ, List.set_cons_zero]); (with_reducible refine hK _ ?_); clear hK K)))
                  | ((with_reducible refine quiet_skip ?_ ?_); (focus (first | (simp [Region.wanted, yielded]; done) | (simp [Region.wanted, yielded, undef]; done))); simp only [Act.put, List.setIfInBounds_toArray, List.set_cons_succ, List.set_cons_zero])
                  | ((with_reducible refine quiet_go ?_ (fun K hK => ?_)); (focus (first | (simp [Region.wanted, yielded]; done) | (simp [Region.wanted, yielded, undef]; done))); (focus (apply quiet_val; (focus (intro w' hw; obtain ⟨hcq, hfq⟩ := bcell ((hC.out _).1 hw); go_simp; (first | done | rfl))); (simp only [Act.put, List.setIfInBounds_toArray, List.set_cons_succ, List.set_cons_zero]); (with_reducible refine hK _ ?_); clear hK K))))
                refine wpQuiet_nil ?_
                intro w1 hb1
                replace hb1 := (hC.out _).1 hb1
                clear hC C
                obtain ⟨hc1, hf1⟩ := bcell hb1
                have HQ1 := Lib.hid (pt HQ.out hb1)
                clear hb1 hc1 hf1 m0 m1 m2 m3 n0 n1 n2 n3 nl x1 x2 xl
                as_aux_lemma =>
                go_wp2
                go_roundw
                case rel => exact ⟨i + 1, src_succ _, HI.out, HQ1.out⟩
                case measure => exact src_meas HI.out
              · clear HNi
                generalize curC ls p q (ls.getD i default) = cu at *
                obtain ⟨pn, pd, qn, qd⟩ := cu
                dsimp only at m0 m1 m2 m3
                subst hp0
                as_aux_lemma =>
                go_wp2
                as_aux_lemma =>
                refine region_below 14 follows_mixed (by kernel_rfl) ?_
                intro C hC
                simp only [List.take_succ_cons, List.take_zero, List.drop_succ_cons, List.drop_zero]
                repeat (first
                  | ((with_reducible refine quiet_plain rfl (fun K hK => ?_)); (focus (apply quiet_val; (focus (intro w' hw; obtain ⟨hcq, hfq⟩ := bcell ((hC.out _).1 hw); go_simp; (first | done | rfl))); (simp only [Act.put, List.setIfInBounds_toArray, List.set_cons_succ, List.set_cons_zero]); (with_reducible refine hK _ ?_); clear hK K)))
                  | ((with_reducible refine quiet_skip ?_ ?_); (focus (first | (simp [Region.wanted, yielded]; done) | (simp [Region.wanted, yielded, undef]; done))); simp only [Act.put, List.setIfInBounds_toArray, List.set_cons_succ, List.set_cons_zero])
                  | ((with_reducible refine quiet_go ?_ (fun K hK => ?_)); (focus (first | (simp [Region.wanted, yielded]; done) | (simp [Region.wanted, yielded, undef]; done))); (focus (apply quiet_val; (focus (intro w' hw; obtain ⟨hcq, hfq⟩ := bcell ((hC.out _).1 hw); go_simp; (first | done | rfl))); (simp only [Act.put, List.setIfInBounds_toArray, List.set_cons_succ, List.set_cons_zero]); (with_reducible refine hK _ ?_); clear hK K))))
                refine wpQuiet_nil ?_
                intro w1 hb1
                replace hb1 := (hC.out _).1 hb1
                clear hC C
                obtain ⟨hc1, hf1⟩ := bcell hb1
                have HQ1 := Lib.hid (pt HQ.out hb1)
                clear hb1 hc1 hf1 m0 m1 m2 m3 n0 n1 n2 n3 nl x1 x2 xl
                as_aux_lemma =>
                go_wp2
                go_roundw
                case rel => exact ⟨i + 1, src_succ _, HI.out, HQ1.out⟩
                case measure => exact src_meas HI.out
            · clear HNi
              generalize curC ls p q (ls.getD i default) = cu at *
              obtain ⟨pn, pd, qn, qd⟩ := cu
              dsimp only at m0 m1 m2 m3
              as_aux_lemma =>
              go_wp2
              as_aux_lemma =>
              refine region_below 14 follows_mixed (by kernel_rfl) ?_
              intro C hC
              simp only [List.take_succ_cons, List.take_zero, List.drop_succ_cons, List.drop_zero]
              repeat (first
                | ((with_reducible refine quiet_plain rfl (fun K hK => ?_)); (focus (apply quiet_val; (focus (intro w' hw; obtain ⟨hcq, hfq⟩ := bcell ((hC.out _).1 hw); go_simp; (first | done | rfl))); (simp only [Act.put, List.setIfInBounds_toArray, List.set_cons_succ, List.set_cons_zero]); (with_reducible refine hK _ ?_); clear hK K)))
                | ((with_reducible refine quiet_skip ?_ ?_); (focus (first | (simp [Region.wanted, yielded]; done) | (simp [Region.wanted, yielded, undef]; done))); simp only [Act.put, List.setIfInBounds_toArray, List.set_cons_succ, List.set_cons_zero])
                | ((with_reducible refine quiet_go ?_ (fun K hK => ?_)); (focus (first | (simp [Region.wanted, yielded]; done) | (simp [Region.wanted, yielded, undef]; done))); (focus (apply quiet_val; (focus (intro w' hw; obtain ⟨hcq, hfq⟩ := bcell ((hC.out _).1 hw); go_simp; (first | done | rfl))); (simp only [Act.put, List.setIfInBounds_toArray, List.set_cons_succ, List.set_cons_zero]); (with_reducible refine hK _ ?_); clear hK K))))
              refine wpQuiet_nil ?_
              intro w1 hb1
              replace hb1 := (hC.out _).1 hb1
              clear hC C
              obtain ⟨hc1, hf1⟩ := bcell hb1
              have HQ1 := Lib.hid (pt HQ.out hb1)
              clear hb1 hc1 hf1 m0 m1 m2 m3 n0 n1 n2 n3 nl x1 x2 xl
              as_aux_lemma =>
              go_wp2
              go_roundw
              case rel => exact ⟨i + 1, src_succ _, HI.out, HQ1.out⟩
              case measure => exact src_meas HI.out
        · obtain rfl : i = ls.length := Nat.le_antisymm hi (Nat.le_of_not_lt hlt)
          as_aux_lemma =>
          have hn0 := HL.out.1
          clear hlt hi i0
          obtain ⟨am, ham⟩ : ∃ am : Nat, b0 % (ls.length : Int) = (am : Int) := ⟨(b0 % (ls.length : Int)).toNat, by have := Int.emod_nonneg b0 (show (ls.length : Int) ≠ 0 by omega); omega⟩
          have haml : am < ls.length := by have := Int.emod_lt_of_pos b0 (show (0 : Int) < (ls.length : Int) by omega); omega
          have HMd := Lib.hid (show ∀ W, Calls Tryd.prog 12 #[.int .i64 b0, .int .i64 (ls.length : Int)] W fun e w' => e = .returned (.int .i64 (am : Int)) ∧ W = w' from fun W => by
            have z := baseModN_any b0 (ls.length : Int) HBy.out.1 (by omega) (by have := HL.out.2; omega) W
            rw [ham] at z
            exact z)
          have HWi := Lib.hid (fun W => refWithin_any b1 (-1000) 1000 W)
          have HAm := Lib.hid haml
          have HOi := Lib.hid (other_iff HLe.out HSm.out haml b1)
          have HSt := Lib.hid (show ∀ W, Below u.heap.size u W → ShSt w A ls.length c p q b0 b1 b2 W from fun W hW => (HU.out _ hW).2.2.1)
          have y0 := (HSt.out _ HQ.out).by_.cellAt 0 rfl
          have yl := (HSt.out _ HQ.out).by_.lt
          clear ham haml HNo
          generalize withinB b1 (-1000) 1000 = wt at *
          
          obtain ⟨k5, hk5⟩ : ∃ k5, b2 % 5 = k5 := ⟨_, rfl⟩
          have hk6 : 0 ≤ k5 ∧ k5 ≤ 4 := by have h1 := Int.emod_nonneg b2 (show (5 : Int) ≠ 0 by decide); have h2 := Int.emod_lt_of_pos b2 (show (0 : Int) < 5 by decide); omega
          have HMd2 := Lib.hid (show ∀ W, Calls Tryd.prog 12 #[.int .i64 b2, .int .i64 5] W fun e w' => e = .returned (.int .i64 k5) ∧ W = w' from fun W => by
            have z := baseModN_any b2 5 HBy.out.2.2 (by decide) (by decide) W
            rw [hk5] at z
            exact z)
          obtain ⟨mv, hmv⟩ : ∃ mv, k5 + 1 = mv := ⟨_, rfl⟩
          have hmv1 : 1 ≤ mv ∧ mv ≤ 5 := by omega
          have HMv := Lib.hid hmv1
          obtain ⟨f1, f1'⟩ := wrap_eq hmv (by omega)
          obtain ⟨mp, hmp⟩ : ∃ x, mv * p = x := ⟨_, rfl⟩
          obtain ⟨mq, hmq⟩ : ∃ x, mv * q = x := ⟨_, rfl⟩
          have hmpq : (-5000000 ≤ mp ∧ mp ≤ 5000000) ∧ (-5000000 ≤ mq ∧ mq ≤ 5000000) := by
            have h := HPQ.out
            unfold Sm at h
            rw [← hmp, ← hmq]
            exact ⟨times_bd h.1 hmv1, times_bd h.2 hmv1⟩
          obtain ⟨f2, f2'⟩ := wrap_eq hmp (by omega)
          obtain ⟨f3, f3'⟩ := wrap_eq hmq (by omega)
          have HEq := Lib.hid (And.intro hmp hmq)
          clear hk5 hk6 hmv hmv1 hmp hmq hmpq
          obtain ⟨ls', hls'⟩ : ∃ l, ls.map (times mv) = l := ⟨_, rfl⟩
          have HLs := Lib.hid hls'
          clear hls'
          have HLn := Lib.hid (show ls'.length = ls.length by rw [← HLs.out, List.length_map])
          have H64' := Lib.hid (show ∀ x ∈ ls', Src64 x by
            intro x hx
            rw [← HLs.out] at hx
            obtain ⟨s, hs, rfl⟩ := List.mem_map.1 hx
            exact (times64 (HOk.out.2 s hs) HMv.out).1)
          have HTk := Lib.hid (fun i (hi : i < ls.length) => times_take (n := mv) hi)
          have HT64 := Lib.hid (fun i (hi : i < ls.length) => (times64 (HOk.out.at_ hi) HMv.out).2)
          have HCt := Lib.hid (show ∀ i, i < ls.length → (curCs ls' mp mq).getD i default = ⟨loN (mv * (curC ls p q (ls.getD i default)).pn) (curC ls p q (ls.getD i default)).pd, loD (mv * (curC ls p q (ls.getD i default)).pn) (curC ls p q (ls.getD i default)).pd, loN (mv * (curC ls p q (ls.getD i default)).qn) (curC ls p q (ls.getD i default)).qd, loD (mv * (curC ls p q (ls.getD i default)).qn) (curC ls p q (ls.getD i default)).qd⟩ from fun i hi => by
            rw [curCs_at (by rw [HLn.out]; exact hi), ← HLs.out, times_at hi, ← HEq.out.1, ← HEq.out.2]
            exact curC_times HOk.out _)
          have HSmf := Lib.hid (fun i (hi : i < ls.length) => small_facts HSm.out hi)
          have HTa := Lib.hid (show srcCells ((ls.take ls.length).map (times mv)) = srcCells ls' by rw [List.take_length, HLs.out])
          clear HEq
          as_aux_lemma =>
          go_upto_if 159 with (first
            | (go_at_call 12; (with_reducible refine (HMd.out _).mono ?_); rintro e w' ⟨rfl, rfl⟩)
            | (go_at_call 10; (with_reducible refine (HCc.out _ A5 c5 (HC5.out _ HQ.out)).mono ?_); rintro e wc_ ⟨A8, c8, rfl, ho8, hb8⟩; have HO8 := Lib.hid ho8; have HG8 := Lib.hid hb8.size; have HGq := Lib.hid HQ.out.size; clear ho8; have HQ8 := Lib.hid (pt HQ.out hb8); clear hb8 y0 yl; have y0 := (HSt.out _ HQ8.out).by_.cellAt 0 rfl; have y1 := (HSt.out _ HQ8.out).by_.cellAt 1 rfl; have y2 := (HSt.out _ HQ8.out).by_.cellAt 2 rfl; have x1 := (HSt.out _ HQ8.out).bx.cellAt 1 rfl; have x2 := (HSt.out _ HQ8.out).bx.cellAt 2 rfl; have xl := (HSt.out _ HQ8.out).bx.lt; have yl := (HSt.out _ HQ8.out).by_.lt)
            | (go_at_call 13; (with_reducible refine (HWi.out _).mono ?_); rintro e w' ⟨rfl, rfl⟩))
          clear y0 y2 x1 x2 xl
          go_cut [] (fun wx => Below u.heap.size u wx)
          case first =>
            clear HCt HSmf HTk HT64 HTa HMd2 H64' HLs HLn HMv f1 f1' f2 f2' f3 f3' HMd HWi HCc
            as_aux_lemma =>
            cases wt with
            | false =>
              clear y1 yl HOi HO8 HG8 HGq
              as_aux_lemma =>
              go_wp2
              go_meet
              case rel => exact HQ8.out
            | true =>
              obtain ⟨g, cur, rfl, hg8, hB8, hcl8, hz8, hc8⟩ := own_cells4 HO8.out hn0
              have HB8 := Lib.hid hB8
              have HC8 := Lib.hid (And.intro hcl8 (And.intro hz8 hc8))
              have HG9 := Lib.hid (Nat.le_trans HGq.out hg8)
              clear HO8 hg8 hB8 hcl8 hz8 hc8 HG8 HGq
              go_wp2_with (go_at_call 11; (with_reducible refine (whole_any _ _).mono ?_); rintro e w9 ⟨rfl, hb9⟩; have HB9 := Lib.hid (HB8.out.past hb9); have HQ9 := Lib.hid (pt HQ8.out hb9); have g0 : w9.cell? ⟨g, am * 4, none⟩ = some (.int .i64 ((curCs ls p q).getD am default).pn) := (HB9.out.cell (am * 4)).trans (HC8.out.2.2 am 0 HAm.out (by decide)); have g1 : w9.cell? ⟨g, am * 4 + 1, none⟩ = some (.int .i64 ((curCs ls p q).getD am default).pd) := (HB9.out.cell (am * 4 + 1)).trans (HC8.out.2.2 am 1 HAm.out (by decide)); have gf0 := HB9.out.frozen (am * 4); have gf1 := HB9.out.frozen (am * 4 + 1); have gl := HB9.out.lt; have am0 := src_cast am; have am1 := src_lt HAm.out; have aml := HAm.out; clear hb9 y1 yl)
              have HO9 := Lib.hid (show CusIn ((w9.setCell ⟨g, am * 4, none⟩ (.int .i64 b1)).setCell ⟨g, am * 4 + 1, none⟩ (.int .i64 1)).heap.size ((w9.setCell ⟨g, am * 4, none⟩ (.int .i64 b1)).setCell ⟨g, am * 4 + 1, none⟩ (.int .i64 1)) (some ⟨g, 0, none⟩) ((curCs ls p q).set am ⟨b1, 1, (curC ls p q (ls.getD am default)).qn, (curC ls p q (ls.getD am default)).qd⟩) by
                have zz := cus_set HB9.out HC8.out.1 HC8.out.2.1 HC8.out.2.2 HAm.out b1 1
                rw [curCs_at HAm.out] at zz
                exact zz.more (by simp; exact HB9.out.lt))
              have HQa := Lib.hid (show Below u.heap.size u ((w9.setCell ⟨g, am * 4, none⟩ (.int .i64 b1)).setCell ⟨g, am * 4 + 1, none⟩ (.int .i64 1)) from (HQ9.out.setCell (p := ⟨g, am * 4, none⟩) HG9.out _).setCell (p := ⟨g, am * 4 + 1, none⟩) HG9.out _)
              have HC64 := Lib.hid (show ∀ x ∈ ((curCs ls p q).set am ⟨b1, 1, (curC ls p q (ls.getD am default)).qn, (curC ls p q (ls.getD am default)).qd⟩), Cu64 x from fun x hx => by
                rcases List.mem_or_eq_of_mem_set hx with h | rfl
                · exact HCu64.out x h
                · have h2 := HCu64.out ((curCs ls p q).getD am default) (by rw [List.getD_eq_getElem?_getD, List.getElem?_eq_getElem (by rw [HLc.out]; exact HAm.out)]; exact List.getElem_mem _)
                  rw [curCs_at HAm.out] at h2
                  exact ⟨HBy.out.2.1, (show W64 1 from ⟨by decide, by decide⟩), h2.2.2.1, h2.2.2.2⟩)
              have HLs9 := Lib.hid (show ((curCs ls p q).set am ⟨b1, 1, (curC ls p q (ls.getD am default)).qn, (curC ls p q (ls.getD am default)).qd⟩).length = ls.length by rw [List.length_set]; exact HLc.out)
              generalize ((w9.setCell ⟨g, am * 4, none⟩ (.int .i64 b1)).setCell ⟨g, am * 4 + 1, none⟩ (.int .i64 1)) = v9 at *
              generalize ((curCs ls p q).set am ⟨b1, 1, (curC ls p q (ls.getD am default)).qn, (curC ls p q (ls.getD am default)).qd⟩) = cs9 at *
              have ST9 := Lib.hid (HSt.out _ HQa.out)
              clear g0 g1 gf0 gf1 gl HB9 HB8 HC8 HG9 HQ9 HQ8 HQ
              as_aux_lemma =>
              have HSS := Lib.hid (show ∀ W, Below v9.heap.size v9 W → W.cell? ⟨w.heap.size, 0, none⟩ = some (.slice A ls.length c) ∧ W.cell? ⟨w.heap.size, 1, none⟩ = some (.int .i64 p) ∧ W.cell? ⟨w.heap.size, 2, none⟩ = some (.int .i64 q) ∧ W.cell? ⟨w.heap.size + 1, 1, none⟩ = some (.int .i64 b1) from fun W hW => ⟨(ST9.out.bx.past hW).cellAt 0 rfl, (ST9.out.bx.past hW).cellAt 1 rfl, (ST9.out.bx.past hW).cellAt 2 rfl, (ST9.out.by_.past hW).cellAt 1 rfl⟩)
              as_aux_lemma =>
              refine wp_region_G 11 follows_mixed (fun W => W.cell? ⟨w.heap.size, 0, none⟩ = some (.slice A ls.length c) ∧ W.cell? ⟨w.heap.size, 1, none⟩ = some (.int .i64 p) ∧ W.cell? ⟨w.heap.size, 2, none⟩ = some (.int .i64 q) ∧ W.cell? ⟨w.heap.size + 1, 1, none⟩ = some (.int .i64 b1)) (HSS.out _ (pd pr)) ?_
              intro hSd inv
              have HSd := Lib.hid hSd
              clear hSd
              have HB0 := Lib.hid (show Below v9.heap.size v9 v9.drew from pd pr)
              refine wpAnyG_take (i := 0) (v := ?_) rfl (by kernel_rfl) (by kernel_rfl) (by kernel_rfl) (by kernel_rfl) (by kernel_rfl) (by decide) (by decide) inv (fun _ _ _ h => h) (Or.inl ⟨by rfl, ?_⟩) HSd.out ?_; rotate_left; (focus (intro W y1; obtain ⟨y1, y2, y3, y4⟩ := y1; go_simp; (first | done | with_reducible rfl))); clear inv; intro inv; simp only [List.getElem_toArray, List.getElem_cons_zero, Act.put, List.setIfInBounds_toArray, List.set_cons_zero, List.set_cons_succ]
              refine wpAnyG_take (i := 1) (v := ?_) rfl (by kernel_rfl) (by kernel_rfl) (by kernel_rfl) (by kernel_rfl) (by kernel_rfl) (by decide) (by decide) inv (fun _ _ _ h => h) (Or.inl ⟨by rfl, ?_⟩) HSd.out ?_; rotate_left; (focus (intro W y1; obtain ⟨y1, y2, y3, y4⟩ := y1; go_simp; (first | done | with_reducible rfl))); clear inv; intro inv; simp only [List.getElem_toArray, List.getElem_cons_zero, List.getElem_cons_succ, Act.put, List.setIfInBounds_toArray, List.set_cons_zero, List.set_cons_succ]
              refine wpAnyG_take (i := 3) (v := ?_) rfl (by kernel_rfl) (by kernel_rfl) (by kernel_rfl) (by kernel_rfl) (by kernel_rfl) (by decide) (by decide) inv (fun _ _ _ h => h) (Or.inl ⟨by rfl, ?_⟩) HSd.out ?_; rotate_left; (focus (intro W y1; obtain ⟨y1, y2, y3, y4⟩ := y1; go_simp; (first | done | with_reducible rfl))); clear inv; intro inv; simp only [List.getElem_toArray, List.getElem_cons_zero, List.getElem_cons_succ, Act.put, List.setIfInBounds_toArray, List.set_cons_zero, List.set_cons_succ]
              refine wpAnyG_take (i := 4) (v := ?_) rfl (by kernel_rfl) (by kernel_rfl) (by kernel_rfl) (by kernel_rfl) (by kernel_rfl) (by decide) (by decide) inv (fun _ _ _ h => h) (Or.inl ⟨by rfl, ?_⟩) HSd.out ?_; rotate_left; (focus (intro W y1; obtain ⟨y1, y2, y3, y4⟩ := y1; go_simp; (first | done | with_reducible rfl))); clear inv; intro inv; simp only [List.getElem_toArray, List.getElem_cons_zero, List.getElem_cons_succ, Act.put, List.setIfInBounds_toArray, List.set_cons_zero, List.set_cons_succ]
              refine wpAnyG_take (i := 5) (v := ?_) rfl (by kernel_rfl) (by kernel_rfl) (by kernel_rfl) (by kernel_rfl) (by kernel_rfl) (by decide) (by decide) inv (fun _ _ _ h => h) (Or.inl ⟨by rfl, ?_⟩) HSd.out ?_; rotate_left; (focus (intro W y1; obtain ⟨y1, y2, y3, y4⟩ := y1; go_simp; (first | done | with_reducible rfl))); clear inv; intro inv; simp only [List.getElem_toArray, List.getElem_cons_zero, List.getElem_cons_succ, Act.put, List.setIfInBounds_toArray, List.set_cons_zero, List.set_cons_succ]
              have HInv := Lib.hid inv
              clear inv
              as_aux_lemma =>
              refine wpAnyG_one (i := 2) (by kernel_rfl) rfl rfl fun K hK => ?_
              go_simp
              refine (HCp.out _ (pt ST9.out.bel HB0.out)).mono ?_
              rintro e wa ⟨Aa, ca, rfl, hca, hla, hb⟩
              have HB2_ := Lib.hid (show Below v9.heap.size v9 wa from pt HB0.out hb)
              have HCa := Lib.hid hca
              clear hca
              refine hK.out _ _ (fun _ => HSS.out _ HB2_.out) ?_
              clear hK K hb
              replace HInv := Lib.hid (inv_one (i := 2) HInv.out (by kernel_rfl) (by decide))
              as_aux_lemma =>
              refine wpAnyG_one (i := 6) (by kernel_rfl) rfl rfl fun K hK => ?_
              go_simp
              refine (HChk.out wa Aa ca (some ⟨g, 0, none⟩) c8 cs9 HCa.out ((HO9.out.below HB2_.out).more HB2_.out.size) HLs9.out HC64.out).mono ?_
              rintro e wb_ ⟨rfl, hb⟩
              have HB6_ := Lib.hid (show Below v9.heap.size v9 wb_ from pt HB2_.out hb)
              refine hK.out _ _ (fun _ => HSS.out _ HB6_.out) ?_
              clear hK K hb
              replace HInv := Lib.hid (inv_one (i := 6) HInv.out (by kernel_rfl) (by decide))
              as_aux_lemma =>
              refine wpAnyG_one (i := 7) (by kernel_rfl) rfl rfl fun K hK => ?_
              go_simp
              refine hK.out _ _ (fun _ => HSS.out _ HB6_.out) ?_
              clear hK K
              replace HInv := Lib.hid (inv_one (i := 7) HInv.out (by kernel_rfl) (by decide))
              have inv := HInv.out
              clear HInv
              replace HSd := Lib.hid (HSS.out _ HB6_.out)
              refine wpAnyG_take (i := 8) (v := ?_) rfl (by kernel_rfl) (by kernel_rfl) (by kernel_rfl) (by kernel_rfl) (by kernel_rfl) (by decide) (by decide) inv (fun _ _ _ h => h) (Or.inl ⟨by rfl, ?_⟩) HSd.out ?_; rotate_left; (focus (intro W y1; obtain ⟨y1, y2, y3, y4⟩ := y1; go_simp; (first | done | with_reducible rfl))); clear inv; intro inv; simp only [List.getElem_toArray, List.getElem_cons_zero, List.getElem_cons_succ, Act.put, List.setIfInBounds_toArray, List.set_cons_zero, List.set_cons_succ]
              refine wpAnyG_take (i := 9) (v := ?_) rfl (by kernel_rfl) (by kernel_rfl) (by kernel_rfl) (by kernel_rfl) (by kernel_rfl) (by decide) (by decide) inv (fun _ _ _ h => h) (Or.inl ⟨by rfl, ?_⟩) HSd.out ?_; rotate_left; (focus (intro W y1; obtain ⟨y1, y2, y3, y4⟩ := y1; go_simp; (first | done | with_reducible rfl))); clear inv; intro inv; simp only [List.getElem_toArray, List.getElem_cons_zero, List.getElem_cons_succ, Act.put, List.setIfInBounds_toArray, List.set_cons_zero, List.set_cons_succ]
              have HInv := Lib.hid inv
              clear inv
              as_aux_lemma =>
              refine wpAnyG_one (i := 10) (by kernel_rfl) rfl rfl fun K hK => ?_
              go_simp
              refine hK.out _ _ (fun _ => HSS.out _ HB6_.out) ?_
              clear hK K
              replace HInv := Lib.hid (inv_one (i := 10) HInv.out (by kernel_rfl) (by decide))
              as_aux_lemma =>
              refine wpAnyG_one (i := 11) (by kernel_rfl) rfl rfl fun K hK => ?_
              go_simp
              refine hK.out _ _ (fun h => absurd h (by decide)) ?_
              clear hK K
              clear HInv
              refine wpAnyG_done (by kernel_rfl) ?_
              clear HSS HSd HB0
              have HQb := Lib.hid (pt HQa.out HB6_.out)
              generalize (checkV ls p q cs9).1 = ix at *
              generalize (checkV ls p q cs9).2 = fx at *
              clear HCa hla HO9 HC64 HLs9 ST9 HQa HB2_ HB6_
              as_aux_lemma =>
              go_wp2
              go_cut [188] (fun sv wx => sv = .bool false ∧ Below u.heap.size u wx)
              case first =>
                obtain ⟨_, hc1_, hst, _⟩ := HU.out _ HQb.out
                obtain ⟨g_, og, hG, hg, hcg⟩ := hc1_.at_ (k := am) (by rw [HLc.out]; exact HAm.out)
                subst hG
                obtain ⟨m0, m1, m2, m3⟩ := hcg am (by rw [HLc.out]; exact HAm.out)
                rw [curCs_at HAm.out] at m0 m1 m2 m3
                have y1 := hst.by_.cellAt 1 rfl
                have yl := hst.by_.lt
                have aml := HAm.out
                have am0 := src_cast am
                have am1 := src_lt HAm.out
                clear hc1_ hst hcg m2 m3
                have hO := HOi.out
                generalize curC ls p q (ls.getD am default) = cu at *
                obtain ⟨pn, pd, qn, qd⟩ := cu
                dsimp only at m0 m1 hO
                have HO := Lib.hid hO
                clear hO
                by_cases h1 : pn = b1
                · by_cases h2 : pd = 1
                  · have hf : fx = 0 := HO.out.2 ⟨h1, h2⟩
                    subst hf h1 h2
                    as_aux_lemma =>
                    refine region_below 11 follows_mixed (by kernel_rfl) ?_
                    intro C hC
                    simp only [List.take_succ_cons, List.take_zero, List.drop_succ_cons, List.drop_zero]
                    repeat (first
                      | ((with_reducible refine quiet_plain rfl (fun K hK => ?_)); (focus (apply quiet_val; (focus (intro w' hw; obtain ⟨hcq, hfq⟩ := bcell ((hC.out _).1 hw); go_simp; (first | done | rfl | (with_reducible exact call_below hC hw (whole_any _ _))))); (simp only [Act.put, List.setIfInBounds_toArray, List.set_cons_succ, List.set_cons_zero]); (with_reducible refine hK _ ?_); clear hK K)))
                      | ((with_reducible refine quiet_skip ?_ ?_); (focus (first | (simp [Region.wanted, yielded]; done) | (simp [Region.wanted, yielded, undef]; done))); simp only [Act.put, List.setIfInBounds_toArray, List.set_cons_succ, List.set_cons_zero])
                      | ((with_reducible refine quiet_go ?_ (fun K hK => ?_)); (focus (first | (simp [Region.wanted, yielded]; done) | (simp [Region.wanted, yielded, undef]; done))); (focus (apply quiet_val; (focus (intro w' hw; obtain ⟨hcq, hfq⟩ := bcell ((hC.out _).1 hw); go_simp; (first | done | rfl | (with_reducible exact call_below hC hw (whole_any _ _))))); (simp only [Act.put, List.setIfInBounds_toArray, List.set_cons_succ, List.set_cons_zero]); (with_reducible refine hK _ ?_); clear hK K))))
                    refine wpQuiet_nil ?_
                    intro w1 hb1
                    replace hb1 := (hC.out _).1 hb1
                    clear hC C
                    obtain ⟨hc1, hf1⟩ := bcell hb1
                    have HQc := Lib.hid (pt HQb.out hb1)
                    clear hb1 hc1 hf1
                    as_aux_lemma =>
                    go_wp2
                    go_meet
                    case rel => exact ⟨rfl, HQc.out⟩
                  · have hf : ¬ fx = 0 := fun h => h2 (HO.out.1 h).2
                    have hf2 : (fx == 0) = false := beq_eq_false_iff_ne.2 hf
                    subst h1
                    as_aux_lemma =>
                    refine region_below 11 follows_mixed (by kernel_rfl) ?_
                    intro C hC
                    simp only [List.take_succ_cons, List.take_zero, List.drop_succ_cons, List.drop_zero]
                    repeat (first
                      | ((with_reducible refine quiet_plain rfl (fun K hK => ?_)); (focus (apply quiet_val; (focus (intro w' hw; obtain ⟨hcq, hfq⟩ := bcell ((hC.out _).1 hw); go_simp; (first | done | rfl | (with_reducible exact call_below hC hw (whole_any _ _))))); (simp only [Act.put, List.setIfInBounds_toArray, List.set_cons_succ, List.set_cons_zero]); (with_reducible refine hK _ ?_); clear hK K)))
                      | ((with_reducible refine quiet_skip ?_ ?_); (focus (first | (simp [Region.wanted, yielded]; done) | (simp [Region.wanted, yielded, undef]; done))); simp only [Act.put, List.setIfInBounds_toArray, List.set_cons_succ, List.set_cons_zero])
                      | ((with_reducible refine quiet_go ?_ (fun K hK => ?_)); (focus (first | (simp [Region.wanted, yielded]; done) | (simp [Region.wanted, yielded, undef]; done))); (focus (apply quiet_val; (focus (intro w' hw; obtain ⟨hcq, hfq⟩ := bcell ((hC.out _).1 hw); go_simp; (first | done | rfl | (with_reducible exact call_below hC hw (whole_any _ _))))); (simp only [Act.put, List.setIfInBounds_toArray, List.set_cons_succ, List.set_cons_zero]); (with_reducible refine hK _ ?_); clear hK K))))
                    refine wpQuiet_nil ?_
                    intro w1 hb1
                    replace hb1 := (hC.out _).1 hb1
                    clear hC C
                    obtain ⟨hc1, hf1⟩ := bcell hb1
                    have HQc := Lib.hid (pt HQb.out hb1)
                    clear hb1 hc1 hf1
                    as_aux_lemma =>
                    go_wp2
                    go_meet
                    case rel => exact ⟨rfl, HQc.out⟩
                · have hf : ¬ fx = 0 := fun h => h1 (HO.out.1 h).1
                  have hf2 : (fx == 0) = false := beq_eq_false_iff_ne.2 hf
                  as_aux_lemma =>
                  refine region_below 11 follows_mixed (by kernel_rfl) ?_
                  intro C hC
                  simp only [List.take_succ_cons, List.take_zero, List.drop_succ_cons, List.drop_zero]
                  repeat (first
                    | ((with_reducible refine quiet_plain rfl (fun K hK => ?_)); (focus (apply quiet_val; (focus (intro w' hw; obtain ⟨hcq, hfq⟩ := bcell ((hC.out _).1 hw); go_simp; (first | done | rfl | (with_reducible exact call_below hC hw (whole_any _ _))))); (simp only [Act.put, List.setIfInBounds_toArray, List.set_cons_succ, List.set_cons_zero]); (with_reducible refine hK _ ?_); clear hK K)))
                    | ((with_reducible refine quiet_skip ?_ ?_); (focus (first | (simp [Region.wanted, yielded]; done) | (simp [Region.wanted, yielded, undef]; done))); simp only [Act.put, List.setIfInBounds_toArray, List.set_cons_succ, List.set_cons_zero])
                    | ((with_reducible refine quiet_go ?_ (fun K hK => ?_)); (focus (first | (simp [Region.wanted, yielded]; done) | (simp [Region.wanted, yielded, undef]; done))); (focus (apply quiet_val; (focus (intro w' hw; obtain ⟨hcq, hfq⟩ := bcell ((hC.out _).1 hw); go_simp; (first | done | rfl | (with_reducible exact call_below hC hw (whole_any _ _))))); (simp only [Act.put, List.setIfInBounds_toArray, List.set_cons_succ, List.set_cons_zero]); (with_reducible refine hK _ ?_); clear hK K))))
                  refine wpQuiet_nil ?_
                  intro w1 hb1
                  replace hb1 := (hC.out _).1 hb1
                  clear hC C
                  obtain ⟨hc1, hf1⟩ := bcell hb1
                  have HQc := Lib.hid (pt HQb.out hb1)
                  clear hb1 hc1 hf1
                  as_aux_lemma =>
                  go_wp2
                  go_meet
                  case rel => exact ⟨rfl, HQc.out⟩
              case rest =>
                obtain ⟨rfl, hqc⟩ := hcut
                as_aux_lemma =>
                go_wp2
                go_meet
                case rel => exact hqc
          case rest =>
            obtain ⟨wq, rfl⟩ : ∃ v, v = wc := ⟨_, rfl⟩
            have HQ8 := Lib.hid hcut
            clear hcut HOi HO8 HG8 HGq HMd HWi HAm
            have y2 := (HSt.out _ HQ8.out).by_.cellAt 2 rfl
            have x1 := (HSt.out _ HQ8.out).bx.cellAt 1 rfl
            have x2 := (HSt.out _ HQ8.out).bx.cellAt 2 rfl
            have xl := (HSt.out _ HQ8.out).bx.lt
            have yl := (HSt.out _ HQ8.out).by_.lt
            as_aux_lemma =>
            go_wp2_with (go_at_call 12; (with_reducible refine (HMd2.out _).mono ?_); rintro e w' ⟨rfl, rfl⟩)
            clear y2 x1 x2 xl yl f1 f1' f2 f2' f3 f3'
            obtain ⟨z, rfl⟩ : ∃ z, z = wq := ⟨_, rfl⟩
            have HMb := Lib.hid (Blk.new z 26 #[.slice none 0 0, .int .i64 mp, .int .i64 mq])
            have HZu := Lib.hid (pa (o := (.cells #[.slice none 0 0, .int .i64 mp, .int .i64 mq] 26)) (pr (w := z)))
            have HZs := Lib.hid (show (z.alloc (.cells #[.slice none 0 0, .int .i64 mp, .int .i64 mq] 26)).heap.size = z.heap.size + 1 by simp)
            generalize z.alloc (.cells #[.slice none 0 0, .int .i64 mp, .int .i64 mq] 26) = v4 at *
            obtain ⟨i0_, hi0, hz0, hz1, hz2⟩ := info_parts source_info
            as_aux_lemma =>
            go_loopw [20] (fun iv wr => ∃ (i : Nat) (A9 : Option Addr) (c9 : Nat), iv = .int .i64 (i : Int) ∧ i ≤ ls.length ∧ Blk wr z.heap.size 26 #[.slice A9 i c9, .int .i64 mp, .int .i64 mq] ∧ wr.ownsRow (z.heap.size + 1) 42 4 (.slice A9 i c9) i (srcCells ((ls.take i).map (times mv))) ∧ Below z.heap.size z wr ∧ z.heap.size + 1 ≤ wr.heap.size) (fun iv _ => ls.length - (intOf iv).toNat)
            case atStart => exact ⟨0, none, 0, rfl, Nat.zero_le _, HMb.out, World.ownsRow_nil _ _ _ _, HZu.out, Nat.le_of_eq HZs.out.symm⟩
            case round =>
              obtain ⟨i, A9, c9, rfl, hi, hmb, hown, hq, hsz⟩ := hrel
              have HQ := Lib.hid hq
              have HMB := Lib.hid hmb
              have HOwn := Lib.hid hown
              have HSz := Lib.hid hsz
              have i0 := src_cast i
              clear hq hmb hown hsz
              by_cases hlt : i < ls.length
              · as_aux_lemma =>
                have i1 := src_lt hlt
                have i9 : (i : Int) ≤ 4 := by have := HL.out; omega
                have i4 : i ≤ 4 := by have := HL.out; omega
                have HI := Lib.hid hlt
                obtain ⟨hs1, _, hst, _⟩ := HU.out _ (pt HQ8.out HQ.out)
                obtain ⟨b, off, hA, hb, hct⟩ := hs1.at_ hlt
                subst hA
                obtain ⟨u0, u1, u2, u3⟩ := hct i hlt
                have x0 := hst.bx.cellAt 0 rfl
                have xl := hst.bx.lt
                have k0 := HMB.out.cellAt 0 rfl
                have kl := HMB.out.lt
                have HTi := Lib.hid (HTk.out i hlt)
                obtain ⟨t1, t2⟩ := HT64.out i hlt
                clear hct hs1 hst
                generalize ls.getD i default = s at *
                obtain ⟨sp, sq, sn, sd⟩ := s
                dsimp only at u0 u1 u2 u3 t1 t2
                have HTi := Lib.hid (show srcCells ((ls.take (i + 1)).map (times mv)) = srcCells ((ls.take i).map (times mv)) ++ [.int .i64 (mv * sp), .int .i64 (mv * sq), .int .i64 sn, .int .i64 sd] from HTi.out)
                obtain ⟨sp2, hsp⟩ : ∃ x, mv * sp = x := ⟨_, rfl⟩
                obtain ⟨sq2, hsq⟩ : ∃ x, mv * sq = x := ⟨_, rfl⟩
                rw [hsp] at t1 HTi
                rw [hsq] at t2 HTi
                obtain ⟨e1, e1'⟩ := wrap_eq hsp (by omega)
                obtain ⟨e2, e2'⟩ := wrap_eq hsq (by omega)
                clear t1 t2 hsp hsq
                generalize srcCells ((ls.take i).map (times mv)) = us at *
                have HOw := Lib.hid ((HOwn.out.alloc (.cells #[.int .i64 sp, .int .i64 sq, .int .i64 sn, .int .i64 sd] 42)).alloc (.cells #[.int .i64 sp2, .int .i64 sq2, .int .i64 sn, .int .i64 sd] 42))
                have HCl := Lib.hid (show CellsIn (wr.heap.size + 1 + 1) ((wr.alloc (.cells #[.int .i64 sp, .int .i64 sq, .int .i64 sn, .int .i64 sd] 42)).alloc (.cells #[.int .i64 sp2, .int .i64 sq2, .int .i64 sn, .int .i64 sd] 42)) (some ⟨wr.heap.size + 1, 0, none⟩) [.int .i64 sp2, .int .i64 sq2, .int .i64 sn, .int .i64 sd] from .inr ⟨wr.heap.size + 1, 0, rfl, Nat.lt_succ_self _, fun j hj => by
                  rw [Nat.zero_add]
                  exact ((Blk.newAt (w := wr.alloc (.cells #[.int .i64 sp, .int .i64 sq, .int .i64 sn, .int .i64 sd] 42)) (t := 42) (cs := #[.int .i64 sp2, .int .i64 sq2, .int .i64 sn, .int .i64 sd]) (n := wr.heap.size + 1) (by simp)).cell j).trans (by simp)⟩)
                have H1c := Lib.hid (show ∀ u ∈ ([.int .i64 sp2, .int .i64 sq2, .int .i64 sn, .int .i64 sd] : List Value), u.oneCell' = true by simp [Value.oneCell'])
                have HMx := Lib.hid (show i + 1 ≤ maxLen ∧ (i + 1) * 32 ≤ 140737488355328 from ⟨by simp only [maxLen]; omega, by omega⟩)
                have HMB2 := Lib.hid ((HMB.out.alloc (o := .cells #[.int .i64 sp, .int .i64 sq, .int .i64 sn, .int .i64 sd] 42)).alloc (o := .cells #[.int .i64 sp2, .int .i64 sq2, .int .i64 sn, .int .i64 sd] 42))
                have HQa := Lib.hid (pa (o := .cells #[.int .i64 sp2, .int .i64 sq2, .int .i64 sn, .int .i64 sd] 42) (pa (o := .cells #[.int .i64 sp, .int .i64 sq, .int .i64 sn, .int .i64 sd] 42) HQ.out))
                have HSz2 := Lib.hid (show z.heap.size + 1 ≤ ((wr.alloc (.cells #[.int .i64 sp, .int .i64 sq, .int .i64 sn, .int .i64 sd] 42)).alloc (.cells #[.int .i64 sp2, .int .i64 sq2, .int .i64 sn, .int .i64 sd] 42)).heap.size by rw [World.size_alloc, World.size_alloc]; exact Nat.le_trans HSz.out (Nat.le_add_right _ 2))
                clear HOwn HMB HTk HT64 hb
                go_wp2_with (at_builtin; go_must (refine wpList_append_cells _ rfl (.tmp 218) (.tmp 233) _ rfl (z.heap.size + 1) 42 i0_ _ 4 32 Tryd.underlying22 hi0 hz0 hz1 hz2 rfl (by decide) _ i us rfl HOw.out (wr.heap.size + 1 + 1) (some ⟨wr.heap.size + 1, 0, none⟩) 1 1 _ rfl HCl.out rfl H1c.out HMx.out.1 HMx.out.2 HSz2.out ?_); intro v6 w6 hown6 hg6 hat6; obtain ⟨A6, c6, rfl, hc6, hm6⟩ := own_form hown6; have HMB6 := Lib.hid (HMB2.out.grown hg6 (fun he => absurd (HOw.out.lt z.heap.size he.symm).1 (Nat.not_succ_le_self _))); have HQ6 := Lib.hid (HQa.out.grown hg6 HQa.out.size (fun k hk => Nat.le_of_succ_le (HOw.out.lt k hk).1)); have HO6 := Lib.hid hown6; have HS6 := Lib.hid (Nat.le_trans HSz2.out hg6.size); have k0' := HMB6.out.cellAt 0 rfl; have kf := HMB6.out.frozen 0; have kl' := HMB6.out.lt; clear hown6 hg6 hat6 hc6 hm6)
                go_roundw
                case rel => exact ⟨i + 1, A6, c6, src_succ _, HI.out, HMB6.out.set_ 0 _, by rw [HTi.out]; exact ownsRow_setCell_below HO6.out (a := ⟨z.heap.size, 0, none⟩) (Nat.lt_succ_self _) _, HQ6.out.setCell (Nat.le_refl _) _, by simp; exact HS6.out⟩
                case measure => exact src_meas HI.out
              · obtain rfl : i = ls.length := Nat.le_antisymm hi (Nat.le_of_not_lt hlt)
                as_aux_lemma =>
                clear hlt hi
                rw [HTa.out] at HOwn
                have HCl := Lib.hid (cellsIn_of_own HOwn.out)
                have HBt := Lib.hid (show Below u.heap.size u wr from pt HQ8.out HQ.out)
                have HSe2 := Lib.hid (show Calls Tryd.prog 5 #[.slice A9 ls.length c9] wr fun e w' => e = .returned (.int .i64 (sourcesE ls')) ∧ Below wr.heap.size wr w' by
                  have zz := refSourcesErr_any wr.heap.size ls' A9 c9 wr HCl.out.srcs (Nat.le_refl _) H64'.out
                  rw [HLn.out] at zz
                  exact zz)
                have HPe2 := Lib.hid (fun W => refPhasorErr_any mp mq W)
                have k0 := HMB.out.cellAt 0 rfl
                have kl := HMB.out.lt
                have x0 := (HSt.out _ HBt.out).bx.cellAt 0 rfl
                have xl := (HSt.out _ HBt.out).bx.lt
                clear HOwn HTa HTk HT64 i0
                by_cases hE1 : sourcesE ls' = 0
                rotate_left
                · have e1 : (sourcesE ls' != 0) = true := by simpa using hE1
                  clear HPe2
                  generalize sourcesE ls' = E at *
                  go_wp2_with (go_at_call 5; (with_reducible refine HSe2.out.mono ?_); rintro e w2 ⟨rfl, hb2⟩; have HM2 := Lib.hid (HMB.out.past hb2); have HB2 := Lib.hid hb2; clear k0 kl; have k1 := HM2.out.cellAt 1 rfl; have k2 := HM2.out.cellAt 2 rfl; have kl := HM2.out.lt; clear hb2)
                  go_ret
                  exact ⟨rfl, pt HUs.out (pt HBt.out HB2.out)⟩
                rw [hE1] at HSe2
                by_cases hE2 : phE mp mq = 0
                rotate_left
                · have e1 : (phE mp mq != 0) = true := by simpa using hE2
                  clear hE1
                  generalize phE mp mq = E at *
                  go_wp2_with (first
                    | (go_at_call 5; (with_reducible refine HSe2.out.mono ?_); rintro e w2 ⟨rfl, hb2⟩; have HM2 := Lib.hid (HMB.out.past hb2); have HB2 := Lib.hid hb2; clear k0 kl; have k1 := HM2.out.cellAt 1 rfl; have k2 := HM2.out.cellAt 2 rfl; have kl := HM2.out.lt; clear hb2)
                    | (go_at_call 6; (with_reducible refine (HPe2.out _).mono ?_); rintro e w3 ⟨rfl, hb3⟩; have HM3 := Lib.hid (HM2.out.past hb3); have HB3 := Lib.hid (pt HB2.out hb3); clear k1 k2 kl hb3; have k0 := HM3.out.cellAt 0 rfl; have k1 := HM3.out.cellAt 1 rfl; have k2 := HM3.out.cellAt 2 rfl; have kl := HM3.out.lt))
                  go_ret
                  exact ⟨rfl, pt HUs.out (pt HBt.out HB3.out)⟩
                rw [hE2] at HPe2
                have hle : loadE ls' mp mq = 0 := by unfold loadE; rw [if_pos hE1]; exact hE2
                have HCm := Lib.hid (fun W (hW : Below wr.heap.size wr W) => cur_result (c := c9) (p := mp) (q := mq) ((HCl.out.below hW).more hW.size).srcs (Nat.le_refl _) H64'.out hle)
                rw [HLn.out] at HCm
                clear hE1 hE2 hle
                by_cases hsm : allSmall ls' mp mq
                rotate_left
                · have HCn := Lib.hid (fun W hW => (HCm.out W hW).2 hsm)
                  clear hsm HCm
                  go_wp2_with (first
                    | (go_at_call 5; (with_reducible refine HSe2.out.mono ?_); rintro e w2 ⟨rfl, hb2⟩; have HM2 := Lib.hid (HMB.out.past hb2); have HB2 := Lib.hid hb2; clear k0 kl; have k1 := HM2.out.cellAt 1 rfl; have k2 := HM2.out.cellAt 2 rfl; have kl := HM2.out.lt; clear hb2)
                    | (go_at_call 6; (with_reducible refine (HPe2.out _).mono ?_); rintro e w3 ⟨rfl, hb3⟩; have HM3 := Lib.hid (HM2.out.past hb3); have HB3 := Lib.hid (pt HB2.out hb3); clear k1 k2 kl hb3; have k0 := HM3.out.cellAt 0 rfl; have k1 := HM3.out.cellAt 1 rfl; have k2 := HM3.out.cellAt 2 rfl; have kl := HM3.out.lt)
                    | (go_at_call 7; (with_reducible refine (HCn.out _ HB3.out).mono ?_); rintro e w5 ⟨rfl, hb5⟩))
                  go_ret
                  exact ⟨rfl, pt HUs.out (pt HBt.out (pt HB3.out hb5))⟩
                have HCs := Lib.hid (fun W hW => (HCm.out W hW).1 hsm)
                clear hsm HCm
                go_wp2_with (first
                  | (go_at_call 5; (with_reducible refine HSe2.out.mono ?_); rintro e w2 ⟨rfl, hb2⟩; have HM2 := Lib.hid (HMB.out.past hb2); have HB2 := Lib.hid hb2; clear k0 kl; have k1 := HM2.out.cellAt 1 rfl; have k2 := HM2.out.cellAt 2 rfl; have kl := HM2.out.lt; clear hb2)
                  | (go_at_call 6; (with_reducible refine (HPe2.out _).mono ?_); rintro e w3 ⟨rfl, hb3⟩; have HM3 := Lib.hid (HM2.out.past hb3); have HB3 := Lib.hid (pt HB2.out hb3); clear k1 k2 kl hb3; have k0 := HM3.out.cellAt 0 rfl; have k1 := HM3.out.cellAt 1 rfl; have k2 := HM3.out.cellAt 2 rfl; have kl := HM3.out.lt)
                  | (go_at_call 7; (with_reducible refine (HCs.out _ HB3.out).mono ?_); rintro e w5 ⟨Ac, cc, rfl, hcc, hlc5, hb5⟩; have HB5 := Lib.hid (pt HBt.out (pt HB3.out hb5)); have HCc5 := Lib.hid hcc; clear hb5 hcc hlc5))
                clear k0 k1 k2 kl
                obtain ⟨v5, rfl⟩ : ∃ v5, v5 = w5 := ⟨_, rfl⟩
                have HF := Lib.hid (show ∀ W, Below v5.heap.size v5 W → CusIn W.heap.size W A5 (curCs ls p q) ∧ CusIn W.heap.size W Ac (curCs ls' mp mq) from fun W hW => ⟨(HU.out _ (pt HB5.out hW)).2.1, ((HCc5.out.below hW).more hW.size).cus⟩)
                have HLc2 := Lib.hid (show (curCs ls' mp mq).length = ls.length by rw [curCs_len]; exact HLn.out)
                clear HCs HSe2 HPe2 HCc5 HCl HMB HM2 HM3 HB2 HB3
                as_aux_lemma =>
                go_loopw [24] (fun iv wr => ∃ i : Nat, iv = .int .i64 (i : Int) ∧ i ≤ ls.length ∧ Below v5.heap.size v5 wr) (fun iv _ => ls.length - (intOf iv).toNat)
                case atStart => exact ⟨0, rfl, Nat.zero_le _, pr⟩
                case round =>
                  obtain ⟨i, rfl, hi, hq⟩ := hrel
                  have HQ := Lib.hid hq
                  have i0 := src_cast i
                  clear hq
                  by_cases hlt : i < ls.length
                  · as_aux_lemma =>
                    have i1 := src_lt hlt
                    have i9 : (i : Int) ≤ 4 := by have := HL.out; omega
                    have HI := Lib.hid hlt
                    have hin := hlt
                    obtain ⟨hc1_, hc2_⟩ := HF.out _ HQ.out
                    obtain ⟨g, og, hG, hg, hcg⟩ := hc1_.at_ (k := i) (by rw [HLc.out]; exact hlt)
                    subst hG
                    obtain ⟨m0, m1, m2, m3⟩ := hcg i (by rw [HLc.out]; exact hlt)
                    rw [curCs_at hlt] at m0 m1 m2 m3
                    obtain ⟨g2, og2, hG2, hg2, hcg2⟩ := hc2_.at_ (k := i) (by rw [HLc2.out]; exact hlt)
                    subst hG2
                    obtain ⟨n0, n1, n2, n3⟩ := hcg2 i (by rw [HLc2.out]; exact hlt)
                    rw [HCt.out i hlt] at n0 n1 n2 n3
                    obtain ⟨⟨s1, s2⟩, s3⟩ := HSmf.out i hlt
                    clear hcg hcg2 hc1_ hc2_
                    generalize curC ls p q (ls.getD i default) = cu at *
                    obtain ⟨pn, pd, qn, qd⟩ := cu
                    dsimp only at m0 m1 m2 m3 n0 n1 n2 n3 s1 s2
                    obtain ⟨⟨_, a1, a2, a3⟩, ⟨_, a4, a5, a6⟩⟩ := s3
                    dsimp only at a1 a2 a3 a4 a5 a6
                    have HIs1 := Lib.hid (show ∀ W, Calls Tryd.prog 14 #[.agg #[.int .i64 pn, .int .i64 pd]] W fun e w' => e = .returned (.bool true) ∧ Below W.heap.size W w' from fun W => s1 ▸ isSmall_any pn pd W)
                    have HIs2 := Lib.hid (show ∀ W, Calls Tryd.prog 14 #[.agg #[.int .i64 qn, .int .i64 qd]] W fun e w' => e = .returned (.bool true) ∧ Below W.heap.size W w' from fun W => s2 ▸ isSmall_any qn qd W)
                    have hmv := HMv.out
                    have z1 := prod_bdg (K := 1000000000) (v := pn) (a := mv) (M := 5) (by omega) (by omega) (by omega) (by decide)
                    have z2 := prod_bdg (K := 1000000000) (v := qn) (a := mv) (M := 5) (by omega) (by omega) (by omega) (by decide)
                    rw [Int.mul_comm pn mv] at z1
                    rw [Int.mul_comm qn mv] at z2
                    obtain ⟨mn, hmn⟩ : ∃ x, mv * pn = x := ⟨_, rfl⟩
                    obtain ⟨mn2, hmn2⟩ : ∃ x, mv * qn = x := ⟨_, rfl⟩
                    rw [hmn] at z1 n0 n1
                    rw [hmn2] at z2 n2 n3
                    have HLo1 := Lib.hid (baseLowest_any mn pd (by unfold Sm; omega) (by unfold Sm; omega) (by omega))
                    have HLo2 := Lib.hid (baseLowest_any mn2 qd (by unfold Sm; omega) (by unfold Sm; omega) (by omega))
                    obtain ⟨e1, e1'⟩ := wrap_eq hmn (by omega)
                    obtain ⟨e2, e2'⟩ := wrap_eq hmn2 (by omega)
                    clear z1 z2 hmn hmn2 a1 a2 a3 a4 a5 a6 s1 s2 hmv
                    generalize loN mn pd = o1 at *
                    generalize loD mn pd = o2 at *
                    generalize loN mn2 qd = o3 at *
                    generalize loD mn2 qd = o4 at *
                    clear HCt HSmf HF HU HL HLc HLc2 H64 H64' HLs HLn HMv HSt HC5 HChk HCc HCp HOk HSm HLe HCu64 HBy HPQ HXc HMd2
                    as_aux_lemma =>
                    go_wp2
                    as_aux_lemma =>
                    refine region_below 61 follows_mixed (by kernel_rfl) ?_
                    intro C hC
                    simp only [List.take_succ_cons, List.take_zero, List.drop_succ_cons, List.drop_zero]
                    repeat (first
                      | ((with_reducible refine quiet_plain rfl (fun K hK => ?_)); (focus (apply quiet_val; (focus (intro w' hw; obtain ⟨hcq, hfq⟩ := bcell ((hC.out _).1 hw); go_simp; (first | done | rfl | (with_reducible exact call_below hC hw (HIs1.out _)) | (with_reducible exact call_below hC hw (HIs2.out _)) | (with_reducible exact call_below hC hw (HLo1.out _)) | (with_reducible exact call_below hC hw (HLo2.out _))))); (simp only [Act.put, List.setIfInBounds_toArray, List.set_cons_succ, List.set_cons_zero]); (with_reducible refine hK _ ?_); clear hK K)))
                      | ((with_reducible refine quiet_skip ?_ ?_); (focus (simp [Region.wanted, yielded]; done)); simp only [Act.put, List.setIfInBounds_toArray, List.set_cons_succ, List.set_cons_zero])
                      | ((with_reducible refine quiet_go ?_ (fun K hK => ?_)); (focus (first | (simp [Region.wanted, yielded]; done) | (simp [Region.wanted, yielded, undef]; done))); (focus (apply quiet_val; (focus (intro w' hw; obtain ⟨hcq, hfq⟩ := bcell ((hC.out _).1 hw); go_simp; (first | done | rfl | (with_reducible exact call_below hC hw (HIs1.out _)) | (with_reducible exact call_below hC hw (HIs2.out _)) | (with_reducible exact call_below hC hw (HLo1.out _)) | (with_reducible exact call_below hC hw (HLo2.out _))))); (simp only [Act.put, List.setIfInBounds_toArray, List.set_cons_succ, List.set_cons_zero]); (with_reducible refine hK _ ?_); clear hK K))))
                    refine wpQuiet_nil ?_
                    intro w1 hb1
                    replace hb1 := (hC.out _).1 hb1
                    clear hC C
                    obtain ⟨hc1, hf1⟩ := bcell hb1
                    have HQ1 := Lib.hid (pt HQ.out hb1)
                    clear hb1 hc1 hf1 m0 m1 m2 m3 n0 n1 n2 n3 e1 e1' e2 e2'
                    as_aux_lemma =>
                    go_wp2
                    go_roundw
                    case rel => exact ⟨i + 1, src_succ _, HI.out, HQ1.out⟩
                    case measure => exact src_meas HI.out
                  · as_aux_lemma =>
                    obtain rfl : i = ls.length := Nat.le_antisymm hi (Nat.le_of_not_lt hlt)
                    as_aux_lemma =>
                    go_wp2
                    go_ret
                    exact ⟨rfl, pt HUs.out (pt HB5.out HQ.out)⟩

theorem shares_any (ls : List Src) (A : Option Addr) (c : Nat) (p q b0 b1 b2 : Int) (w : World) (hr : CellsIn w.heap.size w A (srcCells ls)) (h64 : ∀ s ∈ ls, Src64 s) (hby : W64 b0 ∧ W64 b1 ∧ W64 b2) (hT : TwIn w) (hP : PatIn w) :
    Calls Tryd.prog 3 #[.agg #[.slice A ls.length c, .int .i64 p, .int .i64 q], .agg #[.int .i64 b0, .int .i64 b1, .int .i64 b2]] w fun e w' => e = .returned (.bool true) ∧ Below w.heap.size w w' := by
  by_cases h0 : sourcesE ls = 0
  · by_cases h1 : phE p q = 0
    · by_cases hs : allSmall ls p q
      · exact shares_main ls A c p q b0 b1 b2 w hr h64 hby hT hP h0 h1 hs
      · exact shares_big ls A c p q b0 b1 b2 w hr h64 hby hT hP h0 h1 hs
    · exact shares_load ls A c p q b0 b1 b2 w hr h64 hby hT hP h0 h1
  · exact shares_srcs ls A c p q b0 b1 b2 w hr h64 hby hT hP h0

end Go.Proofs.YtpdkbhjcpddnpaaDoor
