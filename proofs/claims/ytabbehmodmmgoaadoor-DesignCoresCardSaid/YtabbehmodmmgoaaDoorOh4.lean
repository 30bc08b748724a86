/- The law DesignCores: the walk. Printed by a program (gen_d5cores.py). -/
import Derived.Test.YtabbehmodmmgoaaDoorOg5
import Derived.Test.YtabbehmodmmgoaaDoorOh3
import Derived.Deep.RegionHeld3

section
namespace Go.Proofs.YtabbehmodmmgoaaDoor
open Go.RowKit

theorem bu_best (d : Int) (ws : List Int) (mt : Nat) : bu d ws (min mt ws.length) = bestD d ws mt := rfl

set_option maxRecDepth 100000 in
set_option maxHeartbeats 2000000 in
theorem cores_some (B : Nat) (d : Int) (ws : List Int) (A : Option Addr) (n c : Nat) (x0 x1 : Int) (w : World) (hU : UnitIn w) (hQ : TabS 2 qWords w) (hW : TabS 0 uWords w) (_hr : IntsIn B w A ws) (_hB : B ≤ w.heap.size) (_hn : ws.length = n) (h8 : 8 < n) (h12 : n ≤ 12) :
    Calls Tryd.prog 4 #[.int .i64 d, .slice A n c, .agg #[.int .i64 x0, .int .i64 x1]] w fun e w' => e = .returned (.bool true) ∧ Below w.heap.size w w' := by
  have HAw := Lib.hid (awake_any (w.alloc (.cells #[.int .i64 x0, .int .i64 x1] 40)) (hU.below (pa pr)) (hQ.below (pa pr)) (hW.below (pa pr)))
  clear hU hQ hW _hr _hn
  have z1 : (8 : Int) < (n : Int) := by omega
  have z2 : (n : Int) ≤ 12 := by omega
  have z3 : 8 < n := h8
  go_enter Tryd.func4, Tryd.ntmps4
  go_wp2_with (go_at_call 17; refine HAw.out.mono ?_; rintro e w1 ⟨rfl, hb1⟩; have HB1 := Lib.hid (pt (pa pr) hb1); clear hb1)
  go_ret
  exact ⟨rfl, HB1.out⟩

set_option maxRecDepth 100000 in
set_option maxHeartbeats 2000000 in
theorem cores_many (B : Nat) (d : Int) (ws : List Int) (A : Option Addr) (n c : Nat) (x0 x1 : Int) (w : World) (hU : UnitIn w) (hQ : TabS 2 qWords w) (hW : TabS 0 uWords w) (_hr : IntsIn B w A ws) (_hB : B ≤ w.heap.size) (_hn : ws.length = n) (h14 : 14 < n) :
    Calls Tryd.prog 4 #[.int .i64 d, .slice A n c, .agg #[.int .i64 x0, .int .i64 x1]] w fun e w' => e = .returned (.bool true) ∧ Below w.heap.size w w' := by
  have HAw := Lib.hid (awake_any (w.alloc (.cells #[.int .i64 x0, .int .i64 x1] 40)) (hU.below (pa pr)) (hQ.below (pa pr)) (hW.below (pa pr)))
  clear hU hQ hW _hr _hn
  have z1 : (8 : Int) < (n : Int) := by omega
  have z2 : ¬ (n : Int) ≤ 12 := by omega
  have z3 : (14 : Int) < (n : Int) := by omega
  have z4 : decide ((n : Int) ≤ 12) = false := decide_eq_false z2
  go_enter Tryd.func4, Tryd.ntmps4
  go_wp2_with (go_at_call 17; refine HAw.out.mono ?_; rintro e w1 ⟨rfl, hb1⟩; have HB1 := Lib.hid (pt (pa pr) hb1); clear hb1)
  go_ret
  exact ⟨rfl, HB1.out⟩

theorem firstV_head {x : Int} {l : List Int} (h : x ≠ 0) : firstV (x :: l) = x := if_neg h
/-- What HeightOf, AreaOf and BestSteps answer, way by way. -/
theorem cores_tree {d x0 x1 he hv ae av se sv : Int} {ws sl : List Int} (h1 : he = firstV [diamE d, unlessV (withinB x0 1 d) 2]) (h2 : hv = if he = 0 then hgt d x0 else 0)
    (h3 : ae = widthsE d ws) (h4 : av = if ae = 0 then areaD d ws else 0) (h5 : se = stepsE d ws x1) (h6 : (sl, sv) = if se = 0 then bestD d ws x1.toNat else ([], 0)) :
    (diamE d ≠ 0 ∧ he = diamE d ∧ hv = 0 ∧ ae = diamE d ∧ av = 0 ∧ se = diamE d ∧ sl = [] ∧ sv = 0) ∨
    (diamE d = 0 ∧ (withinB x0 1 d = false ∧ he = 2 ∧ hv = 0 ∨ withinB x0 1 d = true ∧ he = 0 ∧ hv = hgt d x0) ∧
      ((wE d ws ≠ 0 ∧ ae = wE d ws ∧ av = 0 ∧ se = wE d ws ∧ sl = [] ∧ sv = 0) ∨
       (wE d ws = 0 ∧ ae = 0 ∧ av = areaD d ws ∧
         (withinB x1 1 12 = false ∧ se = 2 ∧ sl = [] ∧ sv = 0 ∨ withinB x1 1 12 = true ∧ ws.length = 0 ∧ se = 10 ∧ sl = [] ∧ sv = 0 ∨ withinB x1 1 12 = true ∧ ws.length ≠ 0 ∧ se = 0 ∧ (sl, sv) = bestD d ws x1.toNat)))) := by
  by_cases hd : diamE d = 0
  · right
    refine ⟨hd, ?_, ?_⟩
    · cases hx : withinB x0 1 d
      · left
        rw [hd, hx] at h1
        have e : he = 2 := h1.trans (by decide)
        rw [e] at h2
        exact ⟨rfl, e, h2⟩
      · right
        rw [hd, hx] at h1
        have e : he = 0 := h1.trans (by decide)
        rw [e] at h2
        exact ⟨rfl, e, h2⟩
    · have hw : widthsE d ws = wE d ws := by unfold widthsE; rw [if_neg (by simp [hd])]
      rw [hw] at h3
      unfold stepsE at h5
      rw [hw] at h5
      by_cases hW : wE d ws = 0
      · right
        rw [hW] at h3 h5
        rw [h3] at h4
        refine ⟨hW, h3, h4, ?_⟩
        cases hx : withinB x1 1 12
        · left
          rw [hx] at h5
          have e : se = 2 := h5.trans (by unfold firstV; rw [if_pos rfl]; unfold firstV; rw [if_neg (by decide)]; rfl)
          rw [e] at h6
          have h7 : (sl, sv) = ([], 0) := h6
          injection h7 with h8 h9
          exact ⟨rfl, e, h8, h9⟩
        · right
          rw [hx] at h5
          by_cases hn : ws.length = 0
          · left
            rw [hn] at h5
            have e : se = 10 := h5.trans (by decide)
            rw [e] at h6
            have h7 : (sl, sv) = ([], 0) := h6
            injection h7 with h8 h9
            exact ⟨rfl, hn, e, h8, h9⟩
          · right
            rw [decide_eq_true (show 0 < ws.length by omega)] at h5
            have e : se = 0 := h5.trans (by decide)
            rw [e] at h6
            exact ⟨rfl, hn, e, h6⟩
      · left
        rw [firstV_head hW] at h5
        rw [h3, if_neg hW] at h4
        rw [h5, if_neg hW] at h6
        injection h6 with h8 h9
        exact ⟨hW, h3, h4, h5, h8, h9⟩
  · left
    have hw : widthsE d ws = diamE d := by unfold widthsE; rw [if_pos hd]
    rw [firstV_head hd] at h1
    unfold stepsE at h5
    rw [hw] at h3 h5
    rw [firstV_head hd] at h5
    rw [h1, if_neg hd] at h2
    rw [h3, if_neg hd] at h4
    rw [h5, if_neg hd] at h6
    injection h6 with h8 h9
    exact ⟨hd, h1, h2, h3, h4, h5, h8, h9⟩

set_option maxRecDepth 100000 in
set_option maxHeartbeats 16000000 in
theorem cores_on (B : Nat) (d : Int) (ws : List Int) (A : Option Addr) (n c : Nat) (x0 x1 : Int) (w : World) (hU : UnitIn w) (hQ : TabS 2 qWords w) (hW : TabS 0 uWords w) (hr : IntsIn B w A ws) (hB : B ≤ w.heap.size) (hn : ws.length = n) (hs : n ≤ 8 ∨ 13 ≤ n ∧ n ≤ 14) :
    Calls Tryd.prog 4 #[.int .i64 d, .slice A n c, .agg #[.int .i64 x0, .int .i64 x1]] w fun e w' => e = .returned (.bool true) ∧ Below w.heap.size w w' := by
  have HAw := Lib.hid (awake_any (w.alloc (.cells #[.int .i64 x0, .int .i64 x1] 40)) (hU.below (pa pr)) (hQ.below (pa pr)) (hW.below (pa pr)))
  have HDe := Lib.hid (fun W => refDiameterErr_any d W)
  have HWe := Lib.hid (fun W (hW : Below w.heap.size w W) => refWidthsErr_any B d ws A n c W (hr.below (hW.mono hB)) (Nat.le_trans hB hW.size) hn (by omega))
  have HCo := Lib.hid (fun W (hW : Below w.heap.size w W) => (copyInts_any B A n c ws W (hr.below (hW.mono hB)) hn (Nat.le_trans hB hW.size) (by omega)).mono (fun _ _ h => copy_formS h))
  have HHe := Lib.hid (fun W => HeightOf_any d x0 W)
  have HAr := Lib.hid (fun (W : World) (A' : Option Addr) (c' : Nat) (h : IntsIn W.heap.size W A' ws) => AreaOf_any W.heap.size d ws A' n c' W h (Nat.le_refl _) hn (by omega))
  have HBs := Lib.hid (fun (W : World) (A' : Option Addr) (c' : Nat) (h : IntsIn W.heap.size W A' ws) => bestSteps_any W.heap.size d ws A' n c' x1 W h (Nat.le_refl _) hn (by omega))
  have HsB := Lib.hid (show ((stepsB d ws x1).1, (stepsB d ws x1).2) = if stepsE d ws x1 = 0 then bestD d ws x1.toNat else ([], 0) from rfl)
  have H1 := Lib.hid (show firstV [diamE d, unlessV (withinB x0 1 d) 2] = firstV [diamE d, unlessV (withinB x0 1 d) 2] from rfl)
  have H2 := Lib.hid (show (if firstV [diamE d, unlessV (withinB x0 1 d) 2] = 0 then hgt d x0 else 0) = if firstV [diamE d, unlessV (withinB x0 1 d) 2] = 0 then hgt d x0 else 0 from rfl)
  have H3 := Lib.hid (show widthsE d ws = widthsE d ws from rfl)
  have H4 := Lib.hid (show (if widthsE d ws = 0 then areaD d ws else 0) = if widthsE d ws = 0 then areaD d ws else 0 from rfl)
  have H5 := Lib.hid (show stepsE d ws x1 = stepsE d ws x1 from rfl)
  have hT := cores_tree H1.out H2.out H3.out H4.out H5.out HsB.out
  rw [hn] at HCo
  have HR := Lib.hid hr
  have HN := Lib.hid hn
  clear hU hQ hW hr H1 H2 H3 H4 H5 HsB
  generalize (if firstV [diamE d, unlessV (withinB x0 1 d) 2] = 0 then hgt d x0 else 0) = hv at *
  generalize firstV [diamE d, unlessV (withinB x0 1 d) 2] = he at *
  generalize (if widthsE d ws = 0 then areaD d ws else 0) = av at *
  generalize widthsE d ws = ae at *
  generalize stepsE d ws x1 = se at *
  generalize (stepsB d ws x1).1 = sl at *
  generalize (stepsB d ws x1).2 = sv at *
  have HT := Lib.hid hT
  have HDm := Lib.hid (show diamE d = 0 → 1 ≤ d ∧ d ≤ 2000 from fun h => diamE_ok.1 h)
  have HOk := Lib.hid (show wE d ws = 0 → WidthsOk d ws ∧ n ≤ 12 from fun h => by rw [← hn]; exact wE_ok h)
  clear hT hn
  generalize diamE d = E at *
  generalize wE d ws = WW at *
  generalize hM : sl.length = m at *
  have HM := Lib.hid hM
  clear hM
  have R0 := Lib.hid (show Blk (w.alloc (.cells #[.int .i64 x0, .int .i64 x1] 40)) w.heap.size 40 #[.int .i64 x0, .int .i64 x1] from Blk.newAt rfl)
  have Bz := Lib.hid (show Below w.heap.size w (w.alloc (.cells #[.int .i64 x0, .int .i64 x1] 40)) from pa pr)
  by_cases h8 : 8 < n
  · have z1 : (8 : Int) < (n : Int) := by omega
    have z2 : ¬ (n : Int) ≤ 12 := by omega
    have z4 : decide ((n : Int) ≤ 12) = false := decide_eq_false z2
    have z3 : ¬ (14 : Int) < (n : Int) := by omega
    have M1 := Lib.hid trivial
    go_enter Tryd.func4, Tryd.ntmps4
    go_wp2_with (first
      | (go_at_call 17; refine HAw.out.mono ?_; rintro e w1 ⟨rfl, hb⟩; have R1 := Lib.hid (R0.out.past hb); have HB1 := Lib.hid (pt Bz.out hb); clear hb; have y0 := R1.out.cellAt 0 rfl; have y1 := R1.out.cellAt 1 rfl; have yl := R1.out.lt)
      | (go_at_call 14; refine (HHe.out _).mono ?_; rintro e w2 ⟨rfl, hb⟩; clear y0 y1 yl; have R2 := Lib.hid (R1.out.past hb); have HB2 := Lib.hid (pt HB1.out hb); clear hb; have y0 := R2.out.cellAt 0 rfl; have y1 := R2.out.cellAt 1 rfl; have yl := R2.out.lt)
      | (go_at_call 12; have hm1 := M1; clear M1 hm1; refine (HCo.out _ HB2.out).mono ?_; rintro e w3 ⟨A3, c3, rfl, hi, hb⟩; clear y0 y1 yl; have HI3 := Lib.hid hi; have R3 := Lib.hid (R2.out.past hb); have HB3 := Lib.hid (pt HB2.out hb); clear hi hb; have y0 := R3.out.cellAt 0 rfl; have y1 := R3.out.cellAt 1 rfl; have yl := R3.out.lt)
      | (go_at_call 13; refine (HAr.out _ _ _ HI3.out).mono ?_; rintro e w4 ⟨rfl, hb⟩; clear y0 y1 yl; have R4 := Lib.hid (R3.out.past hb); have HB4 := Lib.hid (pt HB3.out hb); clear hb; have y0 := R4.out.cellAt 0 rfl; have y1 := R4.out.cellAt 1 rfl; have yl := R4.out.lt))
    have HS := Lib.hid (show ∀ W, Hid (Below w4.heap.size w4 W) → Hid (Below w4.heap.size w4 W) ∧ W.cell? ⟨w.heap.size, 1, none⟩ = some (.int .i64 x1) from fun W hW => ⟨hW, (R4.out.past hW.out).cellAt 1 rfl⟩)
    clear y0
    go_region_held3 (fun w' => Hid (Below w4.heap.size w4 w') ∧ w'.cell? ⟨w.heap.size, 1, none⟩ = some (.int .i64 x1)) ((refine HS.out _ (Lib.hid ?_); repeat (first | assumption | (with_reducible exact pr) | (with_reducible refine pd ?_) | (with_reducible refine pa ?_) | (with_reducible refine pt ?_ (by assumption)))))
      ((first
        | (go_at_call 12; (with_reducible refine (HCo.out _ (pd HB4.out)).mono ?_); rintro e w5 ⟨A5, c5, rfl, hi5, hb5⟩; have HI5 := Lib.hid hi5)
        | (go_at_call 11; (with_reducible refine (HBs.out _ A5 c5 HI5.out).mono ?_); rintro e w6 ⟨A6, c6, rfl, hi6, hc6, hb6⟩; rw [HM.out]; have HI6 := Lib.hid hi6)))
    have HB6 := Lib.hid (show Below w.heap.size w w6 from pt (pt (pd HB4.out) hb5) hb6)
    have R6 := Lib.hid (R4.out.past (show Below w4.heap.size w4 w6 from pt (pt (pd pr) hb5) hb6))
    clear y1 yl
    have y0 := R6.out.cellAt 0 rfl
    have yl := R6.out.lt
    clear HS hb5 hb6 hi6 hi5 hc6 HAw HHe HAr HBs HCo HI5 z1 z3 R4 R3 R2 R1 R0 HB1 HB2 HB3 HB4 Bz HI3 z2 z4
    rcases HT.out with ⟨hd, he1, hv1, ae1, av1, se1, sl1, sv1⟩ | ⟨hd, hx, hy⟩
    · clear HT
      have hm0 : m = 0 := by rw [← HM.out, sl1]; rfl
      have hd1 : (E == 0) = false := by simpa using hd
      have hd2 : (E != 0) = true := by simpa using hd
      subst he1 hv1 ae1 av1 se1 sv1 hm0
      go_wp2_with (go_at_call 18; refine (HDe.out _).mono ?_; rintro e w' ⟨rfl, rfl⟩)
      go_ret
      exact ⟨rfl, HB6.out⟩
    · clear HT
      have hd2 := HDm.out hd
      subst hd
      rcases hx with ⟨hx, he1, hv1⟩ | ⟨hx, he1, hv1⟩
      · subst he1
        subst hv1
        rcases hy with ⟨hw, ae1, av1, se1, sl1, sv1⟩ | ⟨hw, ae1, av1, hz⟩
        · have hm0 : m = 0 := by rw [← HM.out, sl1]; rfl
          have hw1 : (WW == 0) = false := by simpa using hw
          have hw2 : (WW != 0) = true := by simpa using hw
          subst ae1 av1 se1 sv1 hm0
          go_wp2_with (first
            | (go_at_call 18; refine (HDe.out _).mono ?_; rintro e w' ⟨rfl, rfl⟩)
            | (go_at_call 8; refine (refWithin_any _ _ _ _).mono ?_; rintro e w' ⟨rfl, rfl⟩)
            | (go_at_call 9; refine (HWe.out _ HB6.out).mono ?_; rintro e w7 ⟨rfl, hb7⟩; have HB7 := Lib.hid (pt HB6.out hb7); have z1 := (R6.out.past hb7).cellAt 1 rfl; have zl := (R6.out.past hb7).lt; have HI7 := Lib.hid ((HI6.out.below hb7).more hb7.size); clear hb7))
          go_ret
          exact ⟨rfl, HB7.out⟩
        · exfalso
          have := (HOk.out hw).2
          omega
      · subst he1
        have hxb : 1 ≤ x0 ∧ x0 ≤ d := by simpa [withinB] using hx
        have HRh := Lib.hid (fun W => refHeightOf_any d x0 hxb.1 hxb.2 hd2.2 W)
        rw [← hv1] at HRh
        clear hv1 hxb
        rcases hy with ⟨hw, ae1, av1, se1, sl1, sv1⟩ | ⟨hw, ae1, av1, hz⟩
        · have hm0 : m = 0 := by rw [← HM.out, sl1]; rfl
          have hw1 : (WW == 0) = false := by simpa using hw
          have hw2 : (WW != 0) = true := by simpa using hw
          subst ae1 av1 se1 sv1 hm0
          go_wp2_with (first
            | (go_at_call 18; refine (HDe.out _).mono ?_; rintro e w' ⟨rfl, rfl⟩)
            | (go_at_call 8; refine (refWithin_any _ _ _ _).mono ?_; rintro e w' ⟨rfl, rfl⟩)
            | (go_at_call 19; refine (HRh.out _).mono ?_; rintro e w' ⟨rfl, rfl⟩)
            | (go_at_call 9; refine (HWe.out _ HB6.out).mono ?_; rintro e w7 ⟨rfl, hb7⟩; have HB7 := Lib.hid (pt HB6.out hb7); have z1 := (R6.out.past hb7).cellAt 1 rfl; have zl := (R6.out.past hb7).lt; have HI7 := Lib.hid ((HI6.out.below hb7).more hb7.size); clear hb7))
          go_ret
          exact ⟨rfl, HB7.out⟩
        · exfalso
          have := (HOk.out hw).2
          omega
  · have z1 : ¬ (8 : Int) < (n : Int) := by omega
    have z3 : ¬ (14 : Int) < (n : Int) := by omega
    have M1 := Lib.hid trivial
    go_enter Tryd.func4, Tryd.ntmps4
    go_wp2_with (first
      | (go_at_call 17; refine HAw.out.mono ?_; rintro e w1 ⟨rfl, hb⟩; have R1 := Lib.hid (R0.out.past hb); have HB1 := Lib.hid (pt Bz.out hb); clear hb; have y0 := R1.out.cellAt 0 rfl; have y1 := R1.out.cellAt 1 rfl; have yl := R1.out.lt)
      | (go_at_call 14; refine (HHe.out _).mono ?_; rintro e w2 ⟨rfl, hb⟩; clear y0 y1 yl; have R2 := Lib.hid (R1.out.past hb); have HB2 := Lib.hid (pt HB1.out hb); clear hb; have y0 := R2.out.cellAt 0 rfl; have y1 := R2.out.cellAt 1 rfl; have yl := R2.out.lt)
      | (go_at_call 12; have hm1 := M1; clear M1 hm1; refine (HCo.out _ HB2.out).mono ?_; rintro e w3 ⟨A3, c3, rfl, hi, hb⟩; clear y0 y1 yl; have HI3 := Lib.hid hi; have R3 := Lib.hid (R2.out.past hb); have HB3 := Lib.hid (pt HB2.out hb); clear hi hb; have y0 := R3.out.cellAt 0 rfl; have y1 := R3.out.cellAt 1 rfl; have yl := R3.out.lt)
      | (go_at_call 13; refine (HAr.out _ _ _ HI3.out).mono ?_; rintro e w4 ⟨rfl, hb⟩; clear y0 y1 yl; have R4 := Lib.hid (R3.out.past hb); have HB4 := Lib.hid (pt HB3.out hb); clear hb; have y0 := R4.out.cellAt 0 rfl; have y1 := R4.out.cellAt 1 rfl; have yl := R4.out.lt))
    have HS := Lib.hid (show ∀ W, Hid (Below w4.heap.size w4 W) → Hid (Below w4.heap.size w4 W) ∧ W.cell? ⟨w.heap.size, 1, none⟩ = some (.int .i64 x1) from fun W hW => ⟨hW, (R4.out.past hW.out).cellAt 1 rfl⟩)
    clear y0
    go_region_held3 (fun w' => Hid (Below w4.heap.size w4 w') ∧ w'.cell? ⟨w.heap.size, 1, none⟩ = some (.int .i64 x1)) ((refine HS.out _ (Lib.hid ?_); repeat (first | assumption | (with_reducible exact pr) | (with_reducible refine pd ?_) | (with_reducible refine pa ?_) | (with_reducible refine pt ?_ (by assumption)))))
      ((first
        | (go_at_call 12; (with_reducible refine (HCo.out _ (pd HB4.out)).mono ?_); rintro e w5 ⟨A5, c5, rfl, hi5, hb5⟩; have HI5 := Lib.hid hi5)
        | (go_at_call 11; (with_reducible refine (HBs.out _ A5 c5 HI5.out).mono ?_); rintro e w6 ⟨A6, c6, rfl, hi6, hc6, hb6⟩; rw [HM.out]; have HI6 := Lib.hid hi6)))
    have HB6 := Lib.hid (show Below w.heap.size w w6 from pt (pt (pd HB4.out) hb5) hb6)
    have R6 := Lib.hid (R4.out.past (show Below w4.heap.size w4 w6 from pt (pt (pd pr) hb5) hb6))
    clear y1 yl
    have y0 := R6.out.cellAt 0 rfl
    have yl := R6.out.lt
    clear HS hb5 hb6 hi6 hi5 hc6 HAw HHe HAr HBs HCo HI5 z1 z3 R4 R3 R2 R1 R0 HB1 HB2 HB3 HB4 Bz HI3
    rcases HT.out with ⟨hd, he1, hv1, ae1, av1, se1, sl1, sv1⟩ | ⟨hd, hx, hy⟩
    · clear HT
      have hm0 : m = 0 := by rw [← HM.out, sl1]; rfl
      have hd1 : (E == 0) = false := by simpa using hd
      have hd2 : (E != 0) = true := by simpa using hd
      subst he1 hv1 ae1 av1 se1 sv1 hm0
      go_wp2_with (go_at_call 18; refine (HDe.out _).mono ?_; rintro e w' ⟨rfl, rfl⟩)
      go_ret
      exact ⟨rfl, HB6.out⟩
    · clear HT
      have hd2 := HDm.out hd
      subst hd
      rcases hx with ⟨hx, he1, hv1⟩ | ⟨hx, he1, hv1⟩
      · subst he1
        subst hv1
        rcases hy with ⟨hw, ae1, av1, se1, sl1, sv1⟩ | ⟨hw, ae1, av1, hz⟩
        · have hm0 : m = 0 := by rw [← HM.out, sl1]; rfl
          have hw1 : (WW == 0) = false := by simpa using hw
          have hw2 : (WW != 0) = true := by simpa using hw
          subst ae1 av1 se1 sv1 hm0
          go_wp2_with (first
            | (go_at_call 18; refine (HDe.out _).mono ?_; rintro e w' ⟨rfl, rfl⟩)
            | (go_at_call 8; refine (refWithin_any _ _ _ _).mono ?_; rintro e w' ⟨rfl, rfl⟩)
            | (go_at_call 9; refine (HWe.out _ HB6.out).mono ?_; rintro e w7 ⟨rfl, hb7⟩; have HB7 := Lib.hid (pt HB6.out hb7); have z1 := (R6.out.past hb7).cellAt 1 rfl; have zl := (R6.out.past hb7).lt; have HI7 := Lib.hid ((HI6.out.below hb7).more hb7.size); clear hb7))
          go_ret
          exact ⟨rfl, HB7.out⟩
        · have hok := (HOk.out hw).1
          subst hw ae1
          have HRa := Lib.hid (fun W (hW : Below w.heap.size w W) => refAreaOf_any B d ws A n c W (HR.out.below (hW.mono hB)) HN.out (by omega) hd2 hok)
          rw [← av1] at HRa
          have HOk2 := Lib.hid hok
          clear av1 hok
          rcases hz with ⟨hx1, se1, sl1, sv1⟩ | ⟨hx1, hn0, se1, sl1, sv1⟩ | ⟨hx1, hn0, se1, sb1⟩
          · have hm0 : m = 0 := by rw [← HM.out, sl1]; rfl
            subst se1 sv1 hm0
            go_wp2_with (first
              | (go_at_call 18; refine (HDe.out _).mono ?_; rintro e w' ⟨rfl, rfl⟩)
              | (go_at_call 8; refine (refWithin_any _ _ _ _).mono ?_; rintro e w' ⟨rfl, rfl⟩)
              | (go_at_call 9; refine (HWe.out _ HB6.out).mono ?_; rintro e w7 ⟨rfl, hb7⟩; have HB7 := Lib.hid (pt HB6.out hb7); have z1 := (R6.out.past hb7).cellAt 1 rfl; have zl := (R6.out.past hb7).lt; have HI7 := Lib.hid ((HI6.out.below hb7).more hb7.size); clear hb7)
              | (go_at_call 20; refine (HRa.out _ HB7.out).mono ?_; rintro e w' ⟨rfl, rfl⟩))
            go_ret
            exact ⟨rfl, HB7.out⟩
          · have hm0 : m = 0 := by rw [← HM.out, sl1]; rfl
            have hn2 : ((n : Int) == 0) = true := beq_iff_eq.2 (by have := HN.out; omega)
            clear hn0
            subst se1 sv1 hm0
            go_wp2_with (first
              | (go_at_call 18; refine (HDe.out _).mono ?_; rintro e w' ⟨rfl, rfl⟩)
              | (go_at_call 8; refine (refWithin_any _ _ _ _).mono ?_; rintro e w' ⟨rfl, rfl⟩)
              | (go_at_call 9; refine (HWe.out _ HB6.out).mono ?_; rintro e w7 ⟨rfl, hb7⟩; have HB7 := Lib.hid (pt HB6.out hb7); have z1 := (R6.out.past hb7).cellAt 1 rfl; have zl := (R6.out.past hb7).lt; have HI7 := Lib.hid ((HI6.out.below hb7).more hb7.size); clear hb7)
              | (go_at_call 20; refine (HRa.out _ HB7.out).mono ?_; rintro e w' ⟨rfl, rfl⟩))
            go_ret
            exact ⟨rfl, HB7.out⟩
          · have hxm : 1 ≤ x1 ∧ x1 ≤ 12 := by simpa [withinB] using hx1
            have hn1 : ¬ n = 0 := by rw [← HN.out]; exact hn0
            have hn2 : ((n : Int) == 0) = false := beq_eq_false_iff_ne.2 (by omega)
            have hsl : sl.length ≤ 12 := by
              have h := (best_facts (d := d) (ws := ws) (most := x1.toNat) hd2.1 HOk2.out).2.2.1
              rw [← sb1] at h
              have h : sl.length ≤ x1.toNat := h
              omega
            have HIn := Lib.hid (fun (W : World) A1 A2 c1 c2 (h1 : IntsIn W.heap.size W A1 sl) (h2 : IntsIn W.heap.size W A2 sl) => (show Calls Tryd.prog 22 #[.slice A1 m c1, .slice A2 m c2] W fun e w' => e = .returned (.bool true) ∧ Below W.heap.size W w' by
              have h := ints_any W.heap.size A1 A2 c1 c2 sl sl W h1 h2 (by omega)
              rw [HM.out, show intsB sl sl = true by simp [intsB]] at h
              exact h))
            obtain ⟨mt, rfl⟩ : ∃ mt : Nat, x1 = (mt : Int) := ⟨x1.toNat, by omega⟩
            rw [Int.toNat_natCast] at sb1
            have HRb := Lib.hid (fun W (hW : Below w.heap.size w W) => (show Calls Tryd.prog 21 #[.int .i64 d, .slice A n c, .int .i64 (mt : Int)] W fun e w' => ∃ A2 c2, e = .returned (.tuple #[.slice A2 m c2, .int .i64 sv]) ∧ IntsIn w'.heap.size w' A2 sl ∧ Below W.heap.size W w' by
              have h := refBestSteps_any B d ws A n c mt W (HR.out.below (hW.mono hB)) (Nat.le_trans hB hW.size) HN.out (by omega) hd2 HOk2.out (by omega)
              rw [← HN.out, bu_best, ← sb1] at h
              rw [← HM.out, ← HN.out]
              exact h))
            clear hsl hn1 hxm sb1
            subst se1
            go_wp2_with (first
              | (go_at_call 18; refine (HDe.out _).mono ?_; rintro e w' ⟨rfl, rfl⟩)
              | (go_at_call 8; refine (refWithin_any _ _ _ _).mono ?_; rintro e w' ⟨rfl, rfl⟩)
              | (go_at_call 9; refine (HWe.out _ HB6.out).mono ?_; rintro e w7 ⟨rfl, hb7⟩; have HB7 := Lib.hid (pt HB6.out hb7); have z1 := (R6.out.past hb7).cellAt 1 rfl; have zl := (R6.out.past hb7).lt; have HI7 := Lib.hid ((HI6.out.below hb7).more hb7.size); clear hb7)
              | (go_at_call 20; refine (HRa.out _ HB7.out).mono ?_; rintro e w' ⟨rfl, rfl⟩)
              | (go_at_call 21; refine (HRb.out _ HB7.out).mono ?_; rintro e w8 ⟨A8, c8, rfl, hi8, hb8⟩; have HI8 := Lib.hid hi8; have HB8 := Lib.hid (pt HB7.out hb8); have HI78 := Lib.hid ((HI7.out.below hb8).more hb8.size); clear hi8 hb8)
              | (go_at_call 22; refine (HIn.out _ _ _ _ _ HI78.out HI8.out).mono ?_; rintro e w9 ⟨rfl, hb9⟩; have HB9 := Lib.hid (pt HB8.out hb9); clear hb9))
            go_ret
            exact ⟨rfl, HB9.out⟩
      · subst he1
        have hxb : 1 ≤ x0 ∧ x0 ≤ d := by simpa [withinB] using hx
        have HRh := Lib.hid (fun W => refHeightOf_any d x0 hxb.1 hxb.2 hd2.2 W)
        rw [← hv1] at HRh
        clear hv1 hxb
        rcases hy with ⟨hw, ae1, av1, se1, sl1, sv1⟩ | ⟨hw, ae1, av1, hz⟩
        · have hm0 : m = 0 := by rw [← HM.out, sl1]; rfl
          have hw1 : (WW == 0) = false := by simpa using hw
          have hw2 : (WW != 0) = true := by simpa using hw
          subst ae1 av1 se1 sv1 hm0
          go_wp2_with (first
            | (go_at_call 18; refine (HDe.out _).mono ?_; rintro e w' ⟨rfl, rfl⟩)
            | (go_at_call 8; refine (refWithin_any _ _ _ _).mono ?_; rintro e w' ⟨rfl, rfl⟩)
            | (go_at_call 19; refine (HRh.out _).mono ?_; rintro e w' ⟨rfl, rfl⟩)
            | (go_at_call 9; refine (HWe.out _ HB6.out).mono ?_; rintro e w7 ⟨rfl, hb7⟩; have HB7 := Lib.hid (pt HB6.out hb7); have z1 := (R6.out.past hb7).cellAt 1 rfl; have zl := (R6.out.past hb7).lt; have HI7 := Lib.hid ((HI6.out.below hb7).more hb7.size); clear hb7))
          go_ret
          exact ⟨rfl, HB7.out⟩
        · have hok := (HOk.out hw).1
          subst hw ae1
          have HRa := Lib.hid (fun W (hW : Below w.heap.size w W) => refAreaOf_any B d ws A n c W (HR.out.below (hW.mono hB)) HN.out (by omega) hd2 hok)
          rw [← av1] at HRa
          have HOk2 := Lib.hid hok
          clear av1 hok
          rcases hz with ⟨hx1, se1, sl1, sv1⟩ | ⟨hx1, hn0, se1, sl1, sv1⟩ | ⟨hx1, hn0, se1, sb1⟩
          · have hm0 : m = 0 := by rw [← HM.out, sl1]; rfl
            subst se1 sv1 hm0
            go_wp2_with (first
              | (go_at_call 18; refine (HDe.out _).mono ?_; rintro e w' ⟨rfl, rfl⟩)
              | (go_at_call 8; refine (refWithin_any _ _ _ _).mono ?_; rintro e w' ⟨rfl, rfl⟩)
              | (go_at_call 19; refine (HRh.out _).mono ?_; rintro e w' ⟨rfl, rfl⟩)
              | (go_at_call 9; refine (HWe.out _ HB6.out).mono ?_; rintro e w7 ⟨rfl, hb7⟩; have HB7 := Lib.hid (pt HB6.out hb7); have z1 := (R6.out.past hb7).cellAt 1 rfl; have zl := (R6.out.past hb7).lt; have HI7 := Lib.hid ((HI6.out.below hb7).more hb7.size); clear hb7)
              | (go_at_call 20; refine (HRa.out _ HB7.out).mono ?_; rintro e w' ⟨rfl, rfl⟩))
            go_ret
            exact ⟨rfl, HB7.out⟩
          · have hm0 : m = 0 := by rw [← HM.out, sl1]; rfl
            have hn2 : ((n : Int) == 0) = true := beq_iff_eq.2 (by have := HN.out; omega)
            clear hn0
            subst se1 sv1 hm0
            go_wp2_with (first
              | (go_at_call 18; refine (HDe.out _).mono ?_; rintro e w' ⟨rfl, rfl⟩)
              | (go_at_call 8; refine (refWithin_any _ _ _ _).mono ?_; rintro e w' ⟨rfl, rfl⟩)
              | (go_at_call 19; refine (HRh.out _).mono ?_; rintro e w' ⟨rfl, rfl⟩)
              | (go_at_call 9; refine (HWe.out _ HB6.out).mono ?_; rintro e w7 ⟨rfl, hb7⟩; have HB7 := Lib.hid (pt HB6.out hb7); have z1 := (R6.out.past hb7).cellAt 1 rfl; have zl := (R6.out.past hb7).lt; have HI7 := Lib.hid ((HI6.out.below hb7).more hb7.size); clear hb7)
              | (go_at_call 20; refine (HRa.out _ HB7.out).mono ?_; rintro e w' ⟨rfl, rfl⟩))
            go_ret
            exact ⟨rfl, HB7.out⟩
          · have hxm : 1 ≤ x1 ∧ x1 ≤ 12 := by simpa [withinB] using hx1
            have hn1 : ¬ n = 0 := by rw [← HN.out]; exact hn0
            have hn2 : ((n : Int) == 0) = false := beq_eq_false_iff_ne.2 (by omega)
            have hsl : sl.length ≤ 12 := by
              have h := (best_facts (d := d) (ws := ws) (most := x1.toNat) hd2.1 HOk2.out).2.2.1
              rw [← sb1] at h
              have h : sl.length ≤ x1.toNat := h
              omega
            have HIn := Lib.hid (fun (W : World) A1 A2 c1 c2 (h1 : IntsIn W.heap.size W A1 sl) (h2 : IntsIn W.heap.size W A2 sl) => (show Calls Tryd.prog 22 #[.slice A1 m c1, .slice A2 m c2] W fun e w' => e = .returned (.bool true) ∧ Below W.heap.size W w' by
              have h := ints_any W.heap.size A1 A2 c1 c2 sl sl W h1 h2 (by omega)
              rw [HM.out, show intsB sl sl = true by simp [intsB]] at h
              exact h))
            obtain ⟨mt, rfl⟩ : ∃ mt : Nat, x1 = (mt : Int) := ⟨x1.toNat, by omega⟩
            rw [Int.toNat_natCast] at sb1
            have HRb := Lib.hid (fun W (hW : Below w.heap.size w W) => (show Calls Tryd.prog 21 #[.int .i64 d, .slice A n c, .int .i64 (mt : Int)] W fun e w' => ∃ A2 c2, e = .returned (.tuple #[.slice A2 m c2, .int .i64 sv]) ∧ IntsIn w'.heap.size w' A2 sl ∧ Below W.heap.size W w' by
              have h := refBestSteps_any B d ws A n c mt W (HR.out.below (hW.mono hB)) (Nat.le_trans hB hW.size) HN.out (by omega) hd2 HOk2.out (by omega)
              rw [← HN.out, bu_best, ← sb1] at h
              rw [← HM.out, ← HN.out]
              exact h))
            clear hsl hn1 hxm sb1
            subst se1
            go_wp2_with (first
              | (go_at_call 18; refine (HDe.out _).mono ?_; rintro e w' ⟨rfl, rfl⟩)
              | (go_at_call 8; refine (refWithin_any _ _ _ _).mono ?_; rintro e w' ⟨rfl, rfl⟩)
              | (go_at_call 19; refine (HRh.out _).mono ?_; rintro e w' ⟨rfl, rfl⟩)
              | (go_at_call 9; refine (HWe.out _ HB6.out).mono ?_; rintro e w7 ⟨rfl, hb7⟩; have HB7 := Lib.hid (pt HB6.out hb7); have z1 := (R6.out.past hb7).cellAt 1 rfl; have zl := (R6.out.past hb7).lt; have HI7 := Lib.hid ((HI6.out.below hb7).more hb7.size); clear hb7)
              | (go_at_call 20; refine (HRa.out _ HB7.out).mono ?_; rintro e w' ⟨rfl, rfl⟩)
              | (go_at_call 21; refine (HRb.out _ HB7.out).mono ?_; rintro e w8 ⟨A8, c8, rfl, hi8, hb8⟩; have HI8 := Lib.hid hi8; have HB8 := Lib.hid (pt HB7.out hb8); have HI78 := Lib.hid ((HI7.out.below hb8).more hb8.size); clear hi8 hb8)
              | (go_at_call 22; refine (HIn.out _ _ _ _ _ HI78.out HI8.out).mono ?_; rintro e w9 ⟨rfl, hb9⟩; have HB9 := Lib.hid (pt HB8.out hb9); clear hb9))
            go_ret
            exact ⟨rfl, HB9.out⟩

theorem designCores_any (B : Nat) (d : Int) (ws : List Int) (A : Option Addr) (n c : Nat) (x0 x1 : Int) (w : World) (hU : UnitIn w) (hQ : TabS 2 qWords w) (hW : TabS 0 uWords w) (hr : IntsIn B w A ws) (hB : B ≤ w.heap.size) (hn : ws.length = n) :
    Calls Tryd.prog 4 #[.int .i64 d, .slice A n c, .agg #[.int .i64 x0, .int .i64 x1]] w fun e w' => e = .returned (.bool true) ∧ Below w.heap.size w w' := by
  by_cases h14 : 14 < n
  · exact cores_many B d ws A n c x0 x1 w hU hQ hW hr hB hn h14
  · by_cases h8 : 8 < n ∧ n ≤ 12
    · exact cores_some B d ws A n c x0 x1 w hU hQ hW hr hB hn h8.1 h8.2
    · exact cores_on B d ws A n c x0 x1 w hU hQ hW hr hB hn (by omega)

end Go.Proofs.YtabbehmodmmgoaaDoor
end
