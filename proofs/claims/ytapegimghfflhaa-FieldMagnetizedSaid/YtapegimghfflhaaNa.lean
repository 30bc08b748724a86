/- Contracts: DropAt, FluxFor (package field). Printed by a program (gen_f1at.py). -/
import Derived.Test.YtapegimghfflhaaMi

section
namespace Go.Proofs.Ytapegimghfflhaa
open Go.RowKit

/-- The drop at a flux, or the error; the flux for a gap and ampere turns, or the error. -/
def dropE1 (cv : List DTerm) (flux : Int) : Int := firstV [(curveC cv).2, unlessV (withinB flux (-100000) 100000) 2]
def dropE (cv : List DTerm) (flux : Int) : Int × Int × Int := if dropE1 cv flux ≠ 0 then (0, 0, dropE1 cv flux) else dropV cv flux
def flxE1 (cv : List DTerm) (gap t : Int) : Int := firstV [(curveC cv).2, unlessV (withinB gap 0 20 && withinB t (-100000) 100000) 2]
def flxE (cv : List DTerm) (gap t : Int) : Int × Int × Int := if flxE1 cv gap t ≠ 0 then (0, 0, flxE1 cv gap t) else flxV cv gap t

set_option maxHeartbeats 4000000 in
set_option maxRecDepth 100000 in
theorem DropAt_any (B : Nat) (cv : List DTerm) (A : Option Addr) (n c : Nat) (flux : Int) (w : World) (hr : CellsIn B w A (termsC cv)) (hB : B ≤ w.heap.size) (hn : cv.length = n) (hm : n ≤ 1000) :
    Calls Try.prog 8 #[.agg #[.slice A n c], .int .i64 flux] w fun e w' => e = .returned (.tuple #[.agg #[.int .i64 (dropE cv flux).1, .int .i64 (dropE cv flux).2.1], .int .i64 (dropE cv flux).2.2]) ∧ Below w.heap.size w w' := by
  have HC := Lib.hid (fun W (hW : Below w.heap.size w W) => curveErrFd_any B cv A n c W (hr.below (hW.mono hB)) (Nat.le_trans hB hW.size) hn hm)
  have HT := Lib.hid (show dropE cv flux = if dropE1 cv flux ≠ 0 then (0, 0, dropE1 cv flux) else dropV cv flux from rfl)
  have HV := Lib.hid (show firstV [(curveC cv).2, unlessV (withinB flux (-100000) 100000) 2] = dropE1 cv flux from rfl)
  by_cases hE : dropE1 cv flux = 0
  · have hE2 := hE
    unfold dropE1 at hE2
    obtain ⟨e1, e2⟩ := firstV_zero.1 hE2
    have e2 := (unless_ne (by decide)).1 (firstV_zero.1 e2).1
    have hok := curve_ok e1
    have hpt := curve_pts hok
    unfold withinB at e2
    simp only [Bool.and_eq_true, decide_eq_true_eq] at e2
    by_cases h0 : flux < 0
    · have HX := Lib.hid (show dropE cv flux = fracV (-(dropF (-flux) (pieceL cv)).1) (dropF (-flux) (pieceL cv)).2 from by rw [HT.out, if_neg (by simpa using hE)]; unfold dropV; rw [if_pos h0])
      have hbd := drop_bd hok (show 0 ≤ (-flux) by omega) (by omega)
      have HD := Lib.hid (fun W (hW : Below w.heap.size w W) => drop_any B cv A n c (-flux) W (hr.below (hW.mono hB)) (Nat.le_trans hB hW.size) hn hpt (by omega))
      rw [hE] at HV
      rw [HX.out]
      clear HT HX hE hE2 e1 hok hpt hr hn
      generalize dropF (-flux) (pieceL cv) = Y at *
      have HF := Lib.hid (fun W => fractionFd_any (-Y.1) Y.2 (by unfold WF; omega) (by omega) (by unfold SmF; omega) W)
      generalize fracV (-Y.1) Y.2 = V at *
      have hw1 : IntKind.i64.wrap (-flux) = -flux := IntWalk.i64_in _ (by omega)
      have hw2 : wrap64 (-flux) = -flux := w64 (by omega)
      have hw3 : IntKind.i64.wrap (-Y.1) = -Y.1 := IntWalk.i64_in _ (by omega)
      have hw4 : wrap64 (-Y.1) = -Y.1 := w64 (by omega)
      go_enter Try.func8, Try.ntmps8
      have HB0 := Lib.hid (show Below w.heap.size w ((w.alloc (.cells #[.slice A n c] 24)).alloc (.cells #[.int .i64 0, .int .i64 0] 32)) from pa (pa pr))
      have R0 := Lib.hid (show Blk ((w.alloc (.cells #[.slice A n c] 24)).alloc (.cells #[.int .i64 0, .int .i64 0] 32)) w.heap.size 24 #[.slice A n c] from (Blk.newAt rfl).alloc)
      have Z0 := Lib.hid (show Blk ((w.alloc (.cells #[.slice A n c] 24)).alloc (.cells #[.int .i64 0, .int .i64 0] 32)) (w.heap.size + 1) 32 #[.int .i64 0, .int .i64 0] from Blk.newAt (by simp))
      have x0 := R0.out.cellAt 0 rfl
      have xl := R0.out.lt
      go_wp2_with (first
        | (go_at_call 26; refine (HC.out _ HB0.out).mono ?_; rintro e w1 ⟨rfl, hb1⟩; have HB1 := Lib.hid (pt HB0.out hb1); have Z1 := Lib.hid (Z0.out.past hb1); have R1 := Lib.hid (R0.out.past hb1); clear x0 xl hb1; have x0 := R1.out.cellAt 0 rfl; have xl := R1.out.lt; have zl := Z1.out.lt)
        | (go_at_call 28; refine (isSizedFd_any _ _ (by decide) (by decide) _).mono ?_; rintro e w' ⟨rfl, rfl⟩)
        | (go_at_call 31; refine (withinFd_any _ _ _ _).mono ?_; rintro e w' ⟨rfl, rfl⟩)
        | (go_at_call 27; refine (unlessFd_any _ _ _).mono ?_; rintro e w' ⟨rfl, rfl⟩)
        | (go_at_call 25; refine (first2Fd _ _ _ _ _ (by first | (go_simp; done) | (go_simp; rfl)) (by first | (go_simp; done) | (go_simp; rfl)) _ HV.out).mono ?_; rintro e w' ⟨rfl, rfl⟩)
        | (go_at_call 29; refine (HD.out _ (pa HB1.out)).mono ?_; rintro e w2 ⟨rfl, hb2⟩; have HB2 := Lib.hid (pt (pa HB1.out) hb2); have Z2 := Lib.hid (Z1.out.alloc.past hb2); clear hb2)
        | (go_at_call 30; refine (HF.out _).mono ?_; rintro e w3 ⟨rfl, hb3⟩; have HB3 := Lib.hid (pt HB2.out hb3); have Z3 := Lib.hid (Z2.out.past hb3); have zl3 := Z3.out.lt; clear hb3)
        | ((with_reducible refine store_blk (T := 32) (x := .tmp 4) (y := .tmp 33) (vs := #[.int .i64 V.1, .int .i64 V.2.1]) Z3.out ?_ ?_ ?_ ?_ ?_ ?_); (focus rfl); (focus exact frac_size); (focus (simp [Value.oneCell']; done)); (focus (first | rfl | (go_simp; done))); (focus (first | rfl | (go_simp; done))); intro WF_ RF PF))
      have r0 := RF.cellAt 0 rfl
      have r1 := RF.cellAt 1 rfl
      refine bodyPost_ret (v := .tuple #[.agg #[.int .i64 V.1, .int .i64 V.2.1], .int .i64 V.2.2]) (by simp [results, Try.results8, go_sem, r0, r1]) rfl ?_
      exact ⟨rfl, pp HB3.out PF (by omega)⟩
    
    · have HX := Lib.hid (show dropE cv flux = fracV ((dropF (flux) (pieceL cv)).1) (dropF (flux) (pieceL cv)).2 from by rw [HT.out, if_neg (by simpa using hE)]; unfold dropV; rw [if_neg h0])
      have hbd := drop_bd hok (show 0 ≤ (flux) by omega) (by omega)
      have HD := Lib.hid (fun W (hW : Below w.heap.size w W) => drop_any B cv A n c (flux) W (hr.below (hW.mono hB)) (Nat.le_trans hB hW.size) hn hpt (by omega))
      rw [hE] at HV
      rw [HX.out]
      clear HT HX hE hE2 e1 hok hpt hr hn
      generalize dropF (flux) (pieceL cv) = Y at *
      have HF := Lib.hid (fun W => fractionFd_any (Y.1) Y.2 (by unfold WF; omega) (by omega) (by unfold SmF; omega) W)
      generalize fracV (Y.1) Y.2 = V at *
      have hw1 : IntKind.i64.wrap (-flux) = -flux := IntWalk.i64_in _ (by omega)
      have hw2 : wrap64 (-flux) = -flux := w64 (by omega)
      have hw3 : IntKind.i64.wrap (-Y.1) = -Y.1 := IntWalk.i64_in _ (by omega)
      have hw4 : wrap64 (-Y.1) = -Y.1 := w64 (by omega)
      go_enter Try.func8, Try.ntmps8
      have HB0 := Lib.hid (show Below w.heap.size w ((w.alloc (.cells #[.slice A n c] 24)).alloc (.cells #[.int .i64 0, .int .i64 0] 32)) from pa (pa pr))
      have R0 := Lib.hid (show Blk ((w.alloc (.cells #[.slice A n c] 24)).alloc (.cells #[.int .i64 0, .int .i64 0] 32)) w.heap.size 24 #[.slice A n c] from (Blk.newAt rfl).alloc)
      have Z0 := Lib.hid (show Blk ((w.alloc (.cells #[.slice A n c] 24)).alloc (.cells #[.int .i64 0, .int .i64 0] 32)) (w.heap.size + 1) 32 #[.int .i64 0, .int .i64 0] from Blk.newAt (by simp))
      have x0 := R0.out.cellAt 0 rfl
      have xl := R0.out.lt
      go_wp2_with (first
        | (go_at_call 26; refine (HC.out _ HB0.out).mono ?_; rintro e w1 ⟨rfl, hb1⟩; have HB1 := Lib.hid (pt HB0.out hb1); have Z1 := Lib.hid (Z0.out.past hb1); have R1 := Lib.hid (R0.out.past hb1); clear x0 xl hb1; have x0 := R1.out.cellAt 0 rfl; have xl := R1.out.lt; have zl := Z1.out.lt)
        | (go_at_call 28; refine (isSizedFd_any _ _ (by decide) (by decide) _).mono ?_; rintro e w' ⟨rfl, rfl⟩)
        | (go_at_call 31; refine (withinFd_any _ _ _ _).mono ?_; rintro e w' ⟨rfl, rfl⟩)
        | (go_at_call 27; refine (unlessFd_any _ _ _).mono ?_; rintro e w' ⟨rfl, rfl⟩)
        | (go_at_call 25; refine (first2Fd _ _ _ _ _ (by first | (go_simp; done) | (go_simp; rfl)) (by first | (go_simp; done) | (go_simp; rfl)) _ HV.out).mono ?_; rintro e w' ⟨rfl, rfl⟩)
        | (go_at_call 29; refine (HD.out _ (pa HB1.out)).mono ?_; rintro e w2 ⟨rfl, hb2⟩; have HB2 := Lib.hid (pt (pa HB1.out) hb2); have Z2 := Lib.hid (Z1.out.alloc.past hb2); clear hb2)
        | (go_at_call 30; refine (HF.out _).mono ?_; rintro e w3 ⟨rfl, hb3⟩; have HB3 := Lib.hid (pt HB2.out hb3); have Z3 := Lib.hid (Z2.out.past hb3); have zl3 := Z3.out.lt; clear hb3)
        | ((with_reducible refine store_blk (T := 32) (x := .tmp 4) (y := .tmp 41) (vs := #[.int .i64 V.1, .int .i64 V.2.1]) Z3.out ?_ ?_ ?_ ?_ ?_ ?_); (focus rfl); (focus exact frac_size); (focus (simp [Value.oneCell']; done)); (focus (first | rfl | (go_simp; done))); (focus (first | rfl | (go_simp; done))); intro WF_ RF PF))
      have r0 := RF.cellAt 0 rfl
      have r1 := RF.cellAt 1 rfl
      refine bodyPost_ret (v := .tuple #[.agg #[.int .i64 V.1, .int .i64 V.2.1], .int .i64 V.2.2]) (by simp [results, Try.results8, go_sem, r0, r1]) rfl ?_
      exact ⟨rfl, pp HB3.out PF (by omega)⟩
  · have HE := Lib.hid (show dropE cv flux = (0, 0, dropE1 cv flux) from by rw [HT.out, if_pos hE])
    rw [HE.out]
    clear HT HE hr hn
    generalize dropE1 cv flux = E1 at *
    have he1 : (E1 == 0) = false := by simpa using hE
    have he2 : (E1 != 0) = true := by simpa using hE
    go_enter Try.func8, Try.ntmps8
    have HB0 := Lib.hid (show Below w.heap.size w ((w.alloc (.cells #[.slice A n c] 24)).alloc (.cells #[.int .i64 0, .int .i64 0] 32)) from pa (pa pr))
    have R0 := Lib.hid (show Blk ((w.alloc (.cells #[.slice A n c] 24)).alloc (.cells #[.int .i64 0, .int .i64 0] 32)) w.heap.size 24 #[.slice A n c] from (Blk.newAt rfl).alloc)
    have Z0 := Lib.hid (show Blk ((w.alloc (.cells #[.slice A n c] 24)).alloc (.cells #[.int .i64 0, .int .i64 0] 32)) (w.heap.size + 1) 32 #[.int .i64 0, .int .i64 0] from Blk.newAt (by simp))
    have x0 := R0.out.cellAt 0 rfl
    have xl := R0.out.lt
    go_wp2_with (first
      | (go_at_call 26; refine (HC.out _ HB0.out).mono ?_; rintro e w1 ⟨rfl, hb1⟩; have HB1 := Lib.hid (pt HB0.out hb1); have Z1 := Lib.hid (Z0.out.past hb1); have R1 := Lib.hid (R0.out.past hb1); clear x0 xl hb1; have x0 := R1.out.cellAt 0 rfl; have xl := R1.out.lt; have zl := Z1.out.lt)
      | (go_at_call 28; refine (isSizedFd_any _ _ (by decide) (by decide) _).mono ?_; rintro e w' ⟨rfl, rfl⟩)
      | (go_at_call 31; refine (withinFd_any _ _ _ _).mono ?_; rintro e w' ⟨rfl, rfl⟩)
      | (go_at_call 27; refine (unlessFd_any _ _ _).mono ?_; rintro e w' ⟨rfl, rfl⟩)
      | (go_at_call 25; refine (first2Fd _ _ _ _ _ (by first | (go_simp; done) | (go_simp; rfl)) (by first | (go_simp; done) | (go_simp; rfl)) _ HV.out).mono ?_; rintro e w' ⟨rfl, rfl⟩)
      | ((with_reducible refine store_blk (T := 32) (x := .tmp 4) (y := .tmp 18) (vs := #[.int .i64 0, .int .i64 0]) Z1.out.alloc ?_ ?_ ?_ ?_ ?_ ?_); (focus rfl); (focus exact frac_size); (focus (simp [Value.oneCell']; done)); (focus (first | rfl | (go_simp; done))); (focus (first | rfl | (go_simp; done))); intro WF_ RF PF))
    have r0 := RF.cellAt 0 rfl
    have r1 := RF.cellAt 1 rfl
    refine bodyPost_ret (v := .tuple #[.agg #[.int .i64 0, .int .i64 0], .int .i64 E1]) (by simp [results, Try.results8, go_sem, r0, r1]) rfl ?_
    exact ⟨rfl, pp (pa HB1.out) PF (by omega)⟩
set_option maxHeartbeats 4000000 in
set_option maxRecDepth 100000 in
theorem FluxFor_any (B : Nat) (cv : List DTerm) (A : Option Addr) (n c : Nat) (gap t : Int) (w : World) (hr : CellsIn B w A (termsC cv)) (hB : B ≤ w.heap.size) (hn : cv.length = n) (hm : n ≤ 1000) :
    Calls Try.prog 10 #[.agg #[.slice A n c], .int .i64 gap, .int .i64 t] w fun e w' => e = .returned (.tuple #[.agg #[.int .i64 (flxE cv gap t).1, .int .i64 (flxE cv gap t).2.1], .int .i64 (flxE cv gap t).2.2]) ∧ Below w.heap.size w w' := by
  have HC := Lib.hid (fun W (hW : Below w.heap.size w W) => curveErrFd_any B cv A n c W (hr.below (hW.mono hB)) (Nat.le_trans hB hW.size) hn hm)
  have HT := Lib.hid (show flxE cv gap t = if flxE1 cv gap t ≠ 0 then (0, 0, flxE1 cv gap t) else flxV cv gap t from rfl)
  cases hgp : withinB gap 0 20
  · have HGp := Lib.hid hgp
    have HV := Lib.hid (show firstV [(curveC cv).2, unlessV (false) 2] = flxE1 cv gap t from by unfold flxE1; rw [hgp]; rfl)
    by_cases hE : flxE1 cv gap t = 0
    · have hE2 := hE
      unfold flxE1 at hE2
      obtain ⟨e1, e2⟩ := firstV_zero.1 hE2
      have e2 := (unless_ne (by decide)).1 (firstV_zero.1 e2).1
      have hok := curve_ok e1
      have hpt := curve_pts hok
      rw [hgp] at e2
      cases e2
    · have HE := Lib.hid (show flxE cv gap t = (0, 0, flxE1 cv gap t) from by rw [HT.out, if_pos hE])
      rw [HE.out]
      clear HT HE hr hn
      generalize flxE1 cv gap t = E1 at *
      have he1 : (E1 == 0) = false := by simpa using hE
      have he2 : (E1 != 0) = true := by simpa using hE
      go_enter Try.func10, Try.ntmps10
      have HB0 := Lib.hid (show Below w.heap.size w ((w.alloc (.cells #[.slice A n c] 24)).alloc (.cells #[.int .i64 0, .int .i64 0] 32)) from pa (pa pr))
      have R0 := Lib.hid (show Blk ((w.alloc (.cells #[.slice A n c] 24)).alloc (.cells #[.int .i64 0, .int .i64 0] 32)) w.heap.size 24 #[.slice A n c] from (Blk.newAt rfl).alloc)
      have Z0 := Lib.hid (show Blk ((w.alloc (.cells #[.slice A n c] 24)).alloc (.cells #[.int .i64 0, .int .i64 0] 32)) (w.heap.size + 1) 32 #[.int .i64 0, .int .i64 0] from Blk.newAt (by simp))
      have x0 := R0.out.cellAt 0 rfl
      have xl := R0.out.lt
      go_wp2_with (first
        | (go_at_call 26; refine (HC.out _ HB0.out).mono ?_; rintro e w1 ⟨rfl, hb1⟩; have HB1 := Lib.hid (pt HB0.out hb1); have Z1 := Lib.hid (Z0.out.past hb1); have R1 := Lib.hid (R0.out.past hb1); clear x0 xl hb1; have x0 := R1.out.cellAt 0 rfl; have xl := R1.out.lt; have zl := Z1.out.lt)
        | (go_at_call 28; refine (isSizedFd_any _ _ (by decide) (by decide) _).mono ?_; rintro e w' ⟨rfl, rfl⟩)
        | (go_at_call 31; (with_reducible refine (withinFd_v _ _ _ _ HGp.out _).mono ?_); rintro e w' ⟨rfl, rfl⟩)
        | (go_at_call 27; refine (unlessFd_any _ _ _).mono ?_; rintro e w' ⟨rfl, rfl⟩)
        | (go_at_call 25; refine (first2Fd _ _ _ _ _ (by first | (go_simp; done) | (go_simp; rfl)) (by first | (go_simp; done) | (go_simp; rfl)) _ HV.out).mono ?_; rintro e w' ⟨rfl, rfl⟩)
        | ((with_reducible refine store_blk (T := 32) (x := .tmp 6) (y := .tmp 24) (vs := #[.int .i64 0, .int .i64 0]) Z1.out.alloc ?_ ?_ ?_ ?_ ?_ ?_); (focus rfl); (focus exact frac_size); (focus (simp [Value.oneCell']; done)); (focus (first | rfl | (go_simp; done))); (focus (first | rfl | (go_simp; done))); intro WF_ RF PF))
      have r0 := RF.cellAt 0 rfl
      have r1 := RF.cellAt 1 rfl
      refine bodyPost_ret (v := .tuple #[.agg #[.int .i64 0, .int .i64 0], .int .i64 E1]) (by simp [results, Try.results10, go_sem, r0, r1]) rfl ?_
      exact ⟨rfl, pp (pa HB1.out) PF (by omega)⟩
  · have HGp := Lib.hid hgp
    have HV := Lib.hid (show firstV [(curveC cv).2, unlessV (withinB t (-100000) 100000) 2] = flxE1 cv gap t from by unfold flxE1; rw [hgp]; rfl)
    by_cases hE : flxE1 cv gap t = 0
    · have hE2 := hE
      unfold flxE1 at hE2
      obtain ⟨e1, e2⟩ := firstV_zero.1 hE2
      have e2 := (unless_ne (by decide)).1 (firstV_zero.1 e2).1
      have hok := curve_ok e1
      have hpt := curve_pts hok
      rw [hgp] at e2
      unfold withinB at e2 hgp
      simp at e2 hgp
      by_cases h0 : t < 0
      · have HX := Lib.hid (show flxE cv gap t = fracV (-(flxF gap (-t) (pieceL cv)).1) (flxF gap (-t) (pieceL cv)).2 from by rw [HT.out, if_neg (by simpa using hE)]; unfold flxV; rw [if_pos h0])
        have hbd := flx_bd hok hgp.1 hgp.2 (show 0 ≤ (-t) by omega) (by omega)
        have HD := Lib.hid (fun W (hW : Below w.heap.size w W) => flux_any B cv A n c gap (-t) W (hr.below (hW.mono hB)) (Nat.le_trans hB hW.size) hn hpt ⟨hgp.1, hgp.2⟩ (by omega))
        rw [hE] at HV
        rw [HX.out]
        clear HT HX hE hE2 e1 hok hpt hr hn hgp
        generalize flxF gap (-t) (pieceL cv) = Y at *
        have HF := Lib.hid (fun W => fractionFd_any (-Y.1) Y.2 (by unfold WF; omega) (by omega) (by unfold SmF; omega) W)
        generalize fracV (-Y.1) Y.2 = V at *
        have hw1 : IntKind.i64.wrap (-t) = -t := IntWalk.i64_in _ (by omega)
        have hw2 : wrap64 (-t) = -t := w64 (by omega)
        have hw3 : IntKind.i64.wrap (-Y.1) = -Y.1 := IntWalk.i64_in _ (by omega)
        have hw4 : wrap64 (-Y.1) = -Y.1 := w64 (by omega)
        go_enter Try.func10, Try.ntmps10
        have HB0 := Lib.hid (show Below w.heap.size w ((w.alloc (.cells #[.slice A n c] 24)).alloc (.cells #[.int .i64 0, .int .i64 0] 32)) from pa (pa pr))
        have R0 := Lib.hid (show Blk ((w.alloc (.cells #[.slice A n c] 24)).alloc (.cells #[.int .i64 0, .int .i64 0] 32)) w.heap.size 24 #[.slice A n c] from (Blk.newAt rfl).alloc)
        have Z0 := Lib.hid (show Blk ((w.alloc (.cells #[.slice A n c] 24)).alloc (.cells #[.int .i64 0, .int .i64 0] 32)) (w.heap.size + 1) 32 #[.int .i64 0, .int .i64 0] from Blk.newAt (by simp))
        have x0 := R0.out.cellAt 0 rfl
        have xl := R0.out.lt
        go_wp2_with (first
          | (go_at_call 26; refine (HC.out _ HB0.out).mono ?_; rintro e w1 ⟨rfl, hb1⟩; have HB1 := Lib.hid (pt HB0.out hb1); have Z1 := Lib.hid (Z0.out.past hb1); have R1 := Lib.hid (R0.out.past hb1); clear x0 xl hb1; have x0 := R1.out.cellAt 0 rfl; have xl := R1.out.lt; have zl := Z1.out.lt)
          | (go_at_call 28; refine (isSizedFd_any _ _ (by decide) (by decide) _).mono ?_; rintro e w' ⟨rfl, rfl⟩)
          | (go_at_call 31; (with_reducible refine (withinFd_v _ _ _ _ HGp.out _).mono ?_); rintro e w' ⟨rfl, rfl⟩)
          | (go_at_call 27; refine (unlessFd_any _ _ _).mono ?_; rintro e w' ⟨rfl, rfl⟩)
          | (go_at_call 25; refine (first2Fd _ _ _ _ _ (by first | (go_simp; done) | (go_simp; rfl)) (by first | (go_simp; done) | (go_simp; rfl)) _ HV.out).mono ?_; rintro e w' ⟨rfl, rfl⟩)
          | (go_at_call 32; refine (HD.out _ (pa HB1.out)).mono ?_; rintro e w2 ⟨rfl, hb2⟩; have HB2 := Lib.hid (pt (pa HB1.out) hb2); have Z2 := Lib.hid (Z1.out.alloc.past hb2); clear hb2)
          | (go_at_call 30; refine (HF.out _).mono ?_; rintro e w3 ⟨rfl, hb3⟩; have HB3 := Lib.hid (pt HB2.out hb3); have Z3 := Lib.hid (Z2.out.past hb3); have zl3 := Z3.out.lt; clear hb3)
          | ((with_reducible refine store_blk (T := 32) (x := .tmp 6) (y := .tmp 40) (vs := #[.int .i64 V.1, .int .i64 V.2.1]) Z3.out ?_ ?_ ?_ ?_ ?_ ?_); (focus rfl); (focus exact frac_size); (focus (simp [Value.oneCell']; done)); (focus (first | rfl | (go_simp; done))); (focus (first | rfl | (go_simp; done))); intro WF_ RF PF))
        have r0 := RF.cellAt 0 rfl
        have r1 := RF.cellAt 1 rfl
        refine bodyPost_ret (v := .tuple #[.agg #[.int .i64 V.1, .int .i64 V.2.1], .int .i64 V.2.2]) (by simp [results, Try.results10, go_sem, r0, r1]) rfl ?_
        exact ⟨rfl, pp HB3.out PF (by omega)⟩
      
      · have HX := Lib.hid (show flxE cv gap t = fracV ((flxF gap (t) (pieceL cv)).1) (flxF gap (t) (pieceL cv)).2 from by rw [HT.out, if_neg (by simpa using hE)]; unfold flxV; rw [if_neg h0])
        have hbd := flx_bd hok hgp.1 hgp.2 (show 0 ≤ (t) by omega) (by omega)
        have HD := Lib.hid (fun W (hW : Below w.heap.size w W) => flux_any B cv A n c gap (t) W (hr.below (hW.mono hB)) (Nat.le_trans hB hW.size) hn hpt ⟨hgp.1, hgp.2⟩ (by omega))
        rw [hE] at HV
        rw [HX.out]
        clear HT HX hE hE2 e1 hok hpt hr hn hgp
        generalize flxF gap (t) (pieceL cv) = Y at *
        have HF := Lib.hid (fun W => fractionFd_any (Y.1) Y.2 (by unfold WF; omega) (by omega) (by unfold SmF; omega) W)
        generalize fracV (Y.1) Y.2 = V at *
        have hw1 : IntKind.i64.wrap (-t) = -t := IntWalk.i64_in _ (by omega)
        have hw2 : wrap64 (-t) = -t := w64 (by omega)
        have hw3 : IntKind.i64.wrap (-Y.1) = -Y.1 := IntWalk.i64_in _ (by omega)
        have hw4 : wrap64 (-Y.1) = -Y.1 := w64 (by omega)
        go_enter Try.func10, Try.ntmps10
        have HB0 := Lib.hid (show Below w.heap.size w ((w.alloc (.cells #[.slice A n c] 24)).alloc (.cells #[.int .i64 0, .int .i64 0] 32)) from pa (pa pr))
        have R0 := Lib.hid (show Blk ((w.alloc (.cells #[.slice A n c] 24)).alloc (.cells #[.int .i64 0, .int .i64 0] 32)) w.heap.size 24 #[.slice A n c] from (Blk.newAt rfl).alloc)
        have Z0 := Lib.hid (show Blk ((w.alloc (.cells #[.slice A n c] 24)).alloc (.cells #[.int .i64 0, .int .i64 0] 32)) (w.heap.size + 1) 32 #[.int .i64 0, .int .i64 0] from Blk.newAt (by simp))
        have x0 := R0.out.cellAt 0 rfl
        have xl := R0.out.lt
        go_wp2_with (first
          | (go_at_call 26; refine (HC.out _ HB0.out).mono ?_; rintro e w1 ⟨rfl, hb1⟩; have HB1 := Lib.hid (pt HB0.out hb1); have Z1 := Lib.hid (Z0.out.past hb1); have R1 := Lib.hid (R0.out.past hb1); clear x0 xl hb1; have x0 := R1.out.cellAt 0 rfl; have xl := R1.out.lt; have zl := Z1.out.lt)
          | (go_at_call 28; refine (isSizedFd_any _ _ (by decide) (by decide) _).mono ?_; rintro e w' ⟨rfl, rfl⟩)
          | (go_at_call 31; (with_reducible refine (withinFd_v _ _ _ _ HGp.out _).mono ?_); rintro e w' ⟨rfl, rfl⟩)
          | (go_at_call 27; refine (unlessFd_any _ _ _).mono ?_; rintro e w' ⟨rfl, rfl⟩)
          | (go_at_call 25; refine (first2Fd _ _ _ _ _ (by first | (go_simp; done) | (go_simp; rfl)) (by first | (go_simp; done) | (go_simp; rfl)) _ HV.out).mono ?_; rintro e w' ⟨rfl, rfl⟩)
          | (go_at_call 32; refine (HD.out _ (pa HB1.out)).mono ?_; rintro e w2 ⟨rfl, hb2⟩; have HB2 := Lib.hid (pt (pa HB1.out) hb2); have Z2 := Lib.hid (Z1.out.alloc.past hb2); clear hb2)
          | (go_at_call 30; refine (HF.out _).mono ?_; rintro e w3 ⟨rfl, hb3⟩; have HB3 := Lib.hid (pt HB2.out hb3); have Z3 := Lib.hid (Z2.out.past hb3); have zl3 := Z3.out.lt; clear hb3)
          | ((with_reducible refine store_blk (T := 32) (x := .tmp 6) (y := .tmp 49) (vs := #[.int .i64 V.1, .int .i64 V.2.1]) Z3.out ?_ ?_ ?_ ?_ ?_ ?_); (focus rfl); (focus exact frac_size); (focus (simp [Value.oneCell']; done)); (focus (first | rfl | (go_simp; done))); (focus (first | rfl | (go_simp; done))); intro WF_ RF PF))
        have r0 := RF.cellAt 0 rfl
        have r1 := RF.cellAt 1 rfl
        refine bodyPost_ret (v := .tuple #[.agg #[.int .i64 V.1, .int .i64 V.2.1], .int .i64 V.2.2]) (by simp [results, Try.results10, go_sem, r0, r1]) rfl ?_
        exact ⟨rfl, pp HB3.out PF (by omega)⟩
    · have HE := Lib.hid (show flxE cv gap t = (0, 0, flxE1 cv gap t) from by rw [HT.out, if_pos hE])
      rw [HE.out]
      clear HT HE hr hn
      generalize flxE1 cv gap t = E1 at *
      have he1 : (E1 == 0) = false := by simpa using hE
      have he2 : (E1 != 0) = true := by simpa using hE
      go_enter Try.func10, Try.ntmps10
      have HB0 := Lib.hid (show Below w.heap.size w ((w.alloc (.cells #[.slice A n c] 24)).alloc (.cells #[.int .i64 0, .int .i64 0] 32)) from pa (pa pr))
      have R0 := Lib.hid (show Blk ((w.alloc (.cells #[.slice A n c] 24)).alloc (.cells #[.int .i64 0, .int .i64 0] 32)) w.heap.size 24 #[.slice A n c] from (Blk.newAt rfl).alloc)
      have Z0 := Lib.hid (show Blk ((w.alloc (.cells #[.slice A n c] 24)).alloc (.cells #[.int .i64 0, .int .i64 0] 32)) (w.heap.size + 1) 32 #[.int .i64 0, .int .i64 0] from Blk.newAt (by simp))
      have x0 := R0.out.cellAt 0 rfl
      have xl := R0.out.lt
      go_wp2_with (first
        | (go_at_call 26; refine (HC.out _ HB0.out).mono ?_; rintro e w1 ⟨rfl, hb1⟩; have HB1 := Lib.hid (pt HB0.out hb1); have Z1 := Lib.hid (Z0.out.past hb1); have R1 := Lib.hid (R0.out.past hb1); clear x0 xl hb1; have x0 := R1.out.cellAt 0 rfl; have xl := R1.out.lt; have zl := Z1.out.lt)
        | (go_at_call 28; refine (isSizedFd_any _ _ (by decide) (by decide) _).mono ?_; rintro e w' ⟨rfl, rfl⟩)
        | (go_at_call 31; (with_reducible refine (withinFd_v _ _ _ _ HGp.out _).mono ?_); rintro e w' ⟨rfl, rfl⟩)
        | (go_at_call 27; refine (unlessFd_any _ _ _).mono ?_; rintro e w' ⟨rfl, rfl⟩)
        | (go_at_call 25; refine (first2Fd _ _ _ _ _ (by first | (go_simp; done) | (go_simp; rfl)) (by first | (go_simp; done) | (go_simp; rfl)) _ HV.out).mono ?_; rintro e w' ⟨rfl, rfl⟩)
        | ((with_reducible refine store_blk (T := 32) (x := .tmp 6) (y := .tmp 24) (vs := #[.int .i64 0, .int .i64 0]) Z1.out.alloc ?_ ?_ ?_ ?_ ?_ ?_); (focus rfl); (focus exact frac_size); (focus (simp [Value.oneCell']; done)); (focus (first | rfl | (go_simp; done))); (focus (first | rfl | (go_simp; done))); intro WF_ RF PF))
      have r0 := RF.cellAt 0 rfl
      have r1 := RF.cellAt 1 rfl
      refine bodyPost_ret (v := .tuple #[.agg #[.int .i64 0, .int .i64 0], .int .i64 E1]) (by simp [results, Try.results10, go_sem, r0, r1]) rfl ?_
      exact ⟨rfl, pp (pa HB1.out) PF (by omega)⟩
end Go.Proofs.Ytapegimghfflhaa
end
