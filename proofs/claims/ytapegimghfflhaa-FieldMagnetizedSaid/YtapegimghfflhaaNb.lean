/- Contract: FluxSpan where nothing is refused (package field). -/
import Derived.Test.YtapegimghfflhaaN9
import Derived.Test.YtapegimghfflhaaNa
import Derived.Test.YtapegimghfflhaaN3

section
namespace Go.Proofs.Ytapegimghfflhaa
open Go.RowKit

theorem unlessT (e : Int) (w : World) : Calls Try.prog 27 #[.bool true, .int .i64 e] w fun r w' => r = .returned (.int .i64 0) ∧ w = w' := unlessFd_any true e w
theorem first5Fd (b c : Nat) (x y z u t : Int) (w : World) (h0 : w.cell? ⟨b, 0, none⟩ = some (.int .i64 x)) (h1 : w.cell? ⟨b, 1, none⟩ = some (.int .i64 y)) (h2 : w.cell? ⟨b, 2, none⟩ = some (.int .i64 z)) (h3 : w.cell? ⟨b, 3, none⟩ = some (.int .i64 u)) (h4 : w.cell? ⟨b, 4, none⟩ = some (.int .i64 t)) (v : Int) (hv : firstV [x, y, z, u, t] = v) :
    Calls Try.prog 25 #[.slice (some ⟨b, 0, none⟩) 5 c] w fun e w' => e = .returned (.int .i64 v) ∧ w = w' := by
  subst hv
  exact firstFd_any (b + 1) _ c [x, y, z, u, t] w (.inr ⟨b, 0, rfl, by omega, fun j hj => by
    have : j = 0 ∨ j = 1 ∨ j = 2 ∨ j = 3 ∨ j = 4 := by simp at hj; omega
    rcases this with rfl | rfl | rfl | rfl | rfl
    · simpa using h0
    · simpa using h1
    · simpa using h2
    · simpa using h3
    · simpa using h4⟩) (by simp)
theorem isGap_any (x : Int) (v : Bool) (hv : withinB x 0 20 = v) (w : World) : Calls Try.prog 44 #[.int .i64 x] w fun r w' => r = .returned (.bool v) ∧ w = w' := by
  have HW := Lib.hid (withinFd_w x 0 20 v hv w)
  clear hv
  go_enter Try.func44, Try.ntmps44
  go_wp2_with (go_at_call 31; (go_must (refine HW.out.mono ?_)); rintro e w' ⟨rfl, rfl⟩)
  go_ret
  exact ⟨rfl, rfl⟩

set_option maxHeartbeats 8000000 in
set_option maxRecDepth 100000 in
theorem FluxSpan_ok (B : Nat) (lo hi : List DTerm) (A1 A2 : Option Addr) (n1 c1 n2 c2 : Nat) (gl gh t : Int) (w : World) (hr1 : CellsIn B w A1 (termsC lo)) (hr2 : CellsIn B w A2 (termsC hi)) (hB : B ≤ w.heap.size) (hn1 : lo.length = n1) (hn2 : hi.length = n2) (h1 : (curveC lo).2 = 0) (h2 : (curveC hi).2 = 0) (hg : (0 ≤ gl ∧ gl ≤ 20) ∧ 0 ≤ gh ∧ gh ≤ 20) (hle : gl ≤ gh) (ht : 0 ≤ t ∧ t ≤ 100000) (hbe : belowV lo hi = true) (V1 V2 : Int × Int × Int) (hV1 : flxV hi gh t = V1) (hV2 : flxV lo gl t = V2) :
    Calls Try.prog 21 #[.agg #[.slice A1 n1 c1], .agg #[.slice A2 n2 c2], .agg #[.int .i64 gl, .int .i64 gh, .int .i64 t]] w fun e w' => e = .returned (.tuple #[.agg #[.int .i64 (spanV V1 V2).1.1, .int .i64 (spanV V1 V2).1.2.1, .int .i64 (spanV V1 V2).1.2.2.1, .int .i64 (spanV V1 V2).1.2.2.2], .int .i64 (spanV V1 V2).2]) ∧ Below w.heap.size w w' := by
  have ho1 := curve_ok h1
  have ho2 := curve_ok h2
  have hl1 := ho1.len
  have hl2 := ho2.len
  have HC1 := Lib.hid (fun W (hW : Below w.heap.size w W) => (show Calls Try.prog 26 #[.agg #[.slice A1 n1 c1]] W fun e w' => e = .returned (.int .i64 0) ∧ Below W.heap.size W w' from by
    have h := curveErrFd_any B lo A1 n1 c1 W (hr1.below (hW.mono hB)) (Nat.le_trans hB hW.size) hn1 (by omega)
    rwa [h1] at h))
  have HC2 := Lib.hid (fun W (hW : Below w.heap.size w W) => (show Calls Try.prog 26 #[.agg #[.slice A2 n2 c2]] W fun e w' => e = .returned (.int .i64 0) ∧ Below W.heap.size W w' from by
    have h := curveErrFd_any B hi A2 n2 c2 W (hr2.below (hW.mono hB)) (Nat.le_trans hB hW.size) hn2 (by omega)
    rwa [h2] at h))
  have HG1 := Lib.hid (fun W => isGap_any gl true (by unfold withinB; simp; omega) W)
  have HG2 := Lib.hid (fun W => isGap_any gh true (by unfold withinB; simp; omega) W)
  have HTu := Lib.hid (fun W => withinFd_w t 0 100000 true (by unfold withinB; simp; omega) W)
  have HBl := Lib.hid (fun W (hW : Below w.heap.size w W) => (show Calls Try.prog 45 #[.agg #[.slice A1 n1 c1], .agg #[.slice A2 n2 c2]] W fun e w' => e = .returned (.bool true) ∧ Below W.heap.size W w' from by
    have h := isBelow_any B lo hi A1 A2 n1 c1 n2 c2 W (hr1.below (hW.mono hB)) (hr2.below (hW.mono hB)) (Nat.le_trans hB hW.size) hn1 hn2 ho1 ho2
    rwa [hbe] at h))
  have HF1 := Lib.hid (fun W (hW : Below w.heap.size w W) => flux_any B hi A2 n2 c2 gh t W (hr2.below (hW.mono hB)) (Nat.le_trans hB hW.size) hn2 (curve_pts ho2) hg.2 (by omega))
  have HF2 := Lib.hid (fun W (hW : Below w.heap.size w W) => flux_any B lo A1 n1 c1 gl t W (hr1.below (hW.mono hB)) (Nat.le_trans hB hW.size) hn1 (curve_pts ho1) hg.1 (by omega))
  obtain ⟨b1, b2⟩ := flx_bd ho2 hg.2.1 hg.2.2 ht.1 ht.2
  obtain ⟨b3, b4⟩ := flx_bd ho1 hg.1.1 hg.1.2 ht.1 ht.2
  have e1 : fracV (flxF gh t (pieceL hi)).1 (flxF gh t (pieceL hi)).2 = V1 := by rw [← hV1]; unfold flxV; rw [if_neg (by omega)]
  have e2 : fracV (flxF gl t (pieceL lo)).1 (flxF gl t (pieceL lo)).2 = V2 := by rw [← hV2]; unfold flxV; rw [if_neg (by omega)]
  have HR1 := Lib.hid (fun W => fractionFd_any (flxF gh t (pieceL hi)).1 (flxF gh t (pieceL hi)).2 (by unfold WF; omega) (by omega) (by unfold SmF; omega) W)
  have HR2 := Lib.hid (fun W => fractionFd_any (flxF gl t (pieceL lo)).1 (flxF gl t (pieceL lo)).2 (by unfold WF; omega) (by omega) (by unfold SmF; omega) W)
  rw [e1] at HR1
  rw [e2] at HR2
  clear e1 e2 hV1 hV2 b1 b2 b3 b4 hr1 hr2 hn1 hn2 h1 h2 hg ht hbe ho1 ho2 hl1 hl2
  generalize flxF gh t (pieceL hi) = Y1 at *
  generalize flxF gl t (pieceL lo) = Y2 at *
  obtain ⟨y1, y2⟩ := Y1
  obtain ⟨y3, y4⟩ := Y2
  obtain ⟨p1, p2, p3⟩ := V1
  obtain ⟨q1, q2, q3⟩ := V2
  have HSp := Lib.hid (fun W => span_any p1 p2 p3 q1 q2 q3 W)
  generalize spanV (p1, p2, p3) (q1, q2, q3) = V at *
  obtain ⟨⟨s1, s2, s3, s4⟩, s5⟩ := V
  dsimp only at *
  have HV5 := Lib.hid (show firstV [0, 0, 0, 0, 0] = 0 from rfl)
  go_enter Try.func21, Try.ntmps21
  have HB0 := Lib.hid (show Below w.heap.size w ((((w.alloc (.cells #[.slice A1 n1 c1] 24)).alloc (.cells #[.slice A2 n2 c2] 24)).alloc (.cells #[.int .i64 gl, .int .i64 gh, .int .i64 t] 63)).alloc (.cells #[.int .i64 0, .int .i64 0, .int .i64 0, .int .i64 0] 53)) from pa (pa (pa (pa pr))))
  have R1 := Lib.hid (show Blk ((((w.alloc (.cells #[.slice A1 n1 c1] 24)).alloc (.cells #[.slice A2 n2 c2] 24)).alloc (.cells #[.int .i64 gl, .int .i64 gh, .int .i64 t] 63)).alloc (.cells #[.int .i64 0, .int .i64 0, .int .i64 0, .int .i64 0] 53)) w.heap.size 24 #[.slice A1 n1 c1] from (((Blk.newAt rfl).alloc).alloc).alloc)
  have R2 := Lib.hid (show Blk ((((w.alloc (.cells #[.slice A1 n1 c1] 24)).alloc (.cells #[.slice A2 n2 c2] 24)).alloc (.cells #[.int .i64 gl, .int .i64 gh, .int .i64 t] 63)).alloc (.cells #[.int .i64 0, .int .i64 0, .int .i64 0, .int .i64 0] 53)) (w.heap.size + 1) 24 #[.slice A2 n2 c2] from ((Blk.newAt (by simp)).alloc).alloc)
  have R3 := Lib.hid (show Blk ((((w.alloc (.cells #[.slice A1 n1 c1] 24)).alloc (.cells #[.slice A2 n2 c2] 24)).alloc (.cells #[.int .i64 gl, .int .i64 gh, .int .i64 t] 63)).alloc (.cells #[.int .i64 0, .int .i64 0, .int .i64 0, .int .i64 0] 53)) (w.heap.size + 1 + 1) 63 #[.int .i64 gl, .int .i64 gh, .int .i64 t] from (Blk.newAt (by simp)).alloc)
  have Z0 := Lib.hid (show Blk ((((w.alloc (.cells #[.slice A1 n1 c1] 24)).alloc (.cells #[.slice A2 n2 c2] 24)).alloc (.cells #[.int .i64 gl, .int .i64 gh, .int .i64 t] 63)).alloc (.cells #[.int .i64 0, .int .i64 0, .int .i64 0, .int .i64 0] 53)) (w.heap.size + 1 + 1 + 1) 53 #[.int .i64 0, .int .i64 0, .int .i64 0, .int .i64 0] from Blk.newAt (by simp))
  go_wp2
  generalize (((w.alloc (.cells #[.slice A1 n1 c1] 24)).alloc (.cells #[.slice A2 n2 c2] 24)).alloc (.cells #[.int .i64 gl, .int .i64 gh, .int .i64 t] 63)).alloc (.cells #[.int .i64 0, .int .i64 0, .int .i64 0, .int .i64 0] 53) = w0 at *
  have hcl : w.heap.size < w.heap.size + 1 ∧ w.heap.size + 1 < w.heap.size + 1 + 1 ∧ w.heap.size + 1 + 1 < w.heap.size + 1 + 1 + 1 := by omega
  generalize w.heap.size + 1 + 1 + 1 = z3 at *
  generalize w.heap.size + 1 + 1 = z2 at *
  generalize w.heap.size + 1 = z1 at *
  have HXc := Lib.hid (fun W (hW : Below w0.heap.size w0 W) => (show (W.cell? ⟨w.heap.size, 0, none⟩ = some (.slice A1 n1 c1) ∧ W.cell? ⟨z1, 0, none⟩ = some (.slice A2 n2 c2) ∧ W.cell? ⟨z2, 0, none⟩ = some (.int .i64 gl) ∧ W.cell? ⟨z2, 1, none⟩ = some (.int .i64 gh) ∧ W.cell? ⟨z2, 2, none⟩ = some (.int .i64 t)) ∧ w.heap.size < W.heap.size ∧ z1 < W.heap.size ∧ z2 < W.heap.size from ⟨⟨(R1.out.past hW).cellAt 0 rfl, (R2.out.past hW).cellAt 0 rfl, (R3.out.past hW).cellAt 0 rfl, (R3.out.past hW).cellAt 1 rfl, (R3.out.past hW).cellAt 2 rfl⟩, (R1.out.past hW).lt, (R2.out.past hW).lt, (R3.out.past hW).lt⟩))
  have HWw := Lib.hid (fun W (hW : Below w0.heap.size w0 W) => (show Below w.heap.size w W from HB0.out.trans (hW.mono HB0.out.size)))
  obtain ⟨⟨x0, x1, x2, x3, x4⟩, l0, l1, l2⟩ := HXc.out w0 pr
  clear R1 R2 R3 HB0
  refine region_below 29 follows_mixed (by kernel_rfl) ?_
  intro C hC
  simp only [List.take_succ_cons, List.take_zero, List.drop_succ_cons, List.drop_zero]
  repeat (first
    | ((with_reducible refine quiet_plain rfl (fun K hK => ?_)); (focus (apply quiet_val; (focus (intro w' hw; obtain ⟨hcq, hfq⟩ := bcell ((hC.out _).1 hw); go_simp; (first | done | rfl | (with_reducible exact call_below hC hw (HC1.out _ (HWw.out _ ((hC.out _).1 hw)))) | (with_reducible exact call_below hC hw (HC2.out _ (HWw.out _ ((hC.out _).1 hw)))) | (with_reducible exact call_same hw (HG1.out _)) | (with_reducible exact call_same hw (HG2.out _)) | (with_reducible exact call_same hw (HTu.out _)) | (with_reducible exact call_same hw (unlessT _ _))))); (simp only [Act.put, List.setIfInBounds_toArray, List.set_cons_succ, List.set_cons_zero]); (with_reducible refine hK _ ?_); clear hK K)))
    | ((with_reducible refine quiet_skip ?_ ?_); (focus (first | (simp [Region.wanted, yielded]; done) | (simp [Region.wanted, yielded, undef]; done))); simp only [Act.put, List.setIfInBounds_toArray, List.set_cons_succ, List.set_cons_zero])
    | ((with_reducible refine quiet_go ?_ (fun K hK => ?_)); (focus (first | (simp [Region.wanted, yielded]; done) | (simp [Region.wanted, yielded, undef]; done))); (focus (apply quiet_val; (focus (intro w' hw; obtain ⟨hcq, hfq⟩ := bcell ((hC.out _).1 hw); go_simp; (first | done | rfl | (with_reducible exact call_below hC hw (HC1.out _ (HWw.out _ ((hC.out _).1 hw)))) | (with_reducible exact call_below hC hw (HC2.out _ (HWw.out _ ((hC.out _).1 hw)))) | (with_reducible exact call_same hw (HG1.out _)) | (with_reducible exact call_same hw (HG2.out _)) | (with_reducible exact call_same hw (HTu.out _)) | (with_reducible exact call_same hw (unlessT _ _))))); (simp only [Act.put, List.setIfInBounds_toArray, List.set_cons_succ, List.set_cons_zero]); (with_reducible refine hK _ ?_); clear hK K))))
  refine wpQuiet_nil ?_
  intro w1 hb1
  replace hb1 := (hC.out _).1 hb1
  clear hC C
  obtain ⟨hc1, hf1⟩ := bcell hb1
  have HQ1 := Lib.hid (show Below w0.heap.size w0 w1 from hb1)
  clear hc1 hf1 hb1 x0 x1 x2 x3 x4 l0 l1 l2 HC1 HC2
  obtain ⟨⟨x0, x1, x2, x3, x4⟩, l0, l1, l2⟩ := HXc.out w1 HQ1.out
  have hm1 := True.intro
  have hm2 := True.intro
  go_wp2_with (first
    | (go_at_call 25; (go_must (refine (first5Fd _ _ _ _ _ _ _ _ (by first | (go_simp; done) | (go_simp; rfl)) (by first | (go_simp; done) | (go_simp; rfl)) (by first | (go_simp; done) | (go_simp; rfl)) (by first | (go_simp; done) | (go_simp; rfl)) (by first | (go_simp; done) | (go_simp; rfl)) _ HV5.out).mono ?_)); rintro e w' ⟨rfl, rfl⟩)
    | (go_at_call 45; (go_must (refine (HBl.out _ (HWw.out _ (pa HQ1.out))).mono ?_)); rintro e w2 ⟨rfl, hb2⟩; have HQ2 := Lib.hid (pt (pa HQ1.out) hb2); clear hb2 x0 x1 x2 x3 x4 l0 l1 l2; obtain ⟨⟨x0, x1, x2, x3, x4⟩, l0, l1, l2⟩ := HXc.out w2 HQ2.out)
    | (go_at_call 27; (refine (unlessT _ _).mono ?_); rintro e w' ⟨rfl, rfl⟩)
    | (go_at_call 32; (clear hm1); (refine (HF1.out _ (HWw.out _ HQ2.out)).mono ?_); rintro e w3 ⟨rfl, hb3⟩; have HQ3 := Lib.hid (pt HQ2.out hb3); clear hb3)
    | (go_at_call 30; (clear hm2); (refine (HR1.out _).mono ?_); rintro e w4 ⟨rfl, hb4⟩; have HQ4 := Lib.hid (pt HQ3.out hb4); clear hb4 x0 x1 x2 x3 x4 l0 l1 l2; obtain ⟨⟨x0, x1, x2, x3, x4⟩, l0, l1, l2⟩ := HXc.out w4 HQ4.out; have T4 := Lib.hid (show Blk (w4.alloc (.cells #[.int .i64 p1, .int .i64 p2] 32)) w4.heap.size 32 #[.int .i64 p1, .int .i64 p2] from Blk.newAt rfl); have HQt := Lib.hid (show Below w0.heap.size w0 (w4.alloc (.cells #[.int .i64 p1, .int .i64 p2] 32)) from pa HQ4.out))
    | (go_at_call 32; (go_must (refine (HF2.out _ (HWw.out _ HQt.out)).mono ?_)); rintro e w5 ⟨rfl, hb5⟩; have HQ5 := Lib.hid (pt HQt.out hb5); have T5 := Lib.hid (T4.out.past hb5); clear hb5)
    | (go_at_call 30; (go_must (refine (HR2.out _).mono ?_)); rintro e w6 ⟨rfl, hb6⟩; have HQ6 := Lib.hid (pt HQ5.out hb6); have T6 := Lib.hid (T5.out.past hb6); clear hb6; have t0 := T6.out.cellAt 0 rfl; have t1 := T6.out.cellAt 1 rfl; have tl := T6.out.lt; have HQu := Lib.hid (show Below w0.heap.size w0 (w6.alloc (.cells #[.int .i64 q1, .int .i64 q2] 32)) from pa HQ6.out))
    | (go_at_call 42; (go_must (refine (HSp.out _).mono ?_)); rintro e w7 ⟨rfl, hb7⟩; have HQ7 := Lib.hid (pt HQu.out hb7); have Z7 := Lib.hid (Z0.out.past HQ7.out); clear hb7)
    | ((with_reducible refine store_blk (T := 53) (x := .tmp 6) (y := .tmp 85) (vs := #[.int .i64 s1, .int .i64 s2, .int .i64 s3, .int .i64 s4]) Z7.out ?_ ?_ ?_ ?_ ?_ ?_); (focus rfl); (focus exact span_size); (focus (simp [Value.oneCell']; done)); (focus (first | rfl | (go_simp; done))); (focus (first | rfl | (go_simp; done))); intro WF RF PF))
  have r0 := RF.cellAt 0 rfl
  have r1 := RF.cellAt 1 rfl
  have r2 := RF.cellAt 2 rfl
  have r3 := RF.cellAt 3 rfl
  refine bodyPost_ret (v := .tuple #[.agg #[.int .i64 s1, .int .i64 s2, .int .i64 s3, .int .i64 s4], .int .i64 s5]) (by simp [results, Try.results21, go_sem, r0, r1, r2, r3]) rfl ?_
  exact ⟨rfl, pp (HWw.out _ HQ7.out) PF (by omega)⟩
end Go.Proofs.Ytapegimghfflhaa
end
