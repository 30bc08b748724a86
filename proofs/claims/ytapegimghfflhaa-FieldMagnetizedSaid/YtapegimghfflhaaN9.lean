/- Contracts: isBelowAt, isBelow (package field). -/
import Derived.Test.YtapegimghfflhaaN4
import Derived.Test.YtapegimghfflhaaMi
import Derived.Test.YtapegimghfflhaaN8
import Derived.LoopN

section
namespace Go.Proofs.Ytapegimghfflhaa
open Go.RowKit

/-- The drops of two curves at a flux, compared. -/
def atB (lo hi : List DTerm) (x : Int) : Bool := decide ((dropF x (pieceL lo)).1 * (dropF x (pieceL hi)).2 ≤ (dropF x (pieceL hi)).1 * (dropF x (pieceL lo)).2)
def farTo (f0 : Int) (ps : List DTerm) : Nat → Int
  | 0 => f0
  | k + 1 => max (farTo f0 ps k) (ps.getD k default).f
def allB (lo hi ps : List DTerm) : Bool := ps.all fun t => atB lo hi t.f
def farV (lo hi : List DTerm) : Int := farTo (farTo 0 lo lo.length) hi hi.length
def slopeB (lo hi : List DTerm) : Bool := decide ((slopeV lo).2 * (slopeV hi).1 ≤ (slopeV hi).2 * (slopeV lo).1)
/-- Whether a curve is below another one. -/
def belowV (lo hi : List DTerm) : Bool := allB lo hi lo && (allB lo hi hi && (slopeB lo hi && atB lo hi (farV lo hi + 1)))
theorem max_if (a b : Int) : (if a < b then b else a) = max a b := by
  rw [Int.max_def]
  split <;> split <;> omega
theorem farTo_bd {ps : List DTerm} (h : CurveOk ps) {f0 : Int} (h0 : 0 ≤ f0 ∧ f0 ≤ 1000) : ∀ k, k ≤ ps.length → 0 ≤ farTo f0 ps k ∧ farTo f0 ps k ≤ 1000
  | 0, _ => h0
  | k + 1, hk => by
    have ih := farTo_bd h h0 k (by omega)
    obtain ⟨h1, _⟩ := h.pts k (by omega)
    rw [farTo]
    omega
theorem all_at {ps : List DTerm} {p : DTerm → Bool} (h : ∀ j, j < ps.length → p (ps.getD j default) = true) : ps.all p = true := by
  rw [List.all_eq_true]
  intro x hx
  obtain ⟨j, hj, e⟩ := List.getElem_of_mem hx
  have := h j hj
  rw [List.getD_eq_getElem?_getD, List.getElem?_eq_getElem hj] at this
  simpa [e] using this
theorem all_not {ps : List DTerm} {p : DTerm → Bool} {j : Nat} (hj : j < ps.length) (h : p (ps.getD j default) = false) : ps.all p = false := by
  rw [List.all_eq_false]
  refine ⟨ps.getD j default, ?_, by rw [h]; decide⟩
  rw [List.getD_eq_getElem?_getD, List.getElem?_eq_getElem hj]
  exact List.getElem_mem hj
theorem slope_bd {cv : List DTerm} (h : CurveOk cv) : (0 ≤ (slopeV cv).1 ∧ (slopeV cv).1 ≤ 1000) ∧ 0 ≤ (slopeV cv).2 ∧ (slopeV cv).2 ≤ 1000 := by
  have hl := h.len
  have e : pieceL cv = (pieceL cv).take (cv.length - 1) ++ [pieceAt cv (cv.length - 1)] := by
    rw [← pieceL_take (by omega), show cv.length - 1 + 1 = (pieceL cv).length by rw [pieceL_len]; omega, List.take_length]
  obtain ⟨a, b, u, s, h1, h2, h3, h4⟩ := piece_nums h (show cv.length - 1 < cv.length by omega)
  unfold slopeV
  rw [e, lastBy_snoc, h1]
  dsimp only
  omega

set_option maxHeartbeats 2000000 in
theorem isBelowAt_any (B : Nat) (lo hi : List DTerm) (A1 A2 : Option Addr) (n1 c1 n2 c2 : Nat) (x : Int) (w : World) (hr1 : CellsIn B w A1 (termsC lo)) (hr2 : CellsIn B w A2 (termsC hi)) (hB : B ≤ w.heap.size) (hn1 : lo.length = n1) (hn2 : hi.length = n2) (h1 : CurveOk lo) (h2 : CurveOk hi) (hx : 0 ≤ x ∧ x ≤ 100000) (v : Bool) (hv : atB lo hi x = v) :
    Calls Try.prog 60 #[.agg #[.slice A1 n1 c1], .agg #[.slice A2 n2 c2], .int .i64 x] w fun e w' => e = .returned (.bool v) ∧ Below w.heap.size w w' := by
  have HD1 := Lib.hid (fun W (hW : Below w.heap.size w W) => drop_any B lo A1 n1 c1 x W (hr1.below (hW.mono hB)) (Nat.le_trans hB hW.size) hn1 (curve_pts h1) (by omega))
  have HD2 := Lib.hid (fun W (hW : Below w.heap.size w W) => drop_any B hi A2 n2 c2 x W (hr2.below (hW.mono hB)) (Nat.le_trans hB hW.size) hn2 (curve_pts h2) (by omega))
  obtain ⟨p1, p2⟩ := drop_bd h1 hx.1 hx.2
  obtain ⟨q1, q2⟩ := drop_bd h2 hx.1 hx.2
  have HV := Lib.hid (show decide ((dropF x (pieceL lo)).1 * (dropF x (pieceL hi)).2 ≤ (dropF x (pieceL hi)).1 * (dropF x (pieceL lo)).2) = v from hv)
  clear hr1 hr2 hn1 hn2 h1 h2 hv hx
  generalize dropF x (pieceL lo) = d1 at *
  generalize dropF x (pieceL hi) = d2 at *
  obtain ⟨a, b⟩ := d1
  obtain ⟨c, d⟩ := d2
  dsimp only at *
  have m1 := mul_absI (A := 101000000) (B := 1000) (a := a) (b := d) (by omega) (by omega)
  have m2 := mul_absI (A := 101000000) (B := 1000) (a := c) (b := b) (by omega) (by omega)
  have ra : wrap64 (a * d) = a * d := w64 (by omega)
  have rai : IntKind.i64.wrap (a * d) = a * d := IntWalk.i64_in _ (by omega)
  have rb : wrap64 (c * b) = c * b := w64 (by omega)
  have rbi : IntKind.i64.wrap (c * b) = c * b := IntWalk.i64_in _ (by omega)
  clear m1 m2 p1 p2 q1 q2
  have HB0 := Lib.hid (show Below w.heap.size w ((w.alloc (.cells #[.slice A1 n1 c1] 24)).alloc (.cells #[.slice A2 n2 c2] 24)) from pa (pa pr))
  have R0 := Lib.hid (show Blk ((w.alloc (.cells #[.slice A1 n1 c1] 24)).alloc (.cells #[.slice A2 n2 c2] 24)) w.heap.size 24 #[.slice A1 n1 c1] from (Blk.newAt rfl).alloc)
  have R1 := Lib.hid (show Blk ((w.alloc (.cells #[.slice A1 n1 c1] 24)).alloc (.cells #[.slice A2 n2 c2] 24)) (w.heap.size + 1) 24 #[.slice A2 n2 c2] from Blk.newAt (by simp))
  have hmark := True.intro
  go_enter Try.func60, Try.ntmps60
  go_wp2_with (first
    | (go_at_call 29; (clear hmark); (refine (HD1.out _ HB0.out).mono ?_); rintro e w1 ⟨rfl, hb1⟩; have HB1 := Lib.hid (pt HB0.out hb1); have R2 := Lib.hid (R1.out.past hb1); clear hb1; have x0 := R2.out.cellAt 0 rfl; have xl := R2.out.lt)
    | (go_at_call 29; (go_must (refine (HD2.out _ HB1.out).mono ?_)); rintro e w2 ⟨rfl, hb2⟩; have HB2 := Lib.hid (pt HB1.out hb2); clear hb2))
  go_ret
  exact ⟨ret_bool HV.out, HB2.out⟩
theorem two_c0 (A1 A2 : Option Addr) (n1 c1 n2 c2 : Nat) (W : World) : (Instr.index 116 (.agg #[.slice A1 n1 c1, .slice A2 n2 c2]) (.int .i64 0)).run Try.prog W = .ok (.agg #[.slice A1 n1 c1]) W := by kernel_rfl
theorem two_c1 (A1 A2 : Option Addr) (n1 c1 n2 c2 : Nat) (W : World) : (Instr.index 116 (.agg #[.slice A1 n1 c1, .slice A2 n2 c2]) (.int .i64 1)).run Try.prog W = .ok (.agg #[.slice A2 n2 c2]) W := by kernel_rfl

set_option maxHeartbeats 8000000 in
set_option maxRecDepth 100000 in
theorem isBelow_any (B : Nat) (lo hi : List DTerm) (A1 A2 : Option Addr) (n1 c1 n2 c2 : Nat) (w : World) (hr1 : CellsIn B w A1 (termsC lo)) (hr2 : CellsIn B w A2 (termsC hi)) (hB : B ≤ w.heap.size) (hn1 : lo.length = n1) (hn2 : hi.length = n2) (h1 : CurveOk lo) (h2 : CurveOk hi) :
    Calls Try.prog 45 #[.agg #[.slice A1 n1 c1], .agg #[.slice A2 n2 c2]] w fun e w' => e = .returned (.bool (belowV lo hi)) ∧ Below w.heap.size w w' := by
  have hl1 := h1.len
  have hl2 := h2.len
  have HO1 := Lib.hid h1
  have HO2 := Lib.hid h2
  have HAt := Lib.hid (fun W (hW : Below w.heap.size w W) x (hx : 0 ≤ x ∧ x ≤ 100000) (v : Bool) (hv : atB lo hi x = v) => isBelowAt_any B lo hi A1 A2 n1 c1 n2 c2 x W (hr1.below (hW.mono hB)) (hr2.below (hW.mono hB)) (Nat.le_trans hB hW.size) hn1 hn2 h1 h2 hx v hv)
  have HS1 := Lib.hid (fun W (hW : Below w.heap.size w W) => slope_any B lo A1 n1 c1 W (hr1.below (hW.mono hB)) (Nat.le_trans hB hW.size) hn1 (curve_pts h1))
  have HS2 := Lib.hid (fun W (hW : Below w.heap.size w W) => slope_any B hi A2 n2 c2 W (hr2.below (hW.mono hB)) (Nat.le_trans hB hW.size) hn2 (curve_pts h2))
  have HX1 := Lib.hid (fun W (hW : Below w.heap.size w W) => hr1.below (hW.mono hB))
  have HX2 := Lib.hid (fun W (hW : Below w.heap.size w W) => hr2.below (hW.mono hB))
  have HN1 := Lib.hid hn1
  have HN2 := Lib.hid hn2
  have HV := Lib.hid (show belowV lo hi = (allB lo hi lo && (allB lo hi hi && (slopeB lo hi && atB lo hi (farV lo hi + 1)))) from rfl)
  rw [hn1] at hl1
  rw [hn2] at hl2
  clear hr1 hr2 hn1 hn2 h1 h2
  generalize belowV lo hi = V at *
  have HBz := Lib.hid (show Below w.heap.size w ((w.alloc (.cells #[.slice A1 n1 c1] 24)).alloc (.cells #[.slice A2 n2 c2] 24)) from pa (pa pr))
  have Rz0 := Lib.hid (show Blk ((w.alloc (.cells #[.slice A1 n1 c1] 24)).alloc (.cells #[.slice A2 n2 c2] 24)) w.heap.size 24 #[.slice A1 n1 c1] from (Blk.newAt rfl).alloc)
  have Rz1 := Lib.hid (show Blk ((w.alloc (.cells #[.slice A1 n1 c1] 24)).alloc (.cells #[.slice A2 n2 c2] 24)) (w.heap.size + 1) 24 #[.slice A2 n2 c2] from Blk.newAt (by simp))
  go_enter Try.func45, Try.ntmps45
  go_wp2
  generalize (w.alloc (.cells #[.slice A1 n1 c1] 24)).alloc (.cells #[.slice A2 n2 c2] 24) = w0 at *
  have HXc := Lib.hid (fun W (hW : Below w0.heap.size w0 W) => (show W.cell? ⟨w.heap.size, 0, none⟩ = some (.slice A1 n1 c1) ∧ W.cell? ⟨w.heap.size + 1, 0, none⟩ = some (.slice A2 n2 c2) ∧ w.heap.size < W.heap.size ∧ w.heap.size + 1 < W.heap.size from ⟨(Rz0.out.past hW).cellAt 0 rfl, (Rz1.out.past hW).cellAt 0 rfl, (Rz0.out.past hW).lt, (Rz1.out.past hW).lt⟩))
  obtain ⟨s1, hs1⟩ : ∃ s, s = w.heap.size + 1 := ⟨_, rfl⟩
  rw [← hs1] at HXc Rz1 ⊢
  clear hs1
  have HWw := Lib.hid (fun W (hW : Below w0.heap.size w0 W) => (show Below w.heap.size w W from HBz.out.trans (hW.mono HBz.out.size)))
  have hx0 := fun W => two_c0 A1 A2 n1 c1 n2 c2 W
  have hx1 := fun W => two_c1 A1 A2 n1 c1 n2 c2 W
  obtain ⟨x0, x1, xl0, xl1⟩ := HXc.out w0 pr
  clear Rz0 Rz1 HBz
  go_wp2
  clear x0 x1 xl0 xl1
  refine wp_loop_rounds 3 ?_
  rw [rounds_succ]
  go_wp2
  have HPc1 := Lib.hid (show Below w0.heap.size w0 (w0.alloc (.cells #[.slice A1 n1 c1] 24)) from pa pr)
  generalize w0.alloc (.cells #[.slice A1 n1 c1] 24) = wi1 at *
  go_loopw [5, 21] (fun fv iv wr => ∃ k : Nat, iv = .int .i64 (k : Int) ∧ k ≤ n1 ∧ fv = .int .i64 (farTo 0 lo k) ∧ (∀ j, j < k → atB lo hi (lo.getD j default).f = true) ∧ Below w0.heap.size w0 wr) (fun _ iv _ => n1 - (intOf iv).toNat)
  case atStart => exact ⟨0, rfl, Nat.zero_le _, rfl, fun j hj => absurd hj (Nat.not_lt_zero _), HPc1.out⟩
  case round =>
    clear HPc1
    obtain ⟨k, rfl, hk, rfl, hall, hq⟩ := hrel
    have HAll := Lib.hid hall
    have HQ := Lib.hid hq
    clear hall hq
    by_cases hlk : k < n1
    · have hk' : k < lo.length := by rw [HN1.out]; exact hlk
      obtain ⟨b, off, hAe, hb, hct⟩ := terms_at (HX1.out wr (HWw.out wr HQ.out)) hk'
      obtain ⟨u0, u1⟩ := hct k hk'
      have hbw : b < wr.heap.size := Nat.lt_of_lt_of_le hb (Nat.le_trans hB (HWw.out wr HQ.out).size)
      obtain ⟨p1, _⟩ := HO1.out.pts k hk'
      have HNf := Lib.hid (show farTo 0 lo (k + 1) = max (farTo 0 lo k) (lo.getD k default).f from rfl)
      have HAx := Lib.hid (fun W hW (v : Bool) hv => HAt.out W hW (lo.getD k default).f ⟨by omega, by omega⟩ v hv)
      have HStep := Lib.hid (fun (h : atB lo hi (lo.getD k default).f = true) => (show ∀ j, j < k + 1 → atB lo hi (lo.getD j default).f = true from fun j hj => by
        by_cases e : j = k
        · rw [e]; exact h
        · exact HAll.out j (by omega)))
      have HNo := Lib.hid (fun (h : atB lo hi (lo.getD k default).f = false) => (show V = false from by
        rw [HV.out, show allB lo hi lo = false from all_not (p := fun t => atB lo hi t.f) hk' h]
        simp))
      have k0 : (0 : Int) ≤ (k : Int) := by omega
      have k1 : (k : Int) < (n1 : Int) := by omega
      clear hct hb hk'
      generalize lo.getD k default = x at *
      obtain ⟨xf, xq⟩ := x
      dsimp only at *
      generalize farTo 0 lo k = fk at *
      have HP1 := Lib.hid (show Blk (wr.alloc (.cells #[.int .i64 xf, .int .i64 xq] 89)) wr.heap.size 89 #[.int .i64 xf, .int .i64 xq] from Blk.newAt rfl)
      have HQ1 := Lib.hid (show Below w0.heap.size w0 (wr.alloc (.cells #[.int .i64 xf, .int .i64 xq] 89)) from pa HQ.out)
      obtain ⟨x0, x1, xl0, xl1⟩ := HXc.out wr HQ.out
      have HFin := Lib.hid hAe
      cases hb : atB lo hi xf
      · have hVf := HNo.out hb
        have HAz := Lib.hid (fun W hW => HAx.out W hW false hb)
        have HVf := Lib.hid hVf
        subst hAe
        go_wp2_with (go_at_call 60; (go_must (refine (HAz.out _ (HWw.out _ HQ1.out)).mono ?_)); rintro e w5 ⟨rfl, hb5⟩; have HQ5 := Lib.hid (pt HQ1.out hb5); clear hb5)
        go_ret
        exact ⟨ret_bool HVf.out.symm, HWw.out _ HQ5.out⟩
      · have HAz := Lib.hid (fun W hW => HAx.out W hW true hb)
        have HSt := Lib.hid (HStep.out hb)
        clear hb HStep HNo
        subst hAe
        go_wp2_with (first
          | (go_at_call 60; (go_must (refine (HAz.out _ (HWw.out _ HQ1.out)).mono ?_)); rintro e w5 ⟨rfl, hb5⟩; have HQ5 := Lib.hid (pt HQ1.out hb5); have HP5 := Lib.hid (HP1.out.past hb5); clear hb5; have y0 := HP5.out.cellAt 0 rfl; have yl := HP5.out.lt))
        all_goals
          go_roundw
          case rel => exact ⟨k + 1, by go_num, by omega, by rw [HNf.out, max_if], HSt.out, HQ5.out⟩
          case measure => simp [intOf]; omega
    · have z6 : ¬ (k : Int) < (n1 : Int) := by omega
      have HAl := Lib.hid (show allB lo hi lo = true from all_at (p := fun t => atB lo hi t.f) fun j hj => HAll.out j (by rw [HN1.out] at hj; omega))
      have HFk := Lib.hid (show farTo 0 lo k = farTo 0 lo lo.length from by rw [show k = lo.length by rw [HN1.out]; omega])
      have HAl1 := HAl
      have HFb1 := Lib.hid (farTo_bd HO1.out (f0 := 0) (by decide) lo.length (Nat.le_refl _))
      rw [HFk.out]
      generalize hf1 : farTo 0 lo lo.length = F1 at *
      have HF1 := Lib.hid hf1
      clear hf1 HFk
      have HQk := Lib.hid HQ.out
      obtain ⟨wk, hwk⟩ : ∃ wk : World, wk = wr := ⟨_, rfl⟩
      subst hwk
      clear HQ HAl HAll
      go_wp2
      rw [rounds_succ]
      go_wp2
      have HPc2 := Lib.hid (show Below w0.heap.size w0 (wk.alloc (.cells #[.slice A2 n2 c2] 24)) from pa HQk.out)
      generalize wk.alloc (.cells #[.slice A2 n2 c2] 24) = wi2 at *
      go_loopw [5, 21] (fun fv iv wr => ∃ k : Nat, iv = .int .i64 (k : Int) ∧ k ≤ n2 ∧ fv = .int .i64 (farTo F1 hi k) ∧ (∀ j, j < k → atB lo hi (hi.getD j default).f = true) ∧ Below w0.heap.size w0 wr) (fun _ iv _ => n2 - (intOf iv).toNat)
      case atStart => exact ⟨0, rfl, Nat.zero_le _, rfl, fun j hj => absurd hj (Nat.not_lt_zero _), HPc2.out⟩
      case round =>
        clear HPc2
        obtain ⟨k, rfl, hk, rfl, hall, hq⟩ := hrel
        have HAll := Lib.hid hall
        have HQ := Lib.hid hq
        clear hall hq
        by_cases hlk : k < n2
        · have hk' : k < hi.length := by rw [HN2.out]; exact hlk
          obtain ⟨b, off, hAe, hb, hct⟩ := terms_at (HX2.out wr (HWw.out wr HQ.out)) hk'
          obtain ⟨u0, u1⟩ := hct k hk'
          have hbw : b < wr.heap.size := Nat.lt_of_lt_of_le hb (Nat.le_trans hB (HWw.out wr HQ.out).size)
          obtain ⟨p1, _⟩ := HO2.out.pts k hk'
          have HNf := Lib.hid (show farTo F1 hi (k + 1) = max (farTo F1 hi k) (hi.getD k default).f from rfl)
          have HAx := Lib.hid (fun W hW (v : Bool) hv => HAt.out W hW (hi.getD k default).f ⟨by omega, by omega⟩ v hv)
          have HStep := Lib.hid (fun (h : atB lo hi (hi.getD k default).f = true) => (show ∀ j, j < k + 1 → atB lo hi (hi.getD j default).f = true from fun j hj => by
            by_cases e : j = k
            · rw [e]; exact h
            · exact HAll.out j (by omega)))
          have HNo := Lib.hid (fun (h : atB lo hi (hi.getD k default).f = false) => (show V = false from by
            rw [HV.out, show allB lo hi hi = false from all_not (p := fun t => atB lo hi t.f) hk' h]
            simp))
          have k0 : (0 : Int) ≤ (k : Int) := by omega
          have k1 : (k : Int) < (n2 : Int) := by omega
          clear hct hb hk'
          generalize hi.getD k default = x at *
          obtain ⟨xf, xq⟩ := x
          dsimp only at *
          generalize farTo F1 hi k = fk at *
          have HP1 := Lib.hid (show Blk (wr.alloc (.cells #[.int .i64 xf, .int .i64 xq] 89)) wr.heap.size 89 #[.int .i64 xf, .int .i64 xq] from Blk.newAt rfl)
          have HQ1 := Lib.hid (show Below w0.heap.size w0 (wr.alloc (.cells #[.int .i64 xf, .int .i64 xq] 89)) from pa HQ.out)
          obtain ⟨x0, x1, xl0, xl1⟩ := HXc.out wr HQ.out
          have HFin := Lib.hid hAe
          cases hb : atB lo hi xf
          · have hVf := HNo.out hb
            have HAz := Lib.hid (fun W hW => HAx.out W hW false hb)
            have HVf := Lib.hid hVf
            subst hAe
            go_wp2_with (go_at_call 60; (go_must (refine (HAz.out _ (HWw.out _ HQ1.out)).mono ?_)); rintro e w5 ⟨rfl, hb5⟩; have HQ5 := Lib.hid (pt HQ1.out hb5); clear hb5)
            go_ret
            exact ⟨ret_bool HVf.out.symm, HWw.out _ HQ5.out⟩
          · have HAz := Lib.hid (fun W hW => HAx.out W hW true hb)
            have HSt := Lib.hid (HStep.out hb)
            clear hb HStep HNo
            subst hAe
            go_wp2_with (first
              | (go_at_call 60; (go_must (refine (HAz.out _ (HWw.out _ HQ1.out)).mono ?_)); rintro e w5 ⟨rfl, hb5⟩; have HQ5 := Lib.hid (pt HQ1.out hb5); have HP5 := Lib.hid (HP1.out.past hb5); clear hb5; have y0 := HP5.out.cellAt 0 rfl; have yl := HP5.out.lt))
            all_goals
              go_roundw
              case rel => exact ⟨k + 1, by go_num, by omega, by rw [HNf.out, max_if], HSt.out, HQ5.out⟩
              case measure => simp [intOf]; omega
        · have z6 : ¬ (k : Int) < (n2 : Int) := by omega
          have HAl := Lib.hid (show allB lo hi hi = true from all_at (p := fun t => atB lo hi t.f) fun j hj => HAll.out j (by rw [HN2.out] at hj; omega))
          have HFk := Lib.hid (show farTo F1 hi k = farTo F1 hi hi.length from by rw [show k = hi.length by rw [HN2.out]; omega])
          have HFb2 := Lib.hid (farTo_bd HO2.out HFb1.out hi.length (Nat.le_refl _))
          have HFv := Lib.hid (show farV lo hi = farTo F1 hi hi.length from by unfold farV; rw [HF1.out])
          have HVe := Lib.hid (show V = (slopeB lo hi && atB lo hi (farTo F1 hi hi.length + 1)) from by rw [HV.out, HAl1, HAl, HFv.out]; simp)
          rw [HFk.out]
          generalize farTo F1 hi hi.length = F2 at *
          have hfb := HFb2.out
          obtain ⟨b1, b2⟩ := slope_bd HO1.out
          obtain ⟨b3, b4⟩ := slope_bd HO2.out
          have HAf := Lib.hid (fun W hW (v : Bool) hv => HAt.out W hW (F2 + 1) ⟨by omega, by omega⟩ v hv)
          have HSl := Lib.hid (show slopeB lo hi = decide ((slopeV lo).2 * (slopeV hi).1 ≤ (slopeV hi).2 * (slopeV lo).1) from rfl)
          clear HAl HAl1 HV HAt HAll
          generalize slopeB lo hi = sb at *
          generalize slopeV lo = sl at *
          generalize slopeV hi = sh at *
          obtain ⟨p1, p2⟩ := sl
          obtain ⟨p3, p4⟩ := sh
          dsimp only at *
          have m1 := mul_absI (A := 1000) (B := 1000) (a := p2) (b := p3) (by omega) (by omega)
          have m2 := mul_absI (A := 1000) (B := 1000) (a := p4) (b := p1) (by omega) (by omega)
          have ra : wrap64 (p2 * p3) = p2 * p3 := w64 (by omega)
          have rai : IntKind.i64.wrap (p2 * p3) = p2 * p3 := IntWalk.i64_in _ (by omega)
          have rb : wrap64 (p4 * p1) = p4 * p1 := w64 (by omega)
          have rbi : IntKind.i64.wrap (p4 * p1) = p4 * p1 := IntWalk.i64_in _ (by omega)
          have rc : wrap64 (F2 + 1) = F2 + 1 := w64 (by omega)
          have rci : IntKind.i64.wrap (F2 + 1) = F2 + 1 := IntWalk.i64_in _ (by omega)
          clear m1 m2 b1 b2 b3 b4 hfb
          obtain ⟨x0, x1, xl0, xl1⟩ := HXc.out wr HQ.out
          go_wp2
          rw [rounds_succ]
          go_wp2
          refine region_allocC2 (zc1 := (.cells #[.int .i64 0, .int .i64 0] 89)) (zc2 := (.cells #[.int .i64 0, .int .i64 0] 89)) 4 follows_mixed (by kernel_rfl) rfl rfl (fun _ _ => by kernel_rfl) (fun _ _ => by kernel_rfl) ?_
          simp only [List.take_succ_cons, List.take_zero, List.drop_succ_cons, List.drop_zero]
          repeat (first
            | ((with_reducible apply grow_plain); (focus rfl); (focus (intro w' hw; obtain ⟨hcq, hfq⟩ := bcell hw; go_simp; (first | done | rfl | (with_reducible exact HS1.out _ (HWw.out _ (pt HQ.out hw))) | (with_reducible exact HS2.out _ (HWw.out _ (pt HQ.out hw)))))); (simp only [Act.put, List.setIfInBounds_toArray, List.set_cons_succ, List.set_cons_zero]))
            | ((with_reducible apply grow_skip); (focus (first | (simp [Region.wanted, yielded]; done) | (simp [Region.wanted, yielded, undef]; done))); simp only [Act.put, List.setIfInBounds_toArray, List.set_cons_succ, List.set_cons_zero])
            | ((with_reducible apply grow_go); (focus (first | (simp [Region.wanted, yielded]; done) | (simp [Region.wanted, yielded, undef]; done))); (focus (intro w' hw; obtain ⟨hcq, hfq⟩ := bcell hw; go_simp; (first | done | rfl | (with_reducible exact HS1.out _ (HWw.out _ (pt HQ.out hw))) | (with_reducible exact HS2.out _ (HWw.out _ (pt HQ.out hw)))))); (simp only [Act.put, List.setIfInBounds_toArray, List.set_cons_succ, List.set_cons_zero])))
          refine grow_nil ?_
          intro qb1 qb2 w1 hb1 hn1 hn2 hq12
          simp only [List.setIfInBounds_toArray, List.set_cons_succ, List.set_cons_zero]
          have A_1 : Blk w1 qb1 89 #[.int .i64 0, .int .i64 0] := hn1.at_
          have B_1 : Blk w1 qb2 89 #[.int .i64 0, .int .i64 0] := hn2.at_
          have geA : wr.heap.size ≤ qb1 := hn1.ge
          have geB : wr.heap.size ≤ qb2 := hn2.ge
          have HQ1 := Lib.hid (pt HQ.out hb1)
          have hqs := HQ.out.size
          clear hb1 hn1 hn2 x0 x1 xl0 xl1
          obtain ⟨x0, x1, xl0, xl1⟩ := HXc.out w1 HQ1.out
          by_cases hsl : p2 * p3 ≤ p4 * p1
          · have HVt := Lib.hid (show V = atB lo hi (F2 + 1) from by rw [HVe.out, HSl.out, decide_eq_true hsl]; simp)
            generalize hav : atB lo hi (F2 + 1) = av at *
            have HAv := Lib.hid (fun W hW => HAf.out W hW av rfl)
            clear HVe HSl hav
            go_wp2_with (first
              | ((with_reducible refine store_blk (T := 89) (x := .tmp 10) (y := .tmp 38) (vs := #[.int .i64 p1, .int .i64 p2]) A_1 ?_ ?_ ?_ ?_ ?_ ?_); (focus rfl); (focus exact points_two); (focus (simp [Value.oneCell']; done)); (focus (first | rfl | (go_simp; done))); (focus (first | rfl | (go_simp; done))); intro w2 RA PA; have B_2 := B_1.put PA hq12.symm; have HQ2 := Lib.hid (HQ1.out.trans (PA.below _ (by omega))))
              | ((with_reducible refine store_blk (T := 89) (x := .tmp 11) (y := .tmp 40) (vs := #[.int .i64 p3, .int .i64 p4]) B_2 ?_ ?_ ?_ ?_ ?_ ?_); (focus rfl); (focus exact points_two); (focus (simp [Value.oneCell']; done)); (focus (first | rfl | (go_simp; done))); (focus (first | rfl | (go_simp; done))); intro w3 RB PB; have A_3 := RA.put PB hq12; have HQ3 := Lib.hid (HQ2.out.trans (PB.below _ (by omega))); clear x0 x1 xl0 xl1; obtain ⟨x0, x1, xl0, xl1⟩ := HXc.out w3 HQ3.out; have a0 := A_3.cellAt 0 rfl; have a1 := A_3.cellAt 1 rfl; have al := A_3.lt; have c0 := RB.cellAt 0 rfl; have c1 := RB.cellAt 1 rfl; have cl := RB.lt)
              | (go_at_call 60; (go_must (refine (HAv.out _ (HWw.out _ HQ3.out)).mono ?_)); rintro e w5 ⟨rfl, hb5⟩; have HQ5 := Lib.hid (pt HQ3.out hb5); clear hb5))
            go_ret
            exact ⟨ret_bool HVt.out.symm, HWw.out _ HQ5.out⟩
          · have HVt := Lib.hid (show V = false from by rw [HVe.out, HSl.out, decide_eq_false hsl]; simp)
            have hsl2 : p4 * p1 < p2 * p3 := by omega
            clear HVe HSl
            go_wp2_with (first
              | ((with_reducible refine store_blk (T := 89) (x := .tmp 10) (y := .tmp 38) (vs := #[.int .i64 p1, .int .i64 p2]) A_1 ?_ ?_ ?_ ?_ ?_ ?_); (focus rfl); (focus exact points_two); (focus (simp [Value.oneCell']; done)); (focus (first | rfl | (go_simp; done))); (focus (first | rfl | (go_simp; done))); intro w2 RA PA; have B_2 := B_1.put PA hq12.symm; have HQ2 := Lib.hid (HQ1.out.trans (PA.below _ (by omega))))
              | ((with_reducible refine store_blk (T := 89) (x := .tmp 11) (y := .tmp 40) (vs := #[.int .i64 p3, .int .i64 p4]) B_2 ?_ ?_ ?_ ?_ ?_ ?_); (focus rfl); (focus exact points_two); (focus (simp [Value.oneCell']; done)); (focus (first | rfl | (go_simp; done))); (focus (first | rfl | (go_simp; done))); intro w3 RB PB; have A_3 := RA.put PB hq12; have HQ3 := Lib.hid (HQ2.out.trans (PB.below _ (by omega))); clear x0 x1 xl0 xl1; obtain ⟨x0, x1, xl0, xl1⟩ := HXc.out w3 HQ3.out; have a0 := A_3.cellAt 0 rfl; have a1 := A_3.cellAt 1 rfl; have al := A_3.lt; have c0 := RB.cellAt 0 rfl; have c1 := RB.cellAt 1 rfl; have cl := RB.lt))
            go_ret
            exact ⟨ret_bool HVt.out.symm, HWw.out _ HQ3.out⟩
end Go.Proofs.Ytapegimghfflhaa
end
