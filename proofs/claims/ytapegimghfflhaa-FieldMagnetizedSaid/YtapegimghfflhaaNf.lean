/- Plain law: the fluxes of FieldMagnetized, with their errors. No program is in sight.
Contracts of the specification: CheckCurve, CurveErr (chapter 3). -/
import Derived.Test.YtapegimghfflhaaNa
import Derived.Test.YtapegimghfflhaaNd

section
namespace Go.Proofs.Ytapegimghfflhaa

theorem flxE_in {cv : List DTerm} (h : (curveC cv).2 = 0) {g t : Int} (hg : 0 ≤ g ∧ g ≤ 20) (ht : -100000 ≤ t ∧ t ≤ 100000) : flxE cv g t = flxV cv g t := by
  have e : flxE1 cv g t = 0 := by
    unfold flxE1
    rw [h, show (withinB g 0 20 && withinB t (-100000) 100000) = true by unfold withinB; simp; omega]
    rfl
  unfold flxE
  rw [if_neg (by simpa using e)]
theorem dropE_in {cv : List DTerm} (h : (curveC cv).2 = 0) {f : Int} (hf : -100000 ≤ f ∧ f ≤ 100000) : dropE cv f = dropV cv f := by
  have e : dropE1 cv f = 0 := by
    unfold dropE1
    rw [h, show withinB f (-100000) 100000 = true by unfold withinB; simp; omega]
    rfl
  unfold dropE
  rw [if_neg (by simpa using e)]
/-- What is claimed of a drop and four fluxes. -/
structure MagOk (cv : List DTerm) (f g : Int) (V0 V1 V2 V3 V4 : Int × Int × Int) : Prop where
  e0 : V0.2.2 = 0 ∨ V0.2.2 = 8
  found : V0.2.2 = 0 → V0.2.1 = 1 → -50000 ≤ V0.1 → V0.1 ≤ 50000 → flxE cv g (V0.1 + g * f) = (f, 1, 0)
  opp : V2 = (-V1.1, V1.2.1, V1.2.2)
  e1 : V1.2.2 = 0 ∨ V1.2.2 = 8
  e3 : V3.2.2 = 0 ∨ V3.2.2 = 8
  e4 : V4.2.2 = 0 ∨ V4.2.2 = 8
  b1 : V1.2.2 = 0 → (0 ≤ V1.1 ∧ V1.1 ≤ 1000000000) ∧ 1 ≤ V1.2.1 ∧ V1.2.1 ≤ 1000000000
  b3 : V3.2.2 = 0 → (0 ≤ V3.1 ∧ V3.1 ≤ 1000000000) ∧ 1 ≤ V3.2.1 ∧ V3.2.1 ≤ 1000000000
  b4 : V4.2.2 = 0 → (0 ≤ V4.1 ∧ V4.1 ≤ 1000000000) ∧ 1 ≤ V4.2.1 ∧ V4.2.1 ≤ 1000000000
  m3 : V1.2.2 = 0 → V3.2.2 = 0 → V1.1 * V3.2.1 ≤ V3.1 * V1.2.1
  m4 : V1.2.2 = 0 → V4.2.2 = 0 → V4.1 * V1.2.1 ≤ V1.1 * V4.2.1
theorem mk3 {V : Int × Int × Int} (h : V.2.2 = 0) : V = (V.1, V.2.1, 0) := by
  obtain ⟨a, b, c⟩ := V
  dsimp only at h
  rw [h]
theorem err3 {V : Int × Int × Int} (h : V.2.2 = 0 ∨ V = (0, 0, 8)) : V.2.2 = 0 ∨ V.2.2 = 8 := by
  rcases h with h | h
  · exact .inl h
  · rw [h]; exact .inr rfl
theorem mag_ok {cv : List DTerm} (hc : (curveC cv).2 = 0) {f g t more : Int} (hf : -2000 ≤ f ∧ f ≤ 2000) (hg : 0 ≤ g ∧ g ≤ 19) (ht : 0 ≤ t ∧ t ≤ 99000) (hm : 0 ≤ more ∧ more ≤ 1000) : MagOk cv f g (dropE cv f) (flxE cv g t) (flxE cv g (-t)) (flxE cv g (t + more)) (flxE cv (g + 1) t) := by
  have h := curve_ok hc
  rw [dropE_in hc (by omega), flxE_in hc (show 0 ≤ g ∧ g ≤ 20 by omega) (show -100000 ≤ t ∧ t ≤ 100000 by omega), flxE_in hc (show 0 ≤ g ∧ g ≤ 20 by omega) (show -100000 ≤ -t ∧ -t ≤ 100000 by omega), flxE_in hc (show 0 ≤ g ∧ g ≤ 20 by omega) (show -100000 ≤ t + more ∧ t + more ≤ 100000 by omega), flxE_in hc (show 0 ≤ g + 1 ∧ g + 1 ≤ 20 by omega) (show -100000 ≤ t ∧ t ≤ 100000 by omega)]
  refine ⟨err3 (dropV_err h (by omega)), fun e0 e1 e2 e3 => ?_, mag_opp h hg.1 ht.1, err3 (flxV_err h (by omega) (by omega)), err3 (flxV_err h (by omega) (by omega)), err3 (flxV_err h (by omega) (by omega)), fun e => mag_pos h (by omega) (by omega) (mk3 e), fun e => mag_pos h (by omega) (by omega) (mk3 e), fun e => mag_pos h (by omega) (by omega) (mk3 e), fun e1 e3 => mag_more h (by omega) ht.1 (by omega) (by omega) (mk3 e1) (mk3 e3), fun e1 e4 => mag_gap h (by omega) (by omega) (mk3 e1) (mk3 e4)⟩
  have hp := Int.mul_le_mul_of_nonneg_left hf.2 hg.1
  have hq := Int.mul_le_mul_of_nonneg_left hf.1 hg.1
  have h1 : dropV cv f = ((dropV cv f).1, 1, 0) := by
    have := mk3 e0
    rwa [e1] at this
  rw [flxE_in hc (show 0 ≤ g ∧ g ≤ 20 by omega) (by omega)]
  exact mag_found h hf (by omega) h1
theorem cmp_le {a b c d : Int} (h : a * d ≤ c * b) : cmpV a b c d ≤ 0 := by
  unfold cmpV
  split
  · decide
  · rw [if_neg (by omega)]; exact Int.le_refl _
end Go.Proofs.Ytapegimghfflhaa
end

section
namespace Go.Proofs.Ytapegimghfflhaa
open Go.RowKit

theorem ptErr_range {cv : List DTerm} {k : Nat} (h : (withinB (cv.getD k default).f 1 1000 && withinB (cv.getD k default).q 1 1000) = false) : ptErr cv k = 2 := by
  unfold ptErr
  rw [h]
  rfl
theorem ptErr_zero {cv : List DTerm} (h : (withinB (cv.getD 0 default).f 1 1000 && withinB (cv.getD 0 default).q 1 1000) = true) : ptErr cv 0 = 0 := by
  unfold ptErr
  rw [h]
  unfold withinB at h
  simp only [Bool.and_eq_true, decide_eq_true_eq] at h
  have h1 : (fromP cv 0).1 < (cv.getD 0 default).f := by show (0 : Int) < _; omega
  have h2 : (fromP cv 0).2 < (cv.getD 0 default).q := by show (0 : Int) < _; omega
  rw [decide_eq_true h1, decide_eq_true h2]
  rfl
theorem ptErr_order {cv : List DTerm} {m : Nat} (h : (withinB (cv.getD (m + 1) default).f 1 1000 && withinB (cv.getD (m + 1) default).q 1 1000) = true) : ptErr cv (m + 1) = if (cv.getD m default).f < (cv.getD (m + 1) default).f ∧ (cv.getD m default).q < (cv.getD (m + 1) default).q then 0 else 9 := by
  unfold ptErr
  rw [h, show fromP cv (m + 1) = ((cv.getD m default).f, (cv.getD m default).q) from rfl]
  by_cases h1 : (cv.getD m default).f < (cv.getD (m + 1) default).f
  · by_cases h2 : (cv.getD m default).q < (cv.getD (m + 1) default).q
    · simp [firstV, unlessV]
    · simp [firstV, unlessV]
  · simp [firstV, unlessV]

set_option maxHeartbeats 4000000 in
set_option maxRecDepth 100000 in
theorem refCheckCurve_any (B : Nat) (cv : List DTerm) (A : Option Addr) (n c : Nat) (w : World) (hr : CellsIn B w A (termsC cv)) (hB : B ≤ w.heap.size) (hn : cv.length = n) (hm : n ≤ 1000) :
    Calls Try.prog 24 #[.agg #[.slice A n c]] w fun e w' => e = .returned (.tuple #[.int .i64 ((curveC cv).1 : Int), .int .i64 (curveC cv).2]) ∧ Below w.heap.size w w' := by
  have HT := Lib.hid (show curveC cv = if curveE1 n ≠ 0 then (0, curveE1 n) else scan (ptErr cv) n 0 from by rw [← hn]; rfl)
  have HE1 := Lib.hid (show curveE1 n = if 0 < n then (if n ≤ 8 then 0 else 8) else 10 from by
    unfold curveE1
    by_cases h1 : 0 < n
    · by_cases h2 : n ≤ 8
      · have h3 : (n : Int) ≤ 8 := by omega
        simp [firstV, unlessV, h1, h2, h3]
      · have h3 : ¬ (n : Int) ≤ 8 := by omega
        simp [firstV, unlessV, h1, h2, h3]
    · simp [firstV, unlessV, h1])
  have HR := Lib.hid hr
  have HN := Lib.hid hn
  have R0 := Lib.hid (show Blk (w.alloc (.cells #[.slice A n c] 24)) w.heap.size 24 #[.slice A n c] from Blk.newAt rfl)
  have HB0 := Lib.hid (show Below w.heap.size w (w.alloc (.cells #[.slice A n c] 24)) from pa pr)
  have x0 := R0.out.cellAt 0 rfl
  have xl := R0.out.lt
  clear hr hn
  generalize curveC cv = R at *
  by_cases hz : n = 0
  · have HRs := Lib.hid (show R = (0, 10) by rw [HT.out, HE1.out, if_neg (show ¬ 0 < n by omega), if_pos (by decide)])
    have z2 : ((n : Int) == 0) = true := by simp [hz]
    clear HT HE1 hz
    go_enter Try.func24, Try.ntmps24
    go_wp2
    go_ret2
    exact ⟨ret_ii (by rw [HRs.out]; rfl) (by rw [HRs.out]), HB0.out⟩
  · have z1 : ¬ (n : Int) = 0 := by omega
    have z2 : ((n : Int) == 0) = false := by simpa using hz
    by_cases h8 : n ≤ 8
    · have z3 : ¬ (8 : Int) < (n : Int) := by omega
      have HE := Lib.hid (show R = scan (ptErr cv) n 0 by rw [HT.out, HE1.out, if_pos (show 0 < n by omega), if_pos h8, if_neg (by decide)])
      clear HT HE1
      go_enter Try.func24, Try.ntmps24
      go_wp2
      generalize w.alloc (.cells #[.slice A n c] 24) = v at *
      clear x0 xl
      go_loopw [4] (fun iv wr => ∃ k : Nat, k ≤ n ∧ iv = .int .i64 (k : Int) ∧ scan (ptErr cv) n 0 = scan (ptErr cv) n k ∧ Below v.heap.size v wr) (fun iv _ => n - (intOf iv).toNat)
      case atStart => exact ⟨0, Nat.zero_le _, rfl, rfl, pr⟩
      case round =>
        obtain ⟨k, hk, rfl, hf, hq⟩ := hrel
        have R1 := Lib.hid (R0.out.past hq)
        have HQ := Lib.hid (pt HB0.out hq)
        have HQv := Lib.hid hq
        have x0 := R1.out.cellAt 0 rfl
        have xl := R1.out.lt
        clear hq
        by_cases hlt : k < n
        · have hk' : k < cv.length := by rw [HN.out]; exact hlt
          obtain ⟨b, off, rfl, hb, hct⟩ := terms_at (HR.out.below (HQ.out.mono hB)) hk'
          obtain ⟨u0, u1⟩ := hct k hk'
          have HS := Lib.hid (hf.trans (scan_step hlt))
          have hbw : b < wr.heap.size := Nat.lt_of_lt_of_le hb (Nat.le_trans hB HQ.out.size)
          have k0 : (0 : Int) ≤ (k : Int) := by omega
          have k1 : (k : Int) < (n : Int) := by omega
          have HPr := Lib.hid (fun m (hm : m + 1 = k) => (show wr.cell? ⟨b, off + m * 2, none⟩ = some (.int .i64 (cv.getD m default).f) ∧ wr.cell? ⟨b, off + m * 2 + 1, none⟩ = some (.int .i64 (cv.getD m default).q) from hct m (by omega)))
          have HPz := Lib.hid (fun (h : (withinB (cv.getD k default).f 1 1000 && withinB (cv.getD k default).q 1 1000) = false) => ptErr_range h)
          have HP0 := Lib.hid (fun (h0 : k = 0) (h : (withinB (cv.getD k default).f 1 1000 && withinB (cv.getD k default).q 1 1000) = true) => (show ptErr cv k = 0 from by subst h0; exact ptErr_zero h))
          have HPo := Lib.hid (fun m (h0 : m + 1 = k) (h : (withinB (cv.getD k default).f 1 1000 && withinB (cv.getD k default).q 1 1000) = true) => (show ptErr cv k = if (cv.getD m default).f < (cv.getD k default).f ∧ (cv.getD m default).q < (cv.getD k default).q then 0 else 9 from by subst h0; exact ptErr_order h))
          clear hct hf
          generalize ptErr cv k = e at *
          generalize (cv.getD k default).f = tf at *
          generalize (cv.getD k default).q = tq at *
          have HB1 := Lib.hid (show Below v.heap.size v (wr.alloc (.cells #[.int .i64 tf, .int .i64 tq] 89)) from pa HQv.out)
          have HP1 := Lib.hid (show Blk (wr.alloc (.cells #[.int .i64 tf, .int .i64 tq] 89)) wr.heap.size 89 #[.int .i64 tf, .int .i64 tq] from Blk.newAt rfl)
          have HWa := Lib.hid (fun W => refWithin_any tf 1 1000 W)
          have HWb := Lib.hid (fun W => refWithin_any tq 1 1000 W)
          generalize withinB tf 1 1000 = a1 at *
          generalize withinB tq 1 1000 = a2 at *
          have HW := Lib.hid (show True from trivial)
          cases a1
          · have HRs := Lib.hid (show R = (k, 2) by have h := HPz.out rfl; rw [HE.out, HS.out, h, if_neg (by decide)])
            go_wp2_with (go_at_call 7; (first | (with_reducible refine (HWa.out _).mono ?_) | (with_reducible refine (HWb.out _).mono ?_)); rintro e w' ⟨rfl, rfl⟩)
            go_ret2
            exact ⟨ret_ii (by rw [HRs.out]) (by rw [HRs.out]), pt HB0.out HB1.out⟩
          · cases a2
            · have HRs := Lib.hid (show R = (k, 2) by have h := HPz.out rfl; rw [HE.out, HS.out, h, if_neg (by decide)])
              go_wp2_with (go_at_call 7; (first | (with_reducible refine (HWa.out _).mono ?_) | (with_reducible refine (HWb.out _).mono ?_)); rintro e w' ⟨rfl, rfl⟩)
              go_ret2
              exact ⟨ret_ii (by rw [HRs.out]) (by rw [HRs.out]), pt HB0.out HB1.out⟩
            · by_cases h0 : k = 0
              · have HS2 := Lib.hid (show scan (ptErr cv) n 0 = scan (ptErr cv) n (k + 1) by rw [HS.out, HP0.out h0 rfl, if_pos rfl])
                have z4 : ¬ (0 : Int) < (k : Int) := by omega
                have z5 : ¬ 0 < k := by omega
                clear h0 HPr HPz HP0 HPo
                go_wp2_with (go_at_call 7; (first | (with_reducible refine (HWa.out _).mono ?_) | (with_reducible refine (HWb.out _).mono ?_)); rintro e w' ⟨rfl, rfl⟩)
                go_quiet (fail)
                go_wp2
                go_roundw
                case rel => exact ⟨k + 1, by omega, by go_num, HS2.out, below_drewN' HB1.out _⟩
                case measure => simp [intOf]; omega
              · obtain ⟨m, hm⟩ : ∃ m, m + 1 = k := ⟨k - 1, by omega⟩
                obtain ⟨v0, v1⟩ := HPr.out m hm
                have HPm := Lib.hid (HPo.out m hm rfl)
                have z4 : (0 : Int) < (k : Int) := by omega
                have z5 : 0 < k := by omega
                have em : IntKind.i64.wrap ((k : Int) - 1) = (m : Int) := by rw [← hm]; exact (IntWalk.i64_in _ (by omega)).trans (by omega)
                have em2 : wrap64 ((k : Int) - 1) = (m : Int) := (w64 (by omega)).trans (by omega)
                have m0 : (0 : Int) ≤ (m : Int) := by omega
                have m1 : (m : Int) < (n : Int) := by omega
                generalize (cv.getD m default).f = pf at *
                generalize (cv.getD m default).q = pq at *
                clear hm HPr HPz HP0 HPo
                by_cases h5 : pf < tf
                · by_cases h6 : pq < tq
                  · have HS2 := Lib.hid (show scan (ptErr cv) n 0 = scan (ptErr cv) n (k + 1) by rw [HS.out, if_pos (show e = 0 by rw [HPm.out, if_pos (show pf < tf ∧ pq < tq from ⟨h5, h6⟩)])])
                    have h7 : ¬ tf ≤ pf := by omega
                    have h8' : ¬ tq ≤ pq := by omega
                    go_wp2_with (go_at_call 7; (first | (with_reducible refine (HWa.out _).mono ?_) | (with_reducible refine (HWb.out _).mono ?_)); rintro e w' ⟨rfl, rfl⟩)
                    go_quiet (fail)
                    go_wp2
                    go_roundw
                    case rel => exact ⟨k + 1, by omega, by go_num, HS2.out, below_drewN' HB1.out _⟩
                    case measure => simp [intOf]; omega
                  · have HRs := Lib.hid (show R = (k, 9) by rw [HE.out, HS.out, (show e = 9 by rw [HPm.out, if_neg (show ¬ (pf < tf ∧ pq < tq) from fun h => h6 h.2)]), if_neg (by decide)])
                    have h7 : ¬ tf ≤ pf := by omega
                    have h8' : tq ≤ pq := by omega
                    go_wp2_with (go_at_call 7; (first | (with_reducible refine (HWa.out _).mono ?_) | (with_reducible refine (HWb.out _).mono ?_)); rintro e w' ⟨rfl, rfl⟩)
                    go_quiet (fail)
                    go_wp2
                    go_ret2
                    exact ⟨ret_ii (by rw [HRs.out]) (by rw [HRs.out]), pt HB0.out (below_drewN' HB1.out _)⟩
                · have HRs := Lib.hid (show R = (k, 9) by rw [HE.out, HS.out, (show e = 9 by rw [HPm.out, if_neg (show ¬ (pf < tf ∧ pq < tq) from fun h => h5 h.1)]), if_neg (by decide)])
                  have h7 : tf ≤ pf := by omega
                  go_wp2_with (go_at_call 7; (first | (with_reducible refine (HWa.out _).mono ?_) | (with_reducible refine (HWb.out _).mono ?_)); rintro e w' ⟨rfl, rfl⟩)
                  go_quiet (fail)
                  go_wp2
                  go_ret2
                  exact ⟨ret_ii (by rw [HRs.out]) (by rw [HRs.out]), pt HB0.out (below_drewN' HB1.out _)⟩
        · have HRs := Lib.hid (show R = (0, 0) by rw [HE.out, hf, scan_end (by omega)])
          clear hf
          go_wp2
          go_ret2
          exact ⟨ret_ii (by rw [HRs.out]; rfl) (by rw [HRs.out]), HQ.out⟩
    · have z3 : (8 : Int) < (n : Int) := by omega
      have HRs := Lib.hid (show R = (0, 8) by rw [HT.out, HE1.out, if_pos (show 0 < n by omega), if_neg h8, if_pos (by decide)])
      clear HT HE1
      go_enter Try.func24, Try.ntmps24
      go_wp2
      go_ret2
      exact ⟨ret_ii (by rw [HRs.out]; rfl) (by rw [HRs.out]), HB0.out⟩
theorem refCurveErr_any (B : Nat) (cv : List DTerm) (A : Option Addr) (n c : Nat) (w : World) (hr : CellsIn B w A (termsC cv)) (hB : B ≤ w.heap.size) (hn : cv.length = n) (hm : n ≤ 1000) :
    Calls Try.prog 6 #[.agg #[.slice A n c]] w fun e w' => e = .returned (.int .i64 (curveC cv).2) ∧ Below w.heap.size w w' := by
  have HC := Lib.hid (fun W (hW : Below w.heap.size w W) => refCheckCurve_any B cv A n c W (hr.below (hW.mono hB)) (Nat.le_trans hB hW.size) hn hm)
  generalize curveC cv = R at *
  go_enter Try.func6, Try.ntmps6
  go_wp2_with (go_at_call 24; refine (HC.out _ (pa pr)).mono ?_; rintro e w' ⟨rfl, hb⟩; have HB := Lib.hid (pt (pa pr) hb); clear hb)
  go_ret
  exact ⟨rfl, HB.out⟩
end Go.Proofs.Ytapegimghfflhaa
end
