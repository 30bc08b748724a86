/- The walk of FieldMagnetized (chapter 3). Printed by a program (gen_f4mag.py). -/
import Derived.Test.YtapegimghfflhaaNe
import Derived.Test.YtapegimghfflhaaNf
import Derived.Deep.DeepCutAuto

section
namespace Go.Proofs.Ytapegimghfflhaa
open Go.RowKit

theorem few_any (A : Option Addr) (n c : Nat) (v : Bool) (hv : decide ((n : Int) ≤ 10) = v) (w : World) : Calls Try.prog 5 #[.agg #[.slice A n c]] w fun e w' => e = .returned (.bool v) ∧ Below w.heap.size w w' := by
  have HV := Lib.hid hv
  clear hv
  go_enter Try.func5, Try.ntmps5
  go_wp2
  go_ret
  exact ⟨ret_bool HV.out, pa pr⟩
theorem withinR_w (x lo hi : Int) (v : Bool) (h : withinB x lo hi = v) (w : World) : Calls Try.prog 7 #[.int .i64 x, .int .i64 lo, .int .i64 hi] w fun r w' => r = .returned (.bool v) ∧ w = w' := by
  subst h
  exact refWithin_any _ _ _ _
theorem isSmall_w (n d : Int) (v : Bool) (h : fsmallB n d = v) (w : World) : Calls Try.prog 12 #[.agg #[.int .i64 n, .int .i64 d]] w fun e w' => e = .returned (.bool v) ∧ Below w.heap.size w w' := by
  subst h
  exact isSmall_any _ _ _
theorem Cmp_w (a b c d : Int) (h1 : -1000000000 ≤ a ∧ a ≤ 1000000000) (h2 : -1000000000 ≤ b ∧ b ≤ 1000000000) (h3 : -1000000000 ≤ c ∧ c ≤ 1000000000) (h4 : -1000000000 ≤ d ∧ d ≤ 1000000000) (k : Int) (hk : cmpV a b c d = k) (w : World) : Calls Try.prog 13 #[.agg #[.int .i64 a, .int .i64 b], .agg #[.int .i64 c, .int .i64 d]] w fun e w' => e = .returned (.int .i64 k) ∧ Below w.heap.size w w' := by
  subst hk
  exact Cmp_any a b c d h1 h2 h3 h4 w

set_option maxHeartbeats 4000000 in
set_option maxRecDepth 100000 in
theorem mag_skip (B : Nat) (cv : List DTerm) (A : Option Addr) (n c : Nat) (f g t more : Int) (w : World) (hr : CellsIn B w A (termsC cv)) (hB : B ≤ w.heap.size) (hn : cv.length = n) (hskip : 10 < n ∨ (n ≤ 10 ∧ ((curveC cv).2 ≠ 0 ∨ ¬ (withinB f (-2000) 2000 = true ∧ withinB g 0 19 = true ∧ withinB t 0 99000 = true ∧ withinB more 0 1000 = true)))) :
    Calls Try.prog 3 #[.agg #[.slice A n c], .agg #[.int .i64 f, .int .i64 g, .int .i64 t], .int .i64 more] w fun e w' => e = .returned (.bool true) ∧ Below w.heap.size w w' := by
  rcases hskip with h10 | ⟨h10, hs⟩
  · have HF := Lib.hid (fun W => few_any A n c false (by simp; omega) W)
    clear hr hn h10
    have HB0 := Lib.hid (show Below w.heap.size w ((w.alloc (.cells #[.slice A n c] 24)).alloc (.cells #[.int .i64 f, .int .i64 g, .int .i64 t] 26)) from pa (pa pr))
    have R0 := Lib.hid (show Blk ((w.alloc (.cells #[.slice A n c] 24)).alloc (.cells #[.int .i64 f, .int .i64 g, .int .i64 t] 26)) w.heap.size 24 #[.slice A n c] from (Blk.newAt rfl).alloc)
    have R1 := Lib.hid (show Blk ((w.alloc (.cells #[.slice A n c] 24)).alloc (.cells #[.int .i64 f, .int .i64 g, .int .i64 t] 26)) (w.heap.size + 1) 26 #[.int .i64 f, .int .i64 g, .int .i64 t] from Blk.newAt (by simp))
    go_enter Try.func3, Try.ntmps3
    go_wp2_with (first
      | (go_at_call 4; (go_must (refine (awake_any _).mono ?_)); rintro e w1 ⟨rfl, hb1⟩; have HB1 := Lib.hid (pt HB0.out hb1); have S0 := Lib.hid (R0.out.past hb1); have S1 := Lib.hid (R1.out.past hb1); clear hb1; have x0 := S0.out.cellAt 0 rfl; have y0 := S1.out.cellAt 0 rfl; have y1 := S1.out.cellAt 1 rfl; have y2 := S1.out.cellAt 2 rfl; have xl := S0.out.lt; have yl := S1.out.lt)
      | (go_at_call 5; (go_must (refine (HF.out _).mono ?_)); rintro e w2 ⟨rfl, hb2⟩; have HB2 := Lib.hid (pt HB1.out hb2); have S2 := Lib.hid (S0.out.past hb2); have S3 := Lib.hid (S1.out.past hb2); clear hb2 x0 y0 y1 y2 xl yl; have x0 := S2.out.cellAt 0 rfl; have y0 := S3.out.cellAt 0 rfl; have y1 := S3.out.cellAt 1 rfl; have y2 := S3.out.cellAt 2 rfl; have xl := S2.out.lt; have yl := S3.out.lt))
    go_ret
    exact ⟨rfl, HB2.out⟩
  · have HF := Lib.hid (fun W => few_any A n c true (by simp; omega) W)
    have HC := Lib.hid (fun W (hW : Below w.heap.size w W) => refCurveErr_any B cv A n c W (hr.below (hW.mono hB)) (Nat.le_trans hB hW.size) hn (by omega))
    generalize (curveC cv).2 = E at *
    clear hr hn h10
    have h3 : E ≠ 0 ∨ (E = 0 ∧ (withinB f (-2000) 2000 = false ∨ (withinB f (-2000) 2000 = true ∧ (withinB g 0 19 = false ∨ (withinB g 0 19 = true ∧ (withinB t 0 99000 = false ∨ (withinB t 0 99000 = true ∧ withinB more 0 1000 = false))))))) := by
      by_cases hE : E = 0
      · refine .inr ⟨hE, ?_⟩
        have hs := hs.resolve_left (fun h => h hE)
        generalize withinB f (-2000) 2000 = q1 at *
        generalize withinB g 0 19 = q2 at *
        generalize withinB t 0 99000 = q3 at *
        generalize withinB more 0 1000 = q4 at *
        cases q1 <;> cases q2 <;> cases q3 <;> cases q4 <;> simp_all
      · exact .inl hE
    clear hs
    rcases h3 with hE | ⟨rfl, h3⟩
    · have hE1 : (E == 0) = false := by simpa using hE
      have hE2 : (E != 0) = true := by simpa using hE
      have HB0 := Lib.hid (show Below w.heap.size w ((w.alloc (.cells #[.slice A n c] 24)).alloc (.cells #[.int .i64 f, .int .i64 g, .int .i64 t] 26)) from pa (pa pr))
      have R0 := Lib.hid (show Blk ((w.alloc (.cells #[.slice A n c] 24)).alloc (.cells #[.int .i64 f, .int .i64 g, .int .i64 t] 26)) w.heap.size 24 #[.slice A n c] from (Blk.newAt rfl).alloc)
      have R1 := Lib.hid (show Blk ((w.alloc (.cells #[.slice A n c] 24)).alloc (.cells #[.int .i64 f, .int .i64 g, .int .i64 t] 26)) (w.heap.size + 1) 26 #[.int .i64 f, .int .i64 g, .int .i64 t] from Blk.newAt (by simp))
      go_enter Try.func3, Try.ntmps3
      go_wp2_with (first
        | (go_at_call 4; (go_must (refine (awake_any _).mono ?_)); rintro e w1 ⟨rfl, hb1⟩; have HB1 := Lib.hid (pt HB0.out hb1); have S0 := Lib.hid (R0.out.past hb1); have S1 := Lib.hid (R1.out.past hb1); clear hb1; have x0 := S0.out.cellAt 0 rfl; have y0 := S1.out.cellAt 0 rfl; have y1 := S1.out.cellAt 1 rfl; have y2 := S1.out.cellAt 2 rfl; have xl := S0.out.lt; have yl := S1.out.lt)
        | (go_at_call 5; (go_must (refine (HF.out _).mono ?_)); rintro e w2 ⟨rfl, hb2⟩; have HB2 := Lib.hid (pt HB1.out hb2); have S2 := Lib.hid (S0.out.past hb2); have S3 := Lib.hid (S1.out.past hb2); clear hb2 x0 y0 y1 y2 xl yl; have x0 := S2.out.cellAt 0 rfl; have y0 := S3.out.cellAt 0 rfl; have y1 := S3.out.cellAt 1 rfl; have y2 := S3.out.cellAt 2 rfl; have xl := S2.out.lt; have yl := S3.out.lt)
        | (go_at_call 6; (go_must (refine (HC.out _ HB2.out).mono ?_)); rintro e w3 ⟨rfl, hb3⟩; have HB3 := Lib.hid (pt HB2.out hb3); have S4 := Lib.hid (S3.out.past hb3); have S5 := Lib.hid (S2.out.past hb3); clear hb3 x0 y0 y1 y2 xl yl; have y0 := S4.out.cellAt 0 rfl; have y1 := S4.out.cellAt 1 rfl; have y2 := S4.out.cellAt 2 rfl; have yl := S4.out.lt))
      go_ret
      exact ⟨rfl, HB3.out⟩
    · have HW := Lib.hid (fun x lo hi v (h : withinB x lo hi = v) W => withinR_w x lo hi v h W)
      rcases h3 with q1 | ⟨q1, h3⟩
      · skip
        have W0 := Lib.hid (fun W => withinR_w f (-2000) 2000 false q1 W)
        clear HW
        have HB0 := Lib.hid (show Below w.heap.size w ((w.alloc (.cells #[.slice A n c] 24)).alloc (.cells #[.int .i64 f, .int .i64 g, .int .i64 t] 26)) from pa (pa pr))
        have R0 := Lib.hid (show Blk ((w.alloc (.cells #[.slice A n c] 24)).alloc (.cells #[.int .i64 f, .int .i64 g, .int .i64 t] 26)) w.heap.size 24 #[.slice A n c] from (Blk.newAt rfl).alloc)
        have R1 := Lib.hid (show Blk ((w.alloc (.cells #[.slice A n c] 24)).alloc (.cells #[.int .i64 f, .int .i64 g, .int .i64 t] 26)) (w.heap.size + 1) 26 #[.int .i64 f, .int .i64 g, .int .i64 t] from Blk.newAt (by simp))
        go_enter Try.func3, Try.ntmps3
        go_wp2_with (first
          | (go_at_call 4; (go_must (refine (awake_any _).mono ?_)); rintro e w1 ⟨rfl, hb1⟩; have HB1 := Lib.hid (pt HB0.out hb1); have S0 := Lib.hid (R0.out.past hb1); have S1 := Lib.hid (R1.out.past hb1); clear hb1; have x0 := S0.out.cellAt 0 rfl; have y0 := S1.out.cellAt 0 rfl; have y1 := S1.out.cellAt 1 rfl; have y2 := S1.out.cellAt 2 rfl; have xl := S0.out.lt; have yl := S1.out.lt)
          | (go_at_call 5; (go_must (refine (HF.out _).mono ?_)); rintro e w2 ⟨rfl, hb2⟩; have HB2 := Lib.hid (pt HB1.out hb2); have S2 := Lib.hid (S0.out.past hb2); have S3 := Lib.hid (S1.out.past hb2); clear hb2 x0 y0 y1 y2 xl yl; have x0 := S2.out.cellAt 0 rfl; have y0 := S3.out.cellAt 0 rfl; have y1 := S3.out.cellAt 1 rfl; have y2 := S3.out.cellAt 2 rfl; have xl := S2.out.lt; have yl := S3.out.lt)
          | (go_at_call 6; (go_must (refine (HC.out _ HB2.out).mono ?_)); rintro e w3 ⟨rfl, hb3⟩; have HB3 := Lib.hid (pt HB2.out hb3); have S4 := Lib.hid (S3.out.past hb3); have S5 := Lib.hid (S2.out.past hb3); clear hb3 x0 y0 y1 y2 xl yl; have y0 := S4.out.cellAt 0 rfl; have y1 := S4.out.cellAt 1 rfl; have y2 := S4.out.cellAt 2 rfl; have yl := S4.out.lt)
          | (go_at_call 7; (with_reducible refine (W0.out _).mono ?_); rintro e w9 ⟨rfl, rfl⟩))
        go_ret
        exact ⟨rfl, HB3.out⟩
      · rcases h3 with q2 | ⟨q2, h3⟩
        · skip
          have W0 := Lib.hid (fun W => withinR_w f (-2000) 2000 true q1 W)
          have W1 := Lib.hid (fun W => withinR_w g 0 19 false q2 W)
          clear HW
          have HB0 := Lib.hid (show Below w.heap.size w ((w.alloc (.cells #[.slice A n c] 24)).alloc (.cells #[.int .i64 f, .int .i64 g, .int .i64 t] 26)) from pa (pa pr))
          have R0 := Lib.hid (show Blk ((w.alloc (.cells #[.slice A n c] 24)).alloc (.cells #[.int .i64 f, .int .i64 g, .int .i64 t] 26)) w.heap.size 24 #[.slice A n c] from (Blk.newAt rfl).alloc)
          have R1 := Lib.hid (show Blk ((w.alloc (.cells #[.slice A n c] 24)).alloc (.cells #[.int .i64 f, .int .i64 g, .int .i64 t] 26)) (w.heap.size + 1) 26 #[.int .i64 f, .int .i64 g, .int .i64 t] from Blk.newAt (by simp))
          go_enter Try.func3, Try.ntmps3
          go_wp2_with (first
            | (go_at_call 4; (go_must (refine (awake_any _).mono ?_)); rintro e w1 ⟨rfl, hb1⟩; have HB1 := Lib.hid (pt HB0.out hb1); have S0 := Lib.hid (R0.out.past hb1); have S1 := Lib.hid (R1.out.past hb1); clear hb1; have x0 := S0.out.cellAt 0 rfl; have y0 := S1.out.cellAt 0 rfl; have y1 := S1.out.cellAt 1 rfl; have y2 := S1.out.cellAt 2 rfl; have xl := S0.out.lt; have yl := S1.out.lt)
            | (go_at_call 5; (go_must (refine (HF.out _).mono ?_)); rintro e w2 ⟨rfl, hb2⟩; have HB2 := Lib.hid (pt HB1.out hb2); have S2 := Lib.hid (S0.out.past hb2); have S3 := Lib.hid (S1.out.past hb2); clear hb2 x0 y0 y1 y2 xl yl; have x0 := S2.out.cellAt 0 rfl; have y0 := S3.out.cellAt 0 rfl; have y1 := S3.out.cellAt 1 rfl; have y2 := S3.out.cellAt 2 rfl; have xl := S2.out.lt; have yl := S3.out.lt)
            | (go_at_call 6; (go_must (refine (HC.out _ HB2.out).mono ?_)); rintro e w3 ⟨rfl, hb3⟩; have HB3 := Lib.hid (pt HB2.out hb3); have S4 := Lib.hid (S3.out.past hb3); have S5 := Lib.hid (S2.out.past hb3); clear hb3 x0 y0 y1 y2 xl yl; have y0 := S4.out.cellAt 0 rfl; have y1 := S4.out.cellAt 1 rfl; have y2 := S4.out.cellAt 2 rfl; have yl := S4.out.lt)
            | (go_at_call 7; (with_reducible refine (W0.out _).mono ?_); rintro e w9 ⟨rfl, rfl⟩)
            | (go_at_call 7; (with_reducible refine (W1.out _).mono ?_); rintro e w9 ⟨rfl, rfl⟩))
          go_ret
          exact ⟨rfl, HB3.out⟩
        · rcases h3 with q3 | ⟨q3, q4⟩
          · skip
            have W0 := Lib.hid (fun W => withinR_w f (-2000) 2000 true q1 W)
            have W1 := Lib.hid (fun W => withinR_w g 0 19 true q2 W)
            have W2 := Lib.hid (fun W => withinR_w t 0 99000 false q3 W)
            clear HW
            have HB0 := Lib.hid (show Below w.heap.size w ((w.alloc (.cells #[.slice A n c] 24)).alloc (.cells #[.int .i64 f, .int .i64 g, .int .i64 t] 26)) from pa (pa pr))
            have R0 := Lib.hid (show Blk ((w.alloc (.cells #[.slice A n c] 24)).alloc (.cells #[.int .i64 f, .int .i64 g, .int .i64 t] 26)) w.heap.size 24 #[.slice A n c] from (Blk.newAt rfl).alloc)
            have R1 := Lib.hid (show Blk ((w.alloc (.cells #[.slice A n c] 24)).alloc (.cells #[.int .i64 f, .int .i64 g, .int .i64 t] 26)) (w.heap.size + 1) 26 #[.int .i64 f, .int .i64 g, .int .i64 t] from Blk.newAt (by simp))
            go_enter Try.func3, Try.ntmps3
            go_wp2_with (first
              | (go_at_call 4; (go_must (refine (awake_any _).mono ?_)); rintro e w1 ⟨rfl, hb1⟩; have HB1 := Lib.hid (pt HB0.out hb1); have S0 := Lib.hid (R0.out.past hb1); have S1 := Lib.hid (R1.out.past hb1); clear hb1; have x0 := S0.out.cellAt 0 rfl; have y0 := S1.out.cellAt 0 rfl; have y1 := S1.out.cellAt 1 rfl; have y2 := S1.out.cellAt 2 rfl; have xl := S0.out.lt; have yl := S1.out.lt)
              | (go_at_call 5; (go_must (refine (HF.out _).mono ?_)); rintro e w2 ⟨rfl, hb2⟩; have HB2 := Lib.hid (pt HB1.out hb2); have S2 := Lib.hid (S0.out.past hb2); have S3 := Lib.hid (S1.out.past hb2); clear hb2 x0 y0 y1 y2 xl yl; have x0 := S2.out.cellAt 0 rfl; have y0 := S3.out.cellAt 0 rfl; have y1 := S3.out.cellAt 1 rfl; have y2 := S3.out.cellAt 2 rfl; have xl := S2.out.lt; have yl := S3.out.lt)
              | (go_at_call 6; (go_must (refine (HC.out _ HB2.out).mono ?_)); rintro e w3 ⟨rfl, hb3⟩; have HB3 := Lib.hid (pt HB2.out hb3); have S4 := Lib.hid (S3.out.past hb3); have S5 := Lib.hid (S2.out.past hb3); clear hb3 x0 y0 y1 y2 xl yl; have y0 := S4.out.cellAt 0 rfl; have y1 := S4.out.cellAt 1 rfl; have y2 := S4.out.cellAt 2 rfl; have yl := S4.out.lt)
              | (go_at_call 7; (with_reducible refine (W0.out _).mono ?_); rintro e w9 ⟨rfl, rfl⟩)
              | (go_at_call 7; (with_reducible refine (W1.out _).mono ?_); rintro e w9 ⟨rfl, rfl⟩)
              | (go_at_call 7; (with_reducible refine (W2.out _).mono ?_); rintro e w9 ⟨rfl, rfl⟩))
            go_ret
            exact ⟨rfl, HB3.out⟩
          · skip
            have W0 := Lib.hid (fun W => withinR_w f (-2000) 2000 true q1 W)
            have W1 := Lib.hid (fun W => withinR_w g 0 19 true q2 W)
            have W2 := Lib.hid (fun W => withinR_w t 0 99000 true q3 W)
            have W3 := Lib.hid (fun W => withinR_w more 0 1000 false q4 W)
            clear HW
            have HB0 := Lib.hid (show Below w.heap.size w ((w.alloc (.cells #[.slice A n c] 24)).alloc (.cells #[.int .i64 f, .int .i64 g, .int .i64 t] 26)) from pa (pa pr))
            have R0 := Lib.hid (show Blk ((w.alloc (.cells #[.slice A n c] 24)).alloc (.cells #[.int .i64 f, .int .i64 g, .int .i64 t] 26)) w.heap.size 24 #[.slice A n c] from (Blk.newAt rfl).alloc)
            have R1 := Lib.hid (show Blk ((w.alloc (.cells #[.slice A n c] 24)).alloc (.cells #[.int .i64 f, .int .i64 g, .int .i64 t] 26)) (w.heap.size + 1) 26 #[.int .i64 f, .int .i64 g, .int .i64 t] from Blk.newAt (by simp))
            go_enter Try.func3, Try.ntmps3
            go_wp2_with (first
              | (go_at_call 4; (go_must (refine (awake_any _).mono ?_)); rintro e w1 ⟨rfl, hb1⟩; have HB1 := Lib.hid (pt HB0.out hb1); have S0 := Lib.hid (R0.out.past hb1); have S1 := Lib.hid (R1.out.past hb1); clear hb1; have x0 := S0.out.cellAt 0 rfl; have y0 := S1.out.cellAt 0 rfl; have y1 := S1.out.cellAt 1 rfl; have y2 := S1.out.cellAt 2 rfl; have xl := S0.out.lt; have yl := S1.out.lt)
              | (go_at_call 5; (go_must (refine (HF.out _).mono ?_)); rintro e w2 ⟨rfl, hb2⟩; have HB2 := Lib.hid (pt HB1.out hb2); have S2 := Lib.hid (S0.out.past hb2); have S3 := Lib.hid (S1.out.past hb2); clear hb2 x0 y0 y1 y2 xl yl; have x0 := S2.out.cellAt 0 rfl; have y0 := S3.out.cellAt 0 rfl; have y1 := S3.out.cellAt 1 rfl; have y2 := S3.out.cellAt 2 rfl; have xl := S2.out.lt; have yl := S3.out.lt)
              | (go_at_call 6; (go_must (refine (HC.out _ HB2.out).mono ?_)); rintro e w3 ⟨rfl, hb3⟩; have HB3 := Lib.hid (pt HB2.out hb3); have S4 := Lib.hid (S3.out.past hb3); have S5 := Lib.hid (S2.out.past hb3); clear hb3 x0 y0 y1 y2 xl yl; have y0 := S4.out.cellAt 0 rfl; have y1 := S4.out.cellAt 1 rfl; have y2 := S4.out.cellAt 2 rfl; have yl := S4.out.lt)
              | (go_at_call 7; (with_reducible refine (W0.out _).mono ?_); rintro e w9 ⟨rfl, rfl⟩)
              | (go_at_call 7; (with_reducible refine (W1.out _).mono ?_); rintro e w9 ⟨rfl, rfl⟩)
              | (go_at_call 7; (with_reducible refine (W2.out _).mono ?_); rintro e w9 ⟨rfl, rfl⟩)
              | (go_at_call 7; (with_reducible refine (W3.out _).mono ?_); rintro e w9 ⟨rfl, rfl⟩))
            go_ret
            exact ⟨rfl, HB3.out⟩
set_option maxHeartbeats 8000000 in
set_option maxRecDepth 100000 in
theorem mag_main (B : Nat) (cv : List DTerm) (A : Option Addr) (n c : Nat) (f g t more : Int) (w : World) (hr : CellsIn B w A (termsC cv)) (hB : B ≤ w.heap.size) (hn : cv.length = n) (h10 : n ≤ 10) (hc : (curveC cv).2 = 0) (hf : -2000 ≤ f ∧ f ≤ 2000) (hg : 0 ≤ g ∧ g ≤ 19) (ht : 0 ≤ t ∧ t ≤ 99000) (hm : 0 ≤ more ∧ more ≤ 1000) :
    Calls Try.prog 3 #[.agg #[.slice A n c], .agg #[.int .i64 f, .int .i64 g, .int .i64 t], .int .i64 more] w fun e w' => e = .returned (.bool true) ∧ Below w.heap.size w w' := by
  obtain ⟨V0, hD⟩ : ∃ V, dropE cv f = V := ⟨_, rfl⟩
  obtain ⟨d1, d2, d3⟩ := V0
  have HM := Lib.hid (mag_ok hc hf hg ht hm)
  rw [hD] at HM
  have HF := Lib.hid (fun W => few_any A n c true (by simp; omega) W)
  have HC := Lib.hid (fun W (hW : Below w.heap.size w W) => (show Calls Try.prog 6 #[.agg #[.slice A n c]] W fun e w' => e = .returned (.int .i64 0) ∧ Below W.heap.size W w' from by
    have h := refCurveErr_any B cv A n c W (hr.below (hW.mono hB)) (Nat.le_trans hB hW.size) hn (by omega)
    rwa [hc] at h))
  have W0 := Lib.hid (fun W => withinR_w f (-2000) 2000 true (by unfold withinB; simp; omega) W)
  have W1 := Lib.hid (fun W => withinR_w g 0 19 true (by unfold withinB; simp; omega) W)
  have W2 := Lib.hid (fun W => withinR_w t 0 99000 true (by unfold withinB; simp; omega) W)
  have W3 := Lib.hid (fun W => withinR_w more 0 1000 true (by unfold withinB; simp; omega) W)
  have HCp := Lib.hid (fun W (hW : Below w.heap.size w W) => CopyCurve_any B cv A n c W (hr.below (hW.mono hB)) (Nat.le_trans hB hW.size) hn (by omega))
  have HDr := Lib.hid (fun (W : World) (A2 : Option Addr) (c2 : Nat) (h : CellsIn W.heap.size W A2 (termsC cv)) => (show Calls Try.prog 8 #[.agg #[.slice A2 n c2], .int .i64 f] W fun e w' => e = .returned (.tuple #[.agg #[.int .i64 d1, .int .i64 d2], .int .i64 d3]) ∧ Below W.heap.size W w' from by
    have h2 := DropAt_any W.heap.size cv A2 n c2 f W h (Nat.le_refl _) hn (by omega)
    rwa [hD] at h2))
  have HFx := Lib.hid (fun (g t x y z : Int) (hV : flxE cv g t = (x, y, z)) (W : World) (A2 : Option Addr) (c2 : Nat) (h : CellsIn W.heap.size W A2 (termsC cv)) => (show Calls Try.prog 10 #[.agg #[.slice A2 n c2], .int .i64 g, .int .i64 t] W fun e w' => e = .returned (.tuple #[.agg #[.int .i64 x, .int .i64 y], .int .i64 z]) ∧ Below W.heap.size W w' from by
    have h2 := FluxFor_any W.heap.size cv A2 n c2 g t W h (Nat.le_refl _) hn (by omega)
    rwa [hV] at h2))
  have hgf : -38000 ≤ g * f ∧ g * f ≤ 38000 := by
    have := mul_absI (A := 19) (B := 2000) (a := g) (b := f) (by omega) (by omega)
    omega
  have HGf := Lib.hid hgf
  have rg : wrap64 (g * f) = g * f := w64 (by omega)
  have rgi : IntKind.i64.wrap (g * f) = g * f := IntWalk.i64_in _ (by omega)
  have rn : wrap64 (-t) = -t := w64 (by omega)
  have rni : IntKind.i64.wrap (-t) = -t := IntWalk.i64_in _ (by omega)
  have rm : wrap64 (t + more) = t + more := w64 (by omega)
  have rmi : IntKind.i64.wrap (t + more) = t + more := IntWalk.i64_in _ (by omega)
  have ro : wrap64 (g + 1) = g + 1 := w64 (by omega)
  have roi : IntKind.i64.wrap (g + 1) = g + 1 := IntWalk.i64_in _ (by omega)
  obtain ⟨a1, a2, a3, hV1⟩ : ∃ x y z, flxE cv g t = (x, y, z) := ⟨_, _, _, rfl⟩
  obtain ⟨b1_, b2_, b3_, hV2⟩ : ∃ x y z, flxE cv g (-t) = (x, y, z) := ⟨_, _, _, rfl⟩
  obtain ⟨c1_, c2_, c3_, hV3⟩ : ∃ x y z, flxE cv g (t + more) = (x, y, z) := ⟨_, _, _, rfl⟩
  obtain ⟨e1_, e2_, e3_, hV4⟩ : ∃ x y z, flxE cv (g + 1) t = (x, y, z) := ⟨_, _, _, rfl⟩
  have HF1 := Lib.hid (HFx.out g t _ _ _ hV1)
  have HF2 := Lib.hid (HFx.out g (-t) _ _ _ hV2)
  have HF3 := Lib.hid (HFx.out g (t + more) _ _ _ hV3)
  have HF4 := Lib.hid (HFx.out (g + 1) t _ _ _ hV4)
  rw [hV1, hV2, hV3, hV4] at HM
  have HFd := Lib.hid (fun (h0 : d3 = 0) (h1 : d2 = 1) (h2 : -50000 ≤ d1) (h3 : d1 ≤ 50000) => HFx.out g (d1 + g * f) _ _ _ (HM.out.found h0 h1 h2 h3))
  have hop := HM.out.opp
  simp only [Prod.mk.injEq] at hop
  obtain ⟨rfl, hq2, hq3⟩ := hop
  obtain rfl := hq2.symm
  obtain rfl := hq3.symm
  clear HFx hr hn hc hD hV1 hV2 hV3 hV4 hgf
  have HB0 := Lib.hid (show Below w.heap.size w ((w.alloc (.cells #[.slice A n c] 24)).alloc (.cells #[.int .i64 f, .int .i64 g, .int .i64 t] 26)) from pa (pa pr))
  have R0 := Lib.hid (show Blk ((w.alloc (.cells #[.slice A n c] 24)).alloc (.cells #[.int .i64 f, .int .i64 g, .int .i64 t] 26)) w.heap.size 24 #[.slice A n c] from (Blk.newAt rfl).alloc)
  have R1 := Lib.hid (show Blk ((w.alloc (.cells #[.slice A n c] 24)).alloc (.cells #[.int .i64 f, .int .i64 g, .int .i64 t] 26)) (w.heap.size + 1) 26 #[.int .i64 f, .int .i64 g, .int .i64 t] from Blk.newAt (by simp))
  go_enter Try.func3, Try.ntmps3
  go_wp2_with (first
    | (go_at_call 4; (go_must (refine (awake_any _).mono ?_)); rintro e w1 ⟨rfl, hb1⟩; have HB1 := Lib.hid (pt HB0.out hb1); have S0 := Lib.hid (R0.out.past hb1); have S1 := Lib.hid (R1.out.past hb1); clear hb1; have x0 := S0.out.cellAt 0 rfl; have y0 := S1.out.cellAt 0 rfl; have y1 := S1.out.cellAt 1 rfl; have y2 := S1.out.cellAt 2 rfl; have xl := S0.out.lt; have yl := S1.out.lt)
    | (go_at_call 5; (go_must (refine (HF.out _).mono ?_)); rintro e w2 ⟨rfl, hb2⟩; have HB2 := Lib.hid (pt HB1.out hb2); have S2 := Lib.hid (S0.out.past hb2); have S3 := Lib.hid (S1.out.past hb2); clear hb2 x0 y0 y1 y2 xl yl; have x0 := S2.out.cellAt 0 rfl; have y0 := S3.out.cellAt 0 rfl; have y1 := S3.out.cellAt 1 rfl; have y2 := S3.out.cellAt 2 rfl; have xl := S2.out.lt; have yl := S3.out.lt)
    | (go_at_call 6; (go_must (refine (HC.out _ HB2.out).mono ?_)); rintro e w3 ⟨rfl, hb3⟩; have HB3 := Lib.hid (pt HB2.out hb3); have S4 := Lib.hid (S3.out.past hb3); have S5 := Lib.hid (S2.out.past hb3); clear hb3 x0 y0 y1 y2 xl yl; have y0 := S4.out.cellAt 0 rfl; have y1 := S4.out.cellAt 1 rfl; have y2 := S4.out.cellAt 2 rfl; have yl := S4.out.lt)
    | (go_at_call 7; (with_reducible refine (W0.out _).mono ?_); rintro e w9 ⟨rfl, rfl⟩)
    | (go_at_call 7; (with_reducible refine (W1.out _).mono ?_); rintro e w9 ⟨rfl, rfl⟩)
    | (go_at_call 7; (with_reducible refine (W2.out _).mono ?_); rintro e w9 ⟨rfl, rfl⟩)
    | (go_at_call 7; (with_reducible refine (W3.out _).mono ?_); rintro e w9 ⟨rfl, rfl⟩))
  have HXb := Lib.hid (fun W (hW : Below w3.heap.size w3 W) => (show W.cell? ⟨w.heap.size, 0, none⟩ = some (.slice A n c) ∧ W.cell? ⟨w.heap.size + 1, 0, none⟩ = some (.int .i64 f) ∧ W.cell? ⟨w.heap.size + 1, 1, none⟩ = some (.int .i64 g) ∧ W.cell? ⟨w.heap.size + 1, 2, none⟩ = some (.int .i64 t) from ⟨(S5.out.past hW).cellAt 0 rfl, (S4.out.past hW).cellAt 0 rfl, (S4.out.past hW).cellAt 1 rfl, (S4.out.past hW).cellAt 2 rfl⟩))
  have HLb := Lib.hid (fun W (hW : Below w3.heap.size w3 W) => (show w.heap.size < W.heap.size ∧ w.heap.size + 1 < W.heap.size from ⟨(S5.out.past hW).lt, (S4.out.past hW).lt⟩))
  have HWw := Lib.hid (fun W (hW : Below w3.heap.size w3 W) => (show Below w.heap.size w W from HB3.out.trans (hW.mono HB3.out.size)))
  have HQ3 := Lib.hid (show Below w3.heap.size w3 w3 from pr)
  clear S0 S1 S2 S3 S4 S5 HB0 HB1 HB2 HB3 R0 R1 y0 y1 y2 yl HF HC
  generalize w.heap.size + 1 = b1 at *
  go_cut [7, 8] (fun pv ev wx => ∃ z : Nat, pv = .pointer (some ⟨z, 0, none⟩) ∧ ev = .int .i64 d3 ∧ Blk wx z 32 #[.int .i64 d1, .int .i64 d2] ∧ w3.heap.size ≤ z ∧ Below w3.heap.size w3 wx)
  case first =>
    as_aux_lemma =>
    have HSS := Lib.hid (show ∀ W, Below w3.heap.size w3 W → W.cell? ⟨w.heap.size, 0, none⟩ = some (.slice A n c) ∧ W.cell? ⟨b1, 0, none⟩ = some (.int .i64 f) from fun W hW => ⟨(HXb.out W (pt HQ3.out hW)).1, (HXb.out W (pt HQ3.out hW)).2.1⟩)
    refine wp_region_G 10 follows_mixed (fun W => W.cell? ⟨w.heap.size, 0, none⟩ = some (.slice A n c) ∧ W.cell? ⟨b1, 0, none⟩ = some (.int .i64 f)) (HSS.out _ (pd pr)) ?_
    intro hSd inv
    have HSd := Lib.hid hSd
    clear hSd
    refine wpAnyG_take (i := 0) (v := ?_) rfl (by kernel_rfl) (by kernel_rfl) (by kernel_rfl) (by kernel_rfl) (by kernel_rfl) (by decide) (by decide) inv (fun _ _ _ h => h) (Or.inl ⟨by rfl, ?_⟩) HSd.out ?_; rotate_left; (focus (intro W y1; obtain ⟨y1, y2⟩ := y1; go_simp; (first | done | with_reducible rfl))); clear inv; intro inv; simp only [List.getElem_toArray, List.getElem_cons_zero, Act.put, List.setIfInBounds_toArray, List.set_cons_zero, List.set_cons_succ]
    refine wpAnyG_take (i := 2) (v := ?_) rfl (by kernel_rfl) (by kernel_rfl) (by kernel_rfl) (by kernel_rfl) (by kernel_rfl) (by decide) (by decide) inv (fun _ _ _ h => h) (Or.inl ⟨by rfl, ?_⟩) HSd.out ?_; rotate_left; (focus (intro W y1; obtain ⟨y1, y2⟩ := y1; go_simp; (first | done | with_reducible rfl))); clear inv; intro inv; simp only [List.getElem_toArray, List.getElem_cons_zero, List.getElem_cons_succ, Act.put, List.setIfInBounds_toArray, List.set_cons_zero, List.set_cons_succ]
    refine wpAnyG_take (i := 3) (v := ?_) rfl (by kernel_rfl) (by kernel_rfl) (by kernel_rfl) (by kernel_rfl) (by kernel_rfl) (by decide) (by decide) inv (fun _ _ _ h => h) (Or.inl ⟨by rfl, ?_⟩) HSd.out ?_; rotate_left; (focus (intro W y1; obtain ⟨y1, y2⟩ := y1; go_simp; (first | done | with_reducible rfl))); clear inv; intro inv; simp only [List.getElem_toArray, List.getElem_cons_zero, List.getElem_cons_succ, Act.put, List.setIfInBounds_toArray, List.set_cons_zero, List.set_cons_succ]
    have HBd := Lib.hid (show Below w3.heap.size w3 w3.drew from pd pr)
    have HInv := Lib.hid inv
    clear inv HSd
    generalize w3.drew = vd at *
    refine wpAnyG_twoE (i := 1) (k := 8) (by kernel_rfl) rfl rfl rfl rfl (fun K hK => ?_) (fun K hK => ?_)
    · skip
      as_aux_lemma =>
      go_simp
      refine (HCp.out _ (HWw.out _ (pt HQ3.out HBd.out))).mono ?_
      rintro e v1 ⟨A2, c2, rfl, hc, hb⟩
      have HB1 := Lib.hid (pt HBd.out hb)
      have HCc := Lib.hid hc
      clear hc hb
      refine hK.out _ _ (fun _ => HSS.out _ HB1.out) ?_
      clear hK K
      replace HInv := Lib.hid (inv_memE (i := 1) HInv.out (by kernel_rfl) (by decide))
      refine wpAnyG_twoE (i := 4) (k := 8) (by kernel_rfl) rfl rfl rfl rfl (fun K hK => ?_) (fun K hK => ?_)
      · skip
        as_aux_lemma =>
        go_simp
        refine (HDr.out _ A2 c2 HCc.out).mono ?_
        rintro e v2 ⟨rfl, hb2⟩
        have HB2 := Lib.hid (pt HB1.out hb2)
        clear hb2
        refine hK.out _ _ (fun _ => HSS.out _ HB2.out) ?_
        clear hK K
        replace HInv := Lib.hid (inv_memE (i := 4) HInv.out (by kernel_rfl) (by decide))
        have inv := HInv.out
        clear HInv
        have HSd := Lib.hid (HSS.out _ HB2.out)
        refine wpAnyG_take (i := 5) (v := ?_) rfl (by kernel_rfl) (by kernel_rfl) (by kernel_rfl) (by kernel_rfl) (by kernel_rfl) (by decide) (by decide) inv (fun _ _ _ h => h) (Or.inl ⟨by rfl, ?_⟩) HSd.out ?_; rotate_left; (focus (intro W y1; obtain ⟨y1, y2⟩ := y1; go_simp; (first | done | with_reducible rfl))); clear inv; intro inv; simp only [List.getElem_toArray, List.getElem_cons_zero, List.getElem_cons_succ, Act.put, List.setIfInBounds_toArray, List.set_cons_zero, List.set_cons_succ]
        refine wpAnyG_take (i := 6) (v := ?_) rfl (by kernel_rfl) (by kernel_rfl) (by kernel_rfl) (by kernel_rfl) (by kernel_rfl) (by decide) (by decide) inv (fun _ _ _ h => h) (Or.inl ⟨by rfl, ?_⟩) HSd.out ?_; rotate_left; (focus (intro W y1; obtain ⟨y1, y2⟩ := y1; go_simp; (first | done | with_reducible rfl))); clear inv; intro inv; simp only [List.getElem_toArray, List.getElem_cons_zero, List.getElem_cons_succ, Act.put, List.setIfInBounds_toArray, List.set_cons_zero, List.set_cons_succ]
        refine wpAnyG_take (i := 7) (v := ?_) rfl (by kernel_rfl) (by kernel_rfl) (by kernel_rfl) (by kernel_rfl) (by kernel_rfl) (by decide) (by decide) inv (fun _ _ _ h => h) (Or.inl ⟨by rfl, ?_⟩) HSd.out ?_; rotate_left; (focus (intro W y1; obtain ⟨y1, y2⟩ := y1; go_simp; (first | done | with_reducible rfl))); clear inv; intro inv; simp only [List.getElem_toArray, List.getElem_cons_zero, List.getElem_cons_succ, Act.put, List.setIfInBounds_toArray, List.set_cons_zero, List.set_cons_succ]
        have HInv := Lib.hid inv
        clear inv HSd
        refine wpAnyG_one (i := 8) (by kernel_rfl) rfl rfl fun K hK => ?_
        go_simp
        have HZz := Lib.hid (show Blk (v2.alloc (.cells #[.int .i64 0, .int .i64 0] 32)) v2.heap.size 32 #[.int .i64 0, .int .i64 0] from Blk.newAt rfl)
        have HBz := Lib.hid (show Below w3.heap.size w3 (v2.alloc (.cells #[.int .i64 0, .int .i64 0] 32)) from pa HB2.out)
        refine hK.out _ _ (fun _ => HSS.out _ HBz.out) ?_
        clear hK K
        replace HInv := Lib.hid (inv_memE (i := 8) HInv.out (by kernel_rfl) (by decide))
        refine wpAnyG_one (i := 9) (by kernel_rfl) rfl rfl fun K hK => ?_
        refine store_op HZz.out (o := 0) (vs := #[.int .i64 d1, .int .i64 d2]) (cs' := #[.int .i64 d1, .int .i64 d2]) rfl rfl rfl (Nat.le_refl 2) frac_size (by simp [Value.oneCell']) fun v9 hv9 hp9 => ?_
        have HBz := Lib.hid (show Below w3.heap.size w3 v9 from HBz.out.trans (hp9.below _ HB2.out.size))
        refine hK.out _ _ (fun _ => HSS.out _ HBz.out) ?_
        clear hK K
        refine wpAnyG_one (i := 10) (by kernel_rfl) rfl rfl fun K hK => ?_
        go_simp
        refine hK.out _ _ (fun h => absurd h (by decide)) ?_
        clear hK K
        refine wpAnyG_done (by kernel_rfl) ?_
        clear HInv
        go_wp2
        go_meet
        case rel => exact ⟨_, rfl, rfl, hv9, HB2.out.size, HBz.out⟩
      · skip
        as_aux_lemma =>
        go_simp
        have HZz := Lib.hid (show Blk (v1.alloc (.cells #[.int .i64 0, .int .i64 0] 32)) v1.heap.size 32 #[.int .i64 0, .int .i64 0] from Blk.newAt rfl)
        have HBz := Lib.hid (show Below w3.heap.size w3 (v1.alloc (.cells #[.int .i64 0, .int .i64 0] 32)) from pa HB1.out)
        refine hK.out _ _ (fun _ => HSS.out _ HBz.out) ?_
        clear hK K
        replace HInv := Lib.hid (inv_memE (i := 8) HInv.out (by kernel_rfl) (by decide))
        refine wpAnyG_one (i := 4) (by kernel_rfl) rfl rfl fun K hK => ?_
        go_simp
        refine (HDr.out _ A2 c2 (HCc.out.past (Nat.le_refl _) (pa pr))).mono ?_
        rintro e v2 ⟨rfl, hb2⟩
        have HB2 := Lib.hid (pt HBz.out hb2)
        have HZ2 := Lib.hid (HZz.out.past hb2)
        clear hb2
        refine hK.out _ _ (fun _ => HSS.out _ HB2.out) ?_
        clear hK K
        replace HInv := Lib.hid (inv_memE (i := 4) HInv.out (by kernel_rfl) (by decide))
        have inv := HInv.out
        clear HInv
        have HSd := Lib.hid (HSS.out _ HB2.out)
        refine wpAnyG_take (i := 5) (v := ?_) rfl (by kernel_rfl) (by kernel_rfl) (by kernel_rfl) (by kernel_rfl) (by kernel_rfl) (by decide) (by decide) inv (fun _ _ _ h => h) (Or.inl ⟨by rfl, ?_⟩) HSd.out ?_; rotate_left; (focus (intro W y1; obtain ⟨y1, y2⟩ := y1; go_simp; (first | done | with_reducible rfl))); clear inv; intro inv; simp only [List.getElem_toArray, List.getElem_cons_zero, List.getElem_cons_succ, Act.put, List.setIfInBounds_toArray, List.set_cons_zero, List.set_cons_succ]
        refine wpAnyG_take (i := 6) (v := ?_) rfl (by kernel_rfl) (by kernel_rfl) (by kernel_rfl) (by kernel_rfl) (by kernel_rfl) (by decide) (by decide) inv (fun _ _ _ h => h) (Or.inl ⟨by rfl, ?_⟩) HSd.out ?_; rotate_left; (focus (intro W y1; obtain ⟨y1, y2⟩ := y1; go_simp; (first | done | with_reducible rfl))); clear inv; intro inv; simp only [List.getElem_toArray, List.getElem_cons_zero, List.getElem_cons_succ, Act.put, List.setIfInBounds_toArray, List.set_cons_zero, List.set_cons_succ]
        refine wpAnyG_take (i := 7) (v := ?_) rfl (by kernel_rfl) (by kernel_rfl) (by kernel_rfl) (by kernel_rfl) (by kernel_rfl) (by decide) (by decide) inv (fun _ _ _ h => h) (Or.inl ⟨by rfl, ?_⟩) HSd.out ?_; rotate_left; (focus (intro W y1; obtain ⟨y1, y2⟩ := y1; go_simp; (first | done | with_reducible rfl))); clear inv; intro inv; simp only [List.getElem_toArray, List.getElem_cons_zero, List.getElem_cons_succ, Act.put, List.setIfInBounds_toArray, List.set_cons_zero, List.set_cons_succ]
        have HInv := Lib.hid inv
        clear inv HSd
        refine wpAnyG_one (i := 9) (by kernel_rfl) rfl rfl fun K hK => ?_
        refine store_op HZ2.out (o := 0) (vs := #[.int .i64 d1, .int .i64 d2]) (cs' := #[.int .i64 d1, .int .i64 d2]) rfl rfl rfl (Nat.le_refl 2) frac_size (by simp [Value.oneCell']) fun v9 hv9 hp9 => ?_
        have HBz := Lib.hid (show Below w3.heap.size w3 v9 from HB2.out.trans (hp9.below _ HB1.out.size))
        refine hK.out _ _ (fun _ => HSS.out _ HBz.out) ?_
        clear hK K
        refine wpAnyG_one (i := 10) (by kernel_rfl) rfl rfl fun K hK => ?_
        go_simp
        refine hK.out _ _ (fun h => absurd h (by decide)) ?_
        clear hK K
        refine wpAnyG_done (by kernel_rfl) ?_
        clear HInv
        go_wp2
        go_meet
        case rel => exact ⟨_, rfl, rfl, hv9, HB1.out.size, HBz.out⟩
    · skip
      as_aux_lemma =>
      go_simp
      have HZz := Lib.hid (show Blk (vd.alloc (.cells #[.int .i64 0, .int .i64 0] 32)) vd.heap.size 32 #[.int .i64 0, .int .i64 0] from Blk.newAt rfl)
      have HBz := Lib.hid (show Below w3.heap.size w3 (vd.alloc (.cells #[.int .i64 0, .int .i64 0] 32)) from pa HBd.out)
      refine hK.out _ _ (fun _ => HSS.out _ HBz.out) ?_
      clear hK K
      replace HInv := Lib.hid (inv_memE (i := 8) HInv.out (by kernel_rfl) (by decide))
      refine wpAnyG_one (i := 1) (by kernel_rfl) rfl rfl fun K hK => ?_
      go_simp
      refine (HCp.out _ (HWw.out _ (pt HQ3.out HBz.out))).mono ?_
      rintro e v1 ⟨A2, c2, rfl, hc, hb⟩
      have HB1 := Lib.hid (pt HBz.out hb)
      have HCc := Lib.hid hc
      have HZ1 := Lib.hid (HZz.out.past hb)
      clear hc hb
      refine hK.out _ _ (fun _ => HSS.out _ HB1.out) ?_
      clear hK K
      replace HInv := Lib.hid (inv_memE (i := 1) HInv.out (by kernel_rfl) (by decide))
      refine wpAnyG_one (i := 4) (by kernel_rfl) rfl rfl fun K hK => ?_
      go_simp
      refine (HDr.out _ A2 c2 HCc.out).mono ?_
      rintro e v2 ⟨rfl, hb2⟩
      have HB2 := Lib.hid (pt HB1.out hb2)
      have HZ2 := Lib.hid (HZ1.out.past hb2)
      clear hb2
      refine hK.out _ _ (fun _ => HSS.out _ HB2.out) ?_
      clear hK K
      replace HInv := Lib.hid (inv_memE (i := 4) HInv.out (by kernel_rfl) (by decide))
      have inv := HInv.out
      clear HInv
      have HSd := Lib.hid (HSS.out _ HB2.out)
      refine wpAnyG_take (i := 5) (v := ?_) rfl (by kernel_rfl) (by kernel_rfl) (by kernel_rfl) (by kernel_rfl) (by kernel_rfl) (by decide) (by decide) inv (fun _ _ _ h => h) (Or.inl ⟨by rfl, ?_⟩) HSd.out ?_; rotate_left; (focus (intro W y1; obtain ⟨y1, y2⟩ := y1; go_simp; (first | done | with_reducible rfl))); clear inv; intro inv; simp only [List.getElem_toArray, List.getElem_cons_zero, List.getElem_cons_succ, Act.put, List.setIfInBounds_toArray, List.set_cons_zero, List.set_cons_succ]
      refine wpAnyG_take (i := 6) (v := ?_) rfl (by kernel_rfl) (by kernel_rfl) (by kernel_rfl) (by kernel_rfl) (by kernel_rfl) (by decide) (by decide) inv (fun _ _ _ h => h) (Or.inl ⟨by rfl, ?_⟩) HSd.out ?_; rotate_left; (focus (intro W y1; obtain ⟨y1, y2⟩ := y1; go_simp; (first | done | with_reducible rfl))); clear inv; intro inv; simp only [List.getElem_toArray, List.getElem_cons_zero, List.getElem_cons_succ, Act.put, List.setIfInBounds_toArray, List.set_cons_zero, List.set_cons_succ]
      refine wpAnyG_take (i := 7) (v := ?_) rfl (by kernel_rfl) (by kernel_rfl) (by kernel_rfl) (by kernel_rfl) (by kernel_rfl) (by decide) (by decide) inv (fun _ _ _ h => h) (Or.inl ⟨by rfl, ?_⟩) HSd.out ?_; rotate_left; (focus (intro W y1; obtain ⟨y1, y2⟩ := y1; go_simp; (first | done | with_reducible rfl))); clear inv; intro inv; simp only [List.getElem_toArray, List.getElem_cons_zero, List.getElem_cons_succ, Act.put, List.setIfInBounds_toArray, List.set_cons_zero, List.set_cons_succ]
      have HInv := Lib.hid inv
      clear inv HSd
      refine wpAnyG_one (i := 9) (by kernel_rfl) rfl rfl fun K hK => ?_
      refine store_op HZ2.out (o := 0) (vs := #[.int .i64 d1, .int .i64 d2]) (cs' := #[.int .i64 d1, .int .i64 d2]) rfl rfl rfl (Nat.le_refl 2) frac_size (by simp [Value.oneCell']) fun v9 hv9 hp9 => ?_
      have HBz := Lib.hid (show Below w3.heap.size w3 v9 from HB2.out.trans (hp9.below _ HBd.out.size))
      refine hK.out _ _ (fun _ => HSS.out _ HBz.out) ?_
      clear hK K
      refine wpAnyG_one (i := 10) (by kernel_rfl) rfl rfl fun K hK => ?_
      go_simp
      refine hK.out _ _ (fun h => absurd h (by decide)) ?_
      clear hK K
      refine wpAnyG_done (by kernel_rfl) ?_
      clear HInv
      go_wp2
      go_meet
      case rel => exact ⟨_, rfl, rfl, hv9, HBd.out.size, HBz.out⟩
  case rest =>
    as_aux_lemma =>
    obtain ⟨z7, rfl, rfl, hz, hge, hbc⟩ := hcut
    obtain ⟨w4, hwk⟩ : ∃ v : World, v = wc := ⟨_, rfl⟩
    subst hwk
    have HQ4 := Lib.hid (pt HQ3.out hbc)
    have HN4 := Lib.hid hbc
    have T7_4 := Lib.hid hz
    have hE0 := HM.out.e0
    dsimp only at hE0
    have t0 := T7_4.out.cellAt 0 rfl
    have t1 := T7_4.out.cellAt 1 rfl
    have tl := T7_4.out.lt
    go_upto_region 6 with fail
    go_cut [65] (fun bv wx => bv = .bool false ∧ wx = w4)
    case first =>
      as_aux_lemma =>
      rcases hE0 with rfl | rfl
      all_goals
        go_wp2
        go_meet
        case rel => exact ⟨rfl, rfl⟩
    case rest =>
      as_aux_lemma =>
      obtain ⟨hcb, hcw⟩ := hcut
      subst hcb
      replace hcw := hcw.symm
      subst hcw
      go_upto_region 8 with fail
      obtain ⟨BB, hBB⟩ : ∃ b, b = decide (d3 = 0 ∧ d2 = 1 ∧ -50000 ≤ d1 ∧ d1 ≤ 50000) := ⟨_, rfl⟩
      have HBB := Lib.hid hBB
      clear hBB
      go_cut [77] (fun bv wx => bv = .bool BB ∧ wx = w4)
      case first =>
        as_aux_lemma =>
        rcases hE0 with rfl | rfl
        · by_cases h2 : d2 = 1
          · subst h2
            cases h3 : withinB d1 (-50000) 50000
            · have WD := Lib.hid (fun W => withinR_w d1 (-50000) 50000 false h3 W)
              have e : BB = false := by
                rw [HBB.out]
                unfold withinB at h3
                simp only [Bool.and_eq_false_iff, decide_eq_false_iff_not] at h3
                exact decide_eq_false (by omega)
              clear h3
              go_wp2_with (go_at_call 7; (go_must (refine (WD.out _).mono ?_)); rintro e w9 ⟨rfl, rfl⟩)
              go_meet
              case rel => exact ⟨by rw [e], rfl⟩
            · have WD := Lib.hid (fun W => withinR_w d1 (-50000) 50000 true h3 W)
              have e : BB = true := by
                rw [HBB.out]
                unfold withinB at h3
                simp only [Bool.and_eq_true, decide_eq_true_eq] at h3
                exact decide_eq_true (by omega)
              clear h3
              go_wp2_with (go_at_call 7; (go_must (refine (WD.out _).mono ?_)); rintro e w9 ⟨rfl, rfl⟩)
              go_meet
              case rel => exact ⟨by rw [e], rfl⟩
          · have e : BB = false := by rw [HBB.out]; exact decide_eq_false (by omega)
            have h2b : (d2 == 1) = false := by simpa using h2
            go_wp2
            go_meet
            case rel => exact ⟨by rw [e], rfl⟩
        · have e : BB = false := by rw [HBB.out]; exact decide_eq_false (by omega)
          go_wp2
          go_meet
          case rel => exact ⟨by rw [e], rfl⟩
      case rest =>
        as_aux_lemma =>
        obtain ⟨hcb, hcw⟩ := hcut
        subst hcb
        replace hcw := hcw.symm
        subst hcw
        go_upto_if 77 with fail
        go_cut [] (fun wx => Below w4.heap.size w4 wx)
        case first =>
          as_aux_lemma =>
          cases BB
          · go_wp2
            go_meet
            case rel => exact pr
          · have hB := of_decide_eq_true HBB.out.symm
            obtain ⟨rfl, rfl, hB3, hB4⟩ := hB
            have hgf := HGf.out
            have rh : wrap64 (d1 + g * f) = d1 + g * f := w64 (by omega)
            have rhi : IntKind.i64.wrap (d1 + g * f) = d1 + g * f := IntWalk.i64_in _ (by omega)
            have HFe := Lib.hid (HFd.out rfl rfl hB3 hB4)
            clear hgf
            go_upto_region 9 with fail
            go_cut [9, 10] (fun pv ev wx => ∃ z : Nat, pv = .pointer (some ⟨z, 0, none⟩) ∧ ev = .int .i64 0 ∧ Blk wx z 32 #[.int .i64 f, .int .i64 1] ∧ w4.heap.size ≤ z ∧ Below w4.heap.size w4 wx)
            case first =>
              as_aux_lemma =>
              have HSS := Lib.hid (show ∀ W, Below w4.heap.size w4 W → W.cell? ⟨w.heap.size, 0, none⟩ = some (.slice A n c) ∧ W.cell? ⟨b1, 0, none⟩ = some (.int .i64 f) ∧ W.cell? ⟨b1, 1, none⟩ = some (.int .i64 g) ∧ W.cell? ⟨z7, 0, none⟩ = some (.int .i64 d1) from fun W hW => ⟨(HXb.out W (pt HQ4.out hW)).1, (HXb.out W (pt HQ4.out hW)).2.1, (HXb.out W (pt HQ4.out hW)).2.2.1, (T7_4.out.past hW).cellAt 0 rfl⟩)
              refine wp_region_G 18 follows_mixed (fun W => W.cell? ⟨w.heap.size, 0, none⟩ = some (.slice A n c) ∧ W.cell? ⟨b1, 0, none⟩ = some (.int .i64 f) ∧ W.cell? ⟨b1, 1, none⟩ = some (.int .i64 g) ∧ W.cell? ⟨z7, 0, none⟩ = some (.int .i64 d1)) (HSS.out _ (pd pr)) ?_
              intro hSd inv
              have HSd := Lib.hid hSd
              clear hSd
              refine wpAnyG_take (i := 0) (v := ?_) rfl (by kernel_rfl) (by kernel_rfl) (by kernel_rfl) (by kernel_rfl) (by kernel_rfl) (by decide) (by decide) inv (fun _ _ _ h => h) (Or.inl ⟨by rfl, ?_⟩) HSd.out ?_; rotate_left; (focus (intro W y1; obtain ⟨y1, y2, y3, y4⟩ := y1; go_simp; (first | done | with_reducible rfl))); clear inv; intro inv; simp only [List.getElem_toArray, List.getElem_cons_zero, Act.put, List.setIfInBounds_toArray, List.set_cons_zero, List.set_cons_succ]
              refine wpAnyG_take (i := 2) (v := ?_) rfl (by kernel_rfl) (by kernel_rfl) (by kernel_rfl) (by kernel_rfl) (by kernel_rfl) (by decide) (by decide) inv (fun _ _ _ h => h) (Or.inl ⟨by rfl, ?_⟩) HSd.out ?_; rotate_left; (focus (intro W y1; obtain ⟨y1, y2, y3, y4⟩ := y1; go_simp; (first | done | with_reducible rfl))); clear inv; intro inv; simp only [List.getElem_toArray, List.getElem_cons_zero, List.getElem_cons_succ, Act.put, List.setIfInBounds_toArray, List.set_cons_zero, List.set_cons_succ]
              refine wpAnyG_take (i := 3) (v := ?_) rfl (by kernel_rfl) (by kernel_rfl) (by kernel_rfl) (by kernel_rfl) (by kernel_rfl) (by decide) (by decide) inv (fun _ _ _ h => h) (Or.inl ⟨by rfl, ?_⟩) HSd.out ?_; rotate_left; (focus (intro W y1; obtain ⟨y1, y2, y3, y4⟩ := y1; go_simp; (first | done | with_reducible rfl))); clear inv; intro inv; simp only [List.getElem_toArray, List.getElem_cons_zero, List.getElem_cons_succ, Act.put, List.setIfInBounds_toArray, List.set_cons_zero, List.set_cons_succ]
              refine wpAnyG_take (i := 4) (v := ?_) rfl (by kernel_rfl) (by kernel_rfl) (by kernel_rfl) (by kernel_rfl) (by kernel_rfl) (by decide) (by decide) inv (fun _ _ _ h => h) (Or.inl ⟨by rfl, ?_⟩) HSd.out ?_; rotate_left; (focus (intro W y1; obtain ⟨y1, y2, y3, y4⟩ := y1; go_simp; (first | done | with_reducible rfl))); clear inv; intro inv; simp only [List.getElem_toArray, List.getElem_cons_zero, List.getElem_cons_succ, Act.put, List.setIfInBounds_toArray, List.set_cons_zero, List.set_cons_succ]
              refine wpAnyG_take (i := 5) (v := ?_) rfl (by kernel_rfl) (by kernel_rfl) (by kernel_rfl) (by kernel_rfl) (by kernel_rfl) (by decide) (by decide) inv (fun _ _ _ h => h) (Or.inl ⟨by rfl, ?_⟩) HSd.out ?_; rotate_left; (focus (intro W y1; obtain ⟨y1, y2, y3, y4⟩ := y1; go_simp; (first | done | with_reducible rfl))); clear inv; intro inv; simp only [List.getElem_toArray, List.getElem_cons_zero, List.getElem_cons_succ, Act.put, List.setIfInBounds_toArray, List.set_cons_zero, List.set_cons_succ]
              refine wpAnyG_take (i := 6) (v := ?_) rfl (by kernel_rfl) (by kernel_rfl) (by kernel_rfl) (by kernel_rfl) (by kernel_rfl) (by decide) (by decide) inv (fun _ _ _ h => h) (Or.inl ⟨by rfl, ?_⟩) HSd.out ?_; rotate_left; (focus (intro W y1; obtain ⟨y1, y2, y3, y4⟩ := y1; go_simp; (first | done | with_reducible rfl))); clear inv; intro inv; simp only [List.getElem_toArray, List.getElem_cons_zero, List.getElem_cons_succ, Act.put, List.setIfInBounds_toArray, List.set_cons_zero, List.set_cons_succ]
              refine wpAnyG_take (i := 7) (v := ?_) rfl (by kernel_rfl) (by kernel_rfl) (by kernel_rfl) (by kernel_rfl) (by kernel_rfl) (by decide) (by decide) inv (fun _ _ _ h => h) (Or.inl ⟨by rfl, ?_⟩) HSd.out ?_; rotate_left; (focus (intro W y1; obtain ⟨y1, y2, y3, y4⟩ := y1; go_simp; (first | done | with_reducible rfl))); clear inv; intro inv; simp only [List.getElem_toArray, List.getElem_cons_zero, List.getElem_cons_succ, Act.put, List.setIfInBounds_toArray, List.set_cons_zero, List.set_cons_succ]
              refine wpAnyG_take (i := 8) (v := ?_) rfl (by kernel_rfl) (by kernel_rfl) (by kernel_rfl) (by kernel_rfl) (by kernel_rfl) (by decide) (by decide) inv (fun _ _ _ h => h) (Or.inl ⟨by rfl, ?_⟩) HSd.out ?_; rotate_left; (focus (intro W y1; obtain ⟨y1, y2, y3, y4⟩ := y1; go_simp; (first | done | with_reducible rfl))); clear inv; intro inv; simp only [List.getElem_toArray, List.getElem_cons_zero, List.getElem_cons_succ, Act.put, List.setIfInBounds_toArray, List.set_cons_zero, List.set_cons_succ]
              refine wpAnyG_take (i := 9) (v := ?_) rfl (by kernel_rfl) (by kernel_rfl) (by kernel_rfl) (by kernel_rfl) (by kernel_rfl) (by decide) (by decide) inv (fun _ _ _ h => h) (Or.inl ⟨by rfl, ?_⟩) HSd.out ?_; rotate_left; (focus (intro W y1; obtain ⟨y1, y2, y3, y4⟩ := y1; go_simp; (first | done | with_reducible rfl))); clear inv; intro inv; simp only [List.getElem_toArray, List.getElem_cons_zero, List.getElem_cons_succ, Act.put, List.setIfInBounds_toArray, List.set_cons_zero, List.set_cons_succ]
              refine wpAnyG_take (i := 10) (v := ?_) rfl (by kernel_rfl) (by kernel_rfl) (by kernel_rfl) (by kernel_rfl) (by kernel_rfl) (by decide) (by decide) inv (fun _ _ _ h => h) (Or.inl ⟨by rfl, ?_⟩) HSd.out ?_; rotate_left; (focus (intro W y1; obtain ⟨y1, y2, y3, y4⟩ := y1; go_simp; (first | done | with_reducible rfl))); clear inv; intro inv; simp only [List.getElem_toArray, List.getElem_cons_zero, List.getElem_cons_succ, Act.put, List.setIfInBounds_toArray, List.set_cons_zero, List.set_cons_succ]
              refine wpAnyG_take (i := 11) (v := ?_) rfl (by kernel_rfl) (by kernel_rfl) (by kernel_rfl) (by kernel_rfl) (by kernel_rfl) (by decide) (by decide) inv (fun _ _ _ h => h) (Or.inl ⟨by rfl, ?_⟩) HSd.out ?_; rotate_left; (focus (intro W y1; obtain ⟨y1, y2, y3, y4⟩ := y1; go_simp; (first | done | with_reducible rfl))); clear inv; intro inv; simp only [List.getElem_toArray, List.getElem_cons_zero, List.getElem_cons_succ, Act.put, List.setIfInBounds_toArray, List.set_cons_zero, List.set_cons_succ]
              have HBd := Lib.hid (show Below w4.heap.size w4 w4.drew from pd pr)
              have HInv := Lib.hid inv
              clear inv HSd
              generalize w4.drew = vd at *
              refine wpAnyG_twoE (i := 1) (k := 16) (by kernel_rfl) rfl rfl rfl rfl (fun K hK => ?_) (fun K hK => ?_)
              · skip
                as_aux_lemma =>
                go_simp
                refine (HCp.out _ (HWw.out _ (pt HQ4.out HBd.out))).mono ?_
                rintro e v1 ⟨A2, c2, rfl, hc, hb⟩
                have HB1 := Lib.hid (pt HBd.out hb)
                have HCc := Lib.hid hc
                clear hc hb
                refine hK.out _ _ (fun _ => HSS.out _ HB1.out) ?_
                clear hK K
                replace HInv := Lib.hid (inv_memE (i := 1) HInv.out (by kernel_rfl) (by decide))
                refine wpAnyG_twoE (i := 12) (k := 16) (by kernel_rfl) rfl rfl rfl rfl (fun K hK => ?_) (fun K hK => ?_)
                · skip
                  as_aux_lemma =>
                  go_simp
                  refine (HFe.out _ A2 c2 HCc.out).mono ?_
                  rintro e v2 ⟨rfl, hb2⟩
                  have HB2 := Lib.hid (pt HB1.out hb2)
                  clear hb2
                  refine hK.out _ _ (fun _ => HSS.out _ HB2.out) ?_
                  clear hK K
                  replace HInv := Lib.hid (inv_memE (i := 12) HInv.out (by kernel_rfl) (by decide))
                  have inv := HInv.out
                  clear HInv
                  have HSd := Lib.hid (HSS.out _ HB2.out)
                  refine wpAnyG_take (i := 13) (v := ?_) rfl (by kernel_rfl) (by kernel_rfl) (by kernel_rfl) (by kernel_rfl) (by kernel_rfl) (by decide) (by decide) inv (fun _ _ _ h => h) (Or.inl ⟨by rfl, ?_⟩) HSd.out ?_; rotate_left; (focus (intro W y1; obtain ⟨y1, y2, y3, y4⟩ := y1; go_simp; (first | done | with_reducible rfl))); clear inv; intro inv; simp only [List.getElem_toArray, List.getElem_cons_zero, List.getElem_cons_succ, Act.put, List.setIfInBounds_toArray, List.set_cons_zero, List.set_cons_succ]
                  refine wpAnyG_take (i := 14) (v := ?_) rfl (by kernel_rfl) (by kernel_rfl) (by kernel_rfl) (by kernel_rfl) (by kernel_rfl) (by decide) (by decide) inv (fun _ _ _ h => h) (Or.inl ⟨by rfl, ?_⟩) HSd.out ?_; rotate_left; (focus (intro W y1; obtain ⟨y1, y2, y3, y4⟩ := y1; go_simp; (first | done | with_reducible rfl))); clear inv; intro inv; simp only [List.getElem_toArray, List.getElem_cons_zero, List.getElem_cons_succ, Act.put, List.setIfInBounds_toArray, List.set_cons_zero, List.set_cons_succ]
                  refine wpAnyG_take (i := 15) (v := ?_) rfl (by kernel_rfl) (by kernel_rfl) (by kernel_rfl) (by kernel_rfl) (by kernel_rfl) (by decide) (by decide) inv (fun _ _ _ h => h) (Or.inl ⟨by rfl, ?_⟩) HSd.out ?_; rotate_left; (focus (intro W y1; obtain ⟨y1, y2, y3, y4⟩ := y1; go_simp; (first | done | with_reducible rfl))); clear inv; intro inv; simp only [List.getElem_toArray, List.getElem_cons_zero, List.getElem_cons_succ, Act.put, List.setIfInBounds_toArray, List.set_cons_zero, List.set_cons_succ]
                  have HInv := Lib.hid inv
                  clear inv HSd
                  refine wpAnyG_one (i := 16) (by kernel_rfl) rfl rfl fun K hK => ?_
                  go_simp
                  have HZz := Lib.hid (show Blk (v2.alloc (.cells #[.int .i64 0, .int .i64 0] 32)) v2.heap.size 32 #[.int .i64 0, .int .i64 0] from Blk.newAt rfl)
                  have HBz := Lib.hid (show Below w4.heap.size w4 (v2.alloc (.cells #[.int .i64 0, .int .i64 0] 32)) from pa HB2.out)
                  refine hK.out _ _ (fun _ => HSS.out _ HBz.out) ?_
                  clear hK K
                  replace HInv := Lib.hid (inv_memE (i := 16) HInv.out (by kernel_rfl) (by decide))
                  refine wpAnyG_one (i := 17) (by kernel_rfl) rfl rfl fun K hK => ?_
                  refine store_op HZz.out (o := 0) (vs := #[.int .i64 f, .int .i64 1]) (cs' := #[.int .i64 f, .int .i64 1]) rfl rfl rfl (Nat.le_refl 2) frac_size (by simp [Value.oneCell']) fun v9 hv9 hp9 => ?_
                  have HBz := Lib.hid (show Below w4.heap.size w4 v9 from HBz.out.trans (hp9.below _ HB2.out.size))
                  refine hK.out _ _ (fun _ => HSS.out _ HBz.out) ?_
                  clear hK K
                  refine wpAnyG_one (i := 18) (by kernel_rfl) rfl rfl fun K hK => ?_
                  go_simp
                  refine hK.out _ _ (fun h => absurd h (by decide)) ?_
                  clear hK K
                  refine wpAnyG_done (by kernel_rfl) ?_
                  clear HInv
                  go_wp2
                  go_meet
                  case rel => exact ⟨_, rfl, rfl, hv9, HB2.out.size, HBz.out⟩
                · skip
                  as_aux_lemma =>
                  go_simp
                  have HZz := Lib.hid (show Blk (v1.alloc (.cells #[.int .i64 0, .int .i64 0] 32)) v1.heap.size 32 #[.int .i64 0, .int .i64 0] from Blk.newAt rfl)
                  have HBz := Lib.hid (show Below w4.heap.size w4 (v1.alloc (.cells #[.int .i64 0, .int .i64 0] 32)) from pa HB1.out)
                  refine hK.out _ _ (fun _ => HSS.out _ HBz.out) ?_
                  clear hK K
                  replace HInv := Lib.hid (inv_memE (i := 16) HInv.out (by kernel_rfl) (by decide))
                  refine wpAnyG_one (i := 12) (by kernel_rfl) rfl rfl fun K hK => ?_
                  go_simp
                  refine (HFe.out _ A2 c2 (HCc.out.past (Nat.le_refl _) (pa pr))).mono ?_
                  rintro e v2 ⟨rfl, hb2⟩
                  have HB2 := Lib.hid (pt HBz.out hb2)
                  have HZ2 := Lib.hid (HZz.out.past hb2)
                  clear hb2
                  refine hK.out _ _ (fun _ => HSS.out _ HB2.out) ?_
                  clear hK K
                  replace HInv := Lib.hid (inv_memE (i := 12) HInv.out (by kernel_rfl) (by decide))
                  have inv := HInv.out
                  clear HInv
                  have HSd := Lib.hid (HSS.out _ HB2.out)
                  refine wpAnyG_take (i := 13) (v := ?_) rfl (by kernel_rfl) (by kernel_rfl) (by kernel_rfl) (by kernel_rfl) (by kernel_rfl) (by decide) (by decide) inv (fun _ _ _ h => h) (Or.inl ⟨by rfl, ?_⟩) HSd.out ?_; rotate_left; (focus (intro W y1; obtain ⟨y1, y2, y3, y4⟩ := y1; go_simp; (first | done | with_reducible rfl))); clear inv; intro inv; simp only [List.getElem_toArray, List.getElem_cons_zero, List.getElem_cons_succ, Act.put, List.setIfInBounds_toArray, List.set_cons_zero, List.set_cons_succ]
                  refine wpAnyG_take (i := 14) (v := ?_) rfl (by kernel_rfl) (by kernel_rfl) (by kernel_rfl) (by kernel_rfl) (by kernel_rfl) (by decide) (by decide) inv (fun _ _ _ h => h) (Or.inl ⟨by rfl, ?_⟩) HSd.out ?_; rotate_left; (focus (intro W y1; obtain ⟨y1, y2, y3, y4⟩ := y1; go_simp; (first | done | with_reducible rfl))); clear inv; intro inv; simp only [List.getElem_toArray, List.getElem_cons_zero, List.getElem_cons_succ, Act.put, List.setIfInBounds_toArray, List.set_cons_zero, List.set_cons_succ]
                  refine wpAnyG_take (i := 15) (v := ?_) rfl (by kernel_rfl) (by kernel_rfl) (by kernel_rfl) (by kernel_rfl) (by kernel_rfl) (by decide) (by decide) inv (fun _ _ _ h => h) (Or.inl ⟨by rfl, ?_⟩) HSd.out ?_; rotate_left; (focus (intro W y1; obtain ⟨y1, y2, y3, y4⟩ := y1; go_simp; (first | done | with_reducible rfl))); clear inv; intro inv; simp only [List.getElem_toArray, List.getElem_cons_zero, List.getElem_cons_succ, Act.put, List.setIfInBounds_toArray, List.set_cons_zero, List.set_cons_succ]
                  have HInv := Lib.hid inv
                  clear inv HSd
                  refine wpAnyG_one (i := 17) (by kernel_rfl) rfl rfl fun K hK => ?_
                  refine store_op HZ2.out (o := 0) (vs := #[.int .i64 f, .int .i64 1]) (cs' := #[.int .i64 f, .int .i64 1]) rfl rfl rfl (Nat.le_refl 2) frac_size (by simp [Value.oneCell']) fun v9 hv9 hp9 => ?_
                  have HBz := Lib.hid (show Below w4.heap.size w4 v9 from HB2.out.trans (hp9.below _ HB1.out.size))
                  refine hK.out _ _ (fun _ => HSS.out _ HBz.out) ?_
                  clear hK K
                  refine wpAnyG_one (i := 18) (by kernel_rfl) rfl rfl fun K hK => ?_
                  go_simp
                  refine hK.out _ _ (fun h => absurd h (by decide)) ?_
                  clear hK K
                  refine wpAnyG_done (by kernel_rfl) ?_
                  clear HInv
                  go_wp2
                  go_meet
                  case rel => exact ⟨_, rfl, rfl, hv9, HB1.out.size, HBz.out⟩
              · skip
                as_aux_lemma =>
                go_simp
                have HZz := Lib.hid (show Blk (vd.alloc (.cells #[.int .i64 0, .int .i64 0] 32)) vd.heap.size 32 #[.int .i64 0, .int .i64 0] from Blk.newAt rfl)
                have HBz := Lib.hid (show Below w4.heap.size w4 (vd.alloc (.cells #[.int .i64 0, .int .i64 0] 32)) from pa HBd.out)
                refine hK.out _ _ (fun _ => HSS.out _ HBz.out) ?_
                clear hK K
                replace HInv := Lib.hid (inv_memE (i := 16) HInv.out (by kernel_rfl) (by decide))
                refine wpAnyG_one (i := 1) (by kernel_rfl) rfl rfl fun K hK => ?_
                go_simp
                refine (HCp.out _ (HWw.out _ (pt HQ4.out HBz.out))).mono ?_
                rintro e v1 ⟨A2, c2, rfl, hc, hb⟩
                have HB1 := Lib.hid (pt HBz.out hb)
                have HCc := Lib.hid hc
                have HZ1 := Lib.hid (HZz.out.past hb)
                clear hc hb
                refine hK.out _ _ (fun _ => HSS.out _ HB1.out) ?_
                clear hK K
                replace HInv := Lib.hid (inv_memE (i := 1) HInv.out (by kernel_rfl) (by decide))
                refine wpAnyG_one (i := 12) (by kernel_rfl) rfl rfl fun K hK => ?_
                go_simp
                refine (HFe.out _ A2 c2 HCc.out).mono ?_
                rintro e v2 ⟨rfl, hb2⟩
                have HB2 := Lib.hid (pt HB1.out hb2)
                have HZ2 := Lib.hid (HZ1.out.past hb2)
                clear hb2
                refine hK.out _ _ (fun _ => HSS.out _ HB2.out) ?_
                clear hK K
                replace HInv := Lib.hid (inv_memE (i := 12) HInv.out (by kernel_rfl) (by decide))
                have inv := HInv.out
                clear HInv
                have HSd := Lib.hid (HSS.out _ HB2.out)
                refine wpAnyG_take (i := 13) (v := ?_) rfl (by kernel_rfl) (by kernel_rfl) (by kernel_rfl) (by kernel_rfl) (by kernel_rfl) (by decide) (by decide) inv (fun _ _ _ h => h) (Or.inl ⟨by rfl, ?_⟩) HSd.out ?_; rotate_left; (focus (intro W y1; obtain ⟨y1, y2, y3, y4⟩ := y1; go_simp; (first | done | with_reducible rfl))); clear inv; intro inv; simp only [List.getElem_toArray, List.getElem_cons_zero, List.getElem_cons_succ, Act.put, List.setIfInBounds_toArray, List.set_cons_zero, List.set_cons_succ]
                refine wpAnyG_take (i := 14) (v := ?_) rfl (by kernel_rfl) (by kernel_rfl) (by kernel_rfl) (by kernel_rfl) (by kernel_rfl) (by decide) (by decide) inv (fun _ _ _ h => h) (Or.inl ⟨by rfl, ?_⟩) HSd.out ?_; rotate_left; (focus (intro W y1; obtain ⟨y1, y2, y3, y4⟩ := y1; go_simp; (first | done | with_reducible rfl))); clear inv; intro inv; simp only [List.getElem_toArray, List.getElem_cons_zero, List.getElem_cons_succ, Act.put, List.setIfInBounds_toArray, List.set_cons_zero, List.set_cons_succ]
                refine wpAnyG_take (i := 15) (v := ?_) rfl (by kernel_rfl) (by kernel_rfl) (by kernel_rfl) (by kernel_rfl) (by kernel_rfl) (by decide) (by decide) inv (fun _ _ _ h => h) (Or.inl ⟨by rfl, ?_⟩) HSd.out ?_; rotate_left; (focus (intro W y1; obtain ⟨y1, y2, y3, y4⟩ := y1; go_simp; (first | done | with_reducible rfl))); clear inv; intro inv; simp only [List.getElem_toArray, List.getElem_cons_zero, List.getElem_cons_succ, Act.put, List.setIfInBounds_toArray, List.set_cons_zero, List.set_cons_succ]
                have HInv := Lib.hid inv
                clear inv HSd
                refine wpAnyG_one (i := 17) (by kernel_rfl) rfl rfl fun K hK => ?_
                refine store_op HZ2.out (o := 0) (vs := #[.int .i64 f, .int .i64 1]) (cs' := #[.int .i64 f, .int .i64 1]) rfl rfl rfl (Nat.le_refl 2) frac_size (by simp [Value.oneCell']) fun v9 hv9 hp9 => ?_
                have HBz := Lib.hid (show Below w4.heap.size w4 v9 from HB2.out.trans (hp9.below _ HBd.out.size))
                refine hK.out _ _ (fun _ => HSS.out _ HBz.out) ?_
                clear hK K
                refine wpAnyG_one (i := 18) (by kernel_rfl) rfl rfl fun K hK => ?_
                go_simp
                refine hK.out _ _ (fun h => absurd h (by decide)) ?_
                clear hK K
                refine wpAnyG_done (by kernel_rfl) ?_
                clear HInv
                go_wp2
                go_meet
                case rel => exact ⟨_, rfl, rfl, hv9, HBd.out.size, HBz.out⟩
            case rest =>
              as_aux_lemma =>
              obtain ⟨z9, rfl, rfl, hz, hge, hbc⟩ := hcut
              obtain ⟨w5, hwk⟩ : ∃ v : World, v = wc := ⟨_, rfl⟩
              subst hwk
              have HQ5 := Lib.hid (pt HQ4.out hbc)
              have HN5 := Lib.hid hbc
              have T9_5 := Lib.hid hz
              obtain ⟨u0, u1, u2, u3⟩ := HXb.out w5 HQ5.out
              obtain ⟨ul0, ul1⟩ := HLb.out w5 HQ5.out
              have v0 := T9_5.out.cellAt 0 rfl
              have v1_ := T9_5.out.cellAt 1 rfl
              have vl := T9_5.out.lt
              go_wp2
              refine region_below 8 follows_mixed (by kernel_rfl) ?_
              intro C hC
              simp only [List.take_succ_cons, List.take_zero, List.drop_succ_cons, List.drop_zero]
              repeat (first
                | ((with_reducible refine quiet_plain rfl (fun K hK => ?_)); (focus (apply quiet_val; (focus (intro w' hw; obtain ⟨hcq, hfq⟩ := bcell ((hC.out _).1 hw); go_simp; (first | done | rfl | (with_reducible exact call_below hC hw (Whole_any _ _))))); (simp only [Act.put, List.setIfInBounds_toArray, List.set_cons_succ, List.set_cons_zero]); (with_reducible refine hK _ ?_); clear hK K)))
                | ((with_reducible refine quiet_skip ?_ ?_); (focus (first | (simp [Region.wanted, yielded]; done) | (simp [Region.wanted, yielded, undef]; done))); simp only [Act.put, List.setIfInBounds_toArray, List.set_cons_succ, List.set_cons_zero])
                | ((with_reducible refine quiet_go ?_ (fun K hK => ?_)); (focus (first | (simp [Region.wanted, yielded]; done) | (simp [Region.wanted, yielded, undef]; done))); (focus (apply quiet_val; (focus (intro w' hw; obtain ⟨hcq, hfq⟩ := bcell ((hC.out _).1 hw); go_simp; (first | done | rfl | (with_reducible exact call_below hC hw (Whole_any _ _))))); (simp only [Act.put, List.setIfInBounds_toArray, List.set_cons_succ, List.set_cons_zero]); (with_reducible refine hK _ ?_); clear hK K))))
              refine wpQuiet_nil ?_
              intro w1 hb1
              replace hb1 := (hC.out _).1 hb1
              clear hC C
              obtain ⟨hc1, hf1⟩ := bcell hb1
              have HBm := Lib.hid (show Below w4.heap.size w4 w1 from pt hbc hb1)
              clear hc1 hf1 hb1
              go_wp2
              go_meet
              case rel => exact HBm.out
        case rest =>
          as_aux_lemma =>
          obtain ⟨w6, hwk⟩ : ∃ v : World, v = wc := ⟨_, rfl⟩
          subst hwk
          have HQ6 := Lib.hid (pt HQ4.out hcut)
          clear t0 t1 tl hcut T7_4 HFd HBB HDr HGf
          go_upto_region 12 with fail
          go_cut [11, 12] (fun pv ev wx => ∃ z : Nat, pv = .pointer (some ⟨z, 0, none⟩) ∧ ev = .int .i64 a3 ∧ Blk wx z 32 #[.int .i64 a1, .int .i64 a2] ∧ w6.heap.size ≤ z ∧ Below w6.heap.size w6 wx)
          case first =>
            as_aux_lemma =>
            have HSS := Lib.hid (show ∀ W, Below w6.heap.size w6 W → W.cell? ⟨w.heap.size, 0, none⟩ = some (.slice A n c) ∧ W.cell? ⟨b1, 1, none⟩ = some (.int .i64 g) ∧ W.cell? ⟨b1, 2, none⟩ = some (.int .i64 t) from fun W hW => ⟨(HXb.out W (pt HQ6.out hW)).1, (HXb.out W (pt HQ6.out hW)).2.2.1, (HXb.out W (pt HQ6.out hW)).2.2.2⟩)
            refine wp_region_G 12 follows_mixed (fun W => W.cell? ⟨w.heap.size, 0, none⟩ = some (.slice A n c) ∧ W.cell? ⟨b1, 1, none⟩ = some (.int .i64 g) ∧ W.cell? ⟨b1, 2, none⟩ = some (.int .i64 t)) (HSS.out _ (pd pr)) ?_
            intro hSd inv
            have HSd := Lib.hid hSd
            clear hSd
            refine wpAnyG_take (i := 0) (v := ?_) rfl (by kernel_rfl) (by kernel_rfl) (by kernel_rfl) (by kernel_rfl) (by kernel_rfl) (by decide) (by decide) inv (fun _ _ _ h => h) (Or.inl ⟨by rfl, ?_⟩) HSd.out ?_; rotate_left; (focus (intro W y1; obtain ⟨y1, y2, y3⟩ := y1; go_simp; (first | done | with_reducible rfl))); clear inv; intro inv; simp only [List.getElem_toArray, List.getElem_cons_zero, Act.put, List.setIfInBounds_toArray, List.set_cons_zero, List.set_cons_succ]
            refine wpAnyG_take (i := 2) (v := ?_) rfl (by kernel_rfl) (by kernel_rfl) (by kernel_rfl) (by kernel_rfl) (by kernel_rfl) (by decide) (by decide) inv (fun _ _ _ h => h) (Or.inl ⟨by rfl, ?_⟩) HSd.out ?_; rotate_left; (focus (intro W y1; obtain ⟨y1, y2, y3⟩ := y1; go_simp; (first | done | with_reducible rfl))); clear inv; intro inv; simp only [List.getElem_toArray, List.getElem_cons_zero, List.getElem_cons_succ, Act.put, List.setIfInBounds_toArray, List.set_cons_zero, List.set_cons_succ]
            refine wpAnyG_take (i := 3) (v := ?_) rfl (by kernel_rfl) (by kernel_rfl) (by kernel_rfl) (by kernel_rfl) (by kernel_rfl) (by decide) (by decide) inv (fun _ _ _ h => h) (Or.inl ⟨by rfl, ?_⟩) HSd.out ?_; rotate_left; (focus (intro W y1; obtain ⟨y1, y2, y3⟩ := y1; go_simp; (first | done | with_reducible rfl))); clear inv; intro inv; simp only [List.getElem_toArray, List.getElem_cons_zero, List.getElem_cons_succ, Act.put, List.setIfInBounds_toArray, List.set_cons_zero, List.set_cons_succ]
            refine wpAnyG_take (i := 4) (v := ?_) rfl (by kernel_rfl) (by kernel_rfl) (by kernel_rfl) (by kernel_rfl) (by kernel_rfl) (by decide) (by decide) inv (fun _ _ _ h => h) (Or.inl ⟨by rfl, ?_⟩) HSd.out ?_; rotate_left; (focus (intro W y1; obtain ⟨y1, y2, y3⟩ := y1; go_simp; (first | done | with_reducible rfl))); clear inv; intro inv; simp only [List.getElem_toArray, List.getElem_cons_zero, List.getElem_cons_succ, Act.put, List.setIfInBounds_toArray, List.set_cons_zero, List.set_cons_succ]
            refine wpAnyG_take (i := 5) (v := ?_) rfl (by kernel_rfl) (by kernel_rfl) (by kernel_rfl) (by kernel_rfl) (by kernel_rfl) (by decide) (by decide) inv (fun _ _ _ h => h) (Or.inl ⟨by rfl, ?_⟩) HSd.out ?_; rotate_left; (focus (intro W y1; obtain ⟨y1, y2, y3⟩ := y1; go_simp; (first | done | with_reducible rfl))); clear inv; intro inv; simp only [List.getElem_toArray, List.getElem_cons_zero, List.getElem_cons_succ, Act.put, List.setIfInBounds_toArray, List.set_cons_zero, List.set_cons_succ]
            have HBd := Lib.hid (show Below w6.heap.size w6 w6.drew from pd pr)
            have HInv := Lib.hid inv
            clear inv HSd
            generalize w6.drew = vd at *
            refine wpAnyG_twoE (i := 1) (k := 10) (by kernel_rfl) rfl rfl rfl rfl (fun K hK => ?_) (fun K hK => ?_)
            · skip
              as_aux_lemma =>
              go_simp
              refine (HCp.out _ (HWw.out _ (pt HQ6.out HBd.out))).mono ?_
              rintro e v1 ⟨A2, c2, rfl, hc, hb⟩
              have HB1 := Lib.hid (pt HBd.out hb)
              have HCc := Lib.hid hc
              clear hc hb
              refine hK.out _ _ (fun _ => HSS.out _ HB1.out) ?_
              clear hK K
              replace HInv := Lib.hid (inv_memE (i := 1) HInv.out (by kernel_rfl) (by decide))
              refine wpAnyG_twoE (i := 6) (k := 10) (by kernel_rfl) rfl rfl rfl rfl (fun K hK => ?_) (fun K hK => ?_)
              · skip
                as_aux_lemma =>
                go_simp
                refine (HF1.out _ A2 c2 HCc.out).mono ?_
                rintro e v2 ⟨rfl, hb2⟩
                have HB2 := Lib.hid (pt HB1.out hb2)
                clear hb2
                refine hK.out _ _ (fun _ => HSS.out _ HB2.out) ?_
                clear hK K
                replace HInv := Lib.hid (inv_memE (i := 6) HInv.out (by kernel_rfl) (by decide))
                have inv := HInv.out
                clear HInv
                have HSd := Lib.hid (HSS.out _ HB2.out)
                refine wpAnyG_take (i := 7) (v := ?_) rfl (by kernel_rfl) (by kernel_rfl) (by kernel_rfl) (by kernel_rfl) (by kernel_rfl) (by decide) (by decide) inv (fun _ _ _ h => h) (Or.inl ⟨by rfl, ?_⟩) HSd.out ?_; rotate_left; (focus (intro W y1; obtain ⟨y1, y2, y3⟩ := y1; go_simp; (first | done | with_reducible rfl))); clear inv; intro inv; simp only [List.getElem_toArray, List.getElem_cons_zero, List.getElem_cons_succ, Act.put, List.setIfInBounds_toArray, List.set_cons_zero, List.set_cons_succ]
                refine wpAnyG_take (i := 8) (v := ?_) rfl (by kernel_rfl) (by kernel_rfl) (by kernel_rfl) (by kernel_rfl) (by kernel_rfl) (by decide) (by decide) inv (fun _ _ _ h => h) (Or.inl ⟨by rfl, ?_⟩) HSd.out ?_; rotate_left; (focus (intro W y1; obtain ⟨y1, y2, y3⟩ := y1; go_simp; (first | done | with_reducible rfl))); clear inv; intro inv; simp only [List.getElem_toArray, List.getElem_cons_zero, List.getElem_cons_succ, Act.put, List.setIfInBounds_toArray, List.set_cons_zero, List.set_cons_succ]
                refine wpAnyG_take (i := 9) (v := ?_) rfl (by kernel_rfl) (by kernel_rfl) (by kernel_rfl) (by kernel_rfl) (by kernel_rfl) (by decide) (by decide) inv (fun _ _ _ h => h) (Or.inl ⟨by rfl, ?_⟩) HSd.out ?_; rotate_left; (focus (intro W y1; obtain ⟨y1, y2, y3⟩ := y1; go_simp; (first | done | with_reducible rfl))); clear inv; intro inv; simp only [List.getElem_toArray, List.getElem_cons_zero, List.getElem_cons_succ, Act.put, List.setIfInBounds_toArray, List.set_cons_zero, List.set_cons_succ]
                have HInv := Lib.hid inv
                clear inv HSd
                refine wpAnyG_one (i := 10) (by kernel_rfl) rfl rfl fun K hK => ?_
                go_simp
                have HZz := Lib.hid (show Blk (v2.alloc (.cells #[.int .i64 0, .int .i64 0] 32)) v2.heap.size 32 #[.int .i64 0, .int .i64 0] from Blk.newAt rfl)
                have HBz := Lib.hid (show Below w6.heap.size w6 (v2.alloc (.cells #[.int .i64 0, .int .i64 0] 32)) from pa HB2.out)
                refine hK.out _ _ (fun _ => HSS.out _ HBz.out) ?_
                clear hK K
                replace HInv := Lib.hid (inv_memE (i := 10) HInv.out (by kernel_rfl) (by decide))
                refine wpAnyG_one (i := 11) (by kernel_rfl) rfl rfl fun K hK => ?_
                refine store_op HZz.out (o := 0) (vs := #[.int .i64 a1, .int .i64 a2]) (cs' := #[.int .i64 a1, .int .i64 a2]) rfl rfl rfl (Nat.le_refl 2) frac_size (by simp [Value.oneCell']) fun v9 hv9 hp9 => ?_
                have HBz := Lib.hid (show Below w6.heap.size w6 v9 from HBz.out.trans (hp9.below _ HB2.out.size))
                refine hK.out _ _ (fun _ => HSS.out _ HBz.out) ?_
                clear hK K
                refine wpAnyG_one (i := 12) (by kernel_rfl) rfl rfl fun K hK => ?_
                go_simp
                refine hK.out _ _ (fun h => absurd h (by decide)) ?_
                clear hK K
                refine wpAnyG_done (by kernel_rfl) ?_
                clear HInv
                go_wp2
                go_meet
                case rel => exact ⟨_, rfl, rfl, hv9, HB2.out.size, HBz.out⟩
              · skip
                as_aux_lemma =>
                go_simp
                have HZz := Lib.hid (show Blk (v1.alloc (.cells #[.int .i64 0, .int .i64 0] 32)) v1.heap.size 32 #[.int .i64 0, .int .i64 0] from Blk.newAt rfl)
                have HBz := Lib.hid (show Below w6.heap.size w6 (v1.alloc (.cells #[.int .i64 0, .int .i64 0] 32)) from pa HB1.out)
                refine hK.out _ _ (fun _ => HSS.out _ HBz.out) ?_
                clear hK K
                replace HInv := Lib.hid (inv_memE (i := 10) HInv.out (by kernel_rfl) (by decide))
                refine wpAnyG_one (i := 6) (by kernel_rfl) rfl rfl fun K hK => ?_
                go_simp
                refine (HF1.out _ A2 c2 (HCc.out.past (Nat.le_refl _) (pa pr))).mono ?_
                rintro e v2 ⟨rfl, hb2⟩
                have HB2 := Lib.hid (pt HBz.out hb2)
                have HZ2 := Lib.hid (HZz.out.past hb2)
                clear hb2
                refine hK.out _ _ (fun _ => HSS.out _ HB2.out) ?_
                clear hK K
                replace HInv := Lib.hid (inv_memE (i := 6) HInv.out (by kernel_rfl) (by decide))
                have inv := HInv.out
                clear HInv
                have HSd := Lib.hid (HSS.out _ HB2.out)
                refine wpAnyG_take (i := 7) (v := ?_) rfl (by kernel_rfl) (by kernel_rfl) (by kernel_rfl) (by kernel_rfl) (by kernel_rfl) (by decide) (by decide) inv (fun _ _ _ h => h) (Or.inl ⟨by rfl, ?_⟩) HSd.out ?_; rotate_left; (focus (intro W y1; obtain ⟨y1, y2, y3⟩ := y1; go_simp; (first | done | with_reducible rfl))); clear inv; intro inv; simp only [List.getElem_toArray, List.getElem_cons_zero, List.getElem_cons_succ, Act.put, List.setIfInBounds_toArray, List.set_cons_zero, List.set_cons_succ]
                refine wpAnyG_take (i := 8) (v := ?_) rfl (by kernel_rfl) (by kernel_rfl) (by kernel_rfl) (by kernel_rfl) (by kernel_rfl) (by decide) (by decide) inv (fun _ _ _ h => h) (Or.inl ⟨by rfl, ?_⟩) HSd.out ?_; rotate_left; (focus (intro W y1; obtain ⟨y1, y2, y3⟩ := y1; go_simp; (first | done | with_reducible rfl))); clear inv; intro inv; simp only [List.getElem_toArray, List.getElem_cons_zero, List.getElem_cons_succ, Act.put, List.setIfInBounds_toArray, List.set_cons_zero, List.set_cons_succ]
                refine wpAnyG_take (i := 9) (v := ?_) rfl (by kernel_rfl) (by kernel_rfl) (by kernel_rfl) (by kernel_rfl) (by kernel_rfl) (by decide) (by decide) inv (fun _ _ _ h => h) (Or.inl ⟨by rfl, ?_⟩) HSd.out ?_; rotate_left; (focus (intro W y1; obtain ⟨y1, y2, y3⟩ := y1; go_simp; (first | done | with_reducible rfl))); clear inv; intro inv; simp only [List.getElem_toArray, List.getElem_cons_zero, List.getElem_cons_succ, Act.put, List.setIfInBounds_toArray, List.set_cons_zero, List.set_cons_succ]
                have HInv := Lib.hid inv
                clear inv HSd
                refine wpAnyG_one (i := 11) (by kernel_rfl) rfl rfl fun K hK => ?_
                refine store_op HZ2.out (o := 0) (vs := #[.int .i64 a1, .int .i64 a2]) (cs' := #[.int .i64 a1, .int .i64 a2]) rfl rfl rfl (Nat.le_refl 2) frac_size (by simp [Value.oneCell']) fun v9 hv9 hp9 => ?_
                have HBz := Lib.hid (show Below w6.heap.size w6 v9 from HB2.out.trans (hp9.below _ HB1.out.size))
                refine hK.out _ _ (fun _ => HSS.out _ HBz.out) ?_
                clear hK K
                refine wpAnyG_one (i := 12) (by kernel_rfl) rfl rfl fun K hK => ?_
                go_simp
                refine hK.out _ _ (fun h => absurd h (by decide)) ?_
                clear hK K
                refine wpAnyG_done (by kernel_rfl) ?_
                clear HInv
                go_wp2
                go_meet
                case rel => exact ⟨_, rfl, rfl, hv9, HB1.out.size, HBz.out⟩
            · skip
              as_aux_lemma =>
              go_simp
              have HZz := Lib.hid (show Blk (vd.alloc (.cells #[.int .i64 0, .int .i64 0] 32)) vd.heap.size 32 #[.int .i64 0, .int .i64 0] from Blk.newAt rfl)
              have HBz := Lib.hid (show Below w6.heap.size w6 (vd.alloc (.cells #[.int .i64 0, .int .i64 0] 32)) from pa HBd.out)
              refine hK.out _ _ (fun _ => HSS.out _ HBz.out) ?_
              clear hK K
              replace HInv := Lib.hid (inv_memE (i := 10) HInv.out (by kernel_rfl) (by decide))
              refine wpAnyG_one (i := 1) (by kernel_rfl) rfl rfl fun K hK => ?_
              go_simp
              refine (HCp.out _ (HWw.out _ (pt HQ6.out HBz.out))).mono ?_
              rintro e v1 ⟨A2, c2, rfl, hc, hb⟩
              have HB1 := Lib.hid (pt HBz.out hb)
              have HCc := Lib.hid hc
              have HZ1 := Lib.hid (HZz.out.past hb)
              clear hc hb
              refine hK.out _ _ (fun _ => HSS.out _ HB1.out) ?_
              clear hK K
              replace HInv := Lib.hid (inv_memE (i := 1) HInv.out (by kernel_rfl) (by decide))
              refine wpAnyG_one (i := 6) (by kernel_rfl) rfl rfl fun K hK => ?_
              go_simp
              refine (HF1.out _ A2 c2 HCc.out).mono ?_
              rintro e v2 ⟨rfl, hb2⟩
              have HB2 := Lib.hid (pt HB1.out hb2)
              have HZ2 := Lib.hid (HZ1.out.past hb2)
              clear hb2
              refine hK.out _ _ (fun _ => HSS.out _ HB2.out) ?_
              clear hK K
              replace HInv := Lib.hid (inv_memE (i := 6) HInv.out (by kernel_rfl) (by decide))
              have inv := HInv.out
              clear HInv
              have HSd := Lib.hid (HSS.out _ HB2.out)
              refine wpAnyG_take (i := 7) (v := ?_) rfl (by kernel_rfl) (by kernel_rfl) (by kernel_rfl) (by kernel_rfl) (by kernel_rfl) (by decide) (by decide) inv (fun _ _ _ h => h) (Or.inl ⟨by rfl, ?_⟩) HSd.out ?_; rotate_left; (focus (intro W y1; obtain ⟨y1, y2, y3⟩ := y1; go_simp; (first | done | with_reducible rfl))); clear inv; intro inv; simp only [List.getElem_toArray, List.getElem_cons_zero, List.getElem_cons_succ, Act.put, List.setIfInBounds_toArray, List.set_cons_zero, List.set_cons_succ]
              refine wpAnyG_take (i := 8) (v := ?_) rfl (by kernel_rfl) (by kernel_rfl) (by kernel_rfl) (by kernel_rfl) (by kernel_rfl) (by decide) (by decide) inv (fun _ _ _ h => h) (Or.inl ⟨by rfl, ?_⟩) HSd.out ?_; rotate_left; (focus (intro W y1; obtain ⟨y1, y2, y3⟩ := y1; go_simp; (first | done | with_reducible rfl))); clear inv; intro inv; simp only [List.getElem_toArray, List.getElem_cons_zero, List.getElem_cons_succ, Act.put, List.setIfInBounds_toArray, List.set_cons_zero, List.set_cons_succ]
              refine wpAnyG_take (i := 9) (v := ?_) rfl (by kernel_rfl) (by kernel_rfl) (by kernel_rfl) (by kernel_rfl) (by kernel_rfl) (by decide) (by decide) inv (fun _ _ _ h => h) (Or.inl ⟨by rfl, ?_⟩) HSd.out ?_; rotate_left; (focus (intro W y1; obtain ⟨y1, y2, y3⟩ := y1; go_simp; (first | done | with_reducible rfl))); clear inv; intro inv; simp only [List.getElem_toArray, List.getElem_cons_zero, List.getElem_cons_succ, Act.put, List.setIfInBounds_toArray, List.set_cons_zero, List.set_cons_succ]
              have HInv := Lib.hid inv
              clear inv HSd
              refine wpAnyG_one (i := 11) (by kernel_rfl) rfl rfl fun K hK => ?_
              refine store_op HZ2.out (o := 0) (vs := #[.int .i64 a1, .int .i64 a2]) (cs' := #[.int .i64 a1, .int .i64 a2]) rfl rfl rfl (Nat.le_refl 2) frac_size (by simp [Value.oneCell']) fun v9 hv9 hp9 => ?_
              have HBz := Lib.hid (show Below w6.heap.size w6 v9 from HB2.out.trans (hp9.below _ HBd.out.size))
              refine hK.out _ _ (fun _ => HSS.out _ HBz.out) ?_
              clear hK K
              refine wpAnyG_one (i := 12) (by kernel_rfl) rfl rfl fun K hK => ?_
              go_simp
              refine hK.out _ _ (fun h => absurd h (by decide)) ?_
              clear hK K
              refine wpAnyG_done (by kernel_rfl) ?_
              clear HInv
              go_wp2
              go_meet
              case rel => exact ⟨_, rfl, rfl, hv9, HBd.out.size, HBz.out⟩
          case rest =>
            as_aux_lemma =>
            obtain ⟨z11, rfl, rfl, hz, hge, hbc⟩ := hcut
            obtain ⟨w7, hwk⟩ : ∃ v : World, v = wc := ⟨_, rfl⟩
            subst hwk
            have HQ7 := Lib.hid (pt HQ6.out hbc)
            have HN7 := Lib.hid hbc
            have T11_7 := Lib.hid hz
            go_upto_region 13 with fail
            go_cut [13, 14] (fun pv ev wx => ∃ z : Nat, pv = .pointer (some ⟨z, 0, none⟩) ∧ ev = .int .i64 a3 ∧ Blk wx z 32 #[.int .i64 (-a1), .int .i64 a2] ∧ w7.heap.size ≤ z ∧ Below w7.heap.size w7 wx)
            case first =>
              as_aux_lemma =>
              have HSS := Lib.hid (show ∀ W, Below w7.heap.size w7 W → W.cell? ⟨w.heap.size, 0, none⟩ = some (.slice A n c) ∧ W.cell? ⟨b1, 1, none⟩ = some (.int .i64 g) ∧ W.cell? ⟨b1, 2, none⟩ = some (.int .i64 t) from fun W hW => ⟨(HXb.out W (pt HQ7.out hW)).1, (HXb.out W (pt HQ7.out hW)).2.2.1, (HXb.out W (pt HQ7.out hW)).2.2.2⟩)
              refine wp_region_G 13 follows_mixed (fun W => W.cell? ⟨w.heap.size, 0, none⟩ = some (.slice A n c) ∧ W.cell? ⟨b1, 1, none⟩ = some (.int .i64 g) ∧ W.cell? ⟨b1, 2, none⟩ = some (.int .i64 t)) (HSS.out _ (pd pr)) ?_
              intro hSd inv
              have HSd := Lib.hid hSd
              clear hSd
              refine wpAnyG_take (i := 0) (v := ?_) rfl (by kernel_rfl) (by kernel_rfl) (by kernel_rfl) (by kernel_rfl) (by kernel_rfl) (by decide) (by decide) inv (fun _ _ _ h => h) (Or.inl ⟨by rfl, ?_⟩) HSd.out ?_; rotate_left; (focus (intro W y1; obtain ⟨y1, y2, y3⟩ := y1; go_simp; (first | done | with_reducible rfl))); clear inv; intro inv; simp only [List.getElem_toArray, List.getElem_cons_zero, Act.put, List.setIfInBounds_toArray, List.set_cons_zero, List.set_cons_succ]
              refine wpAnyG_take (i := 2) (v := ?_) rfl (by kernel_rfl) (by kernel_rfl) (by kernel_rfl) (by kernel_rfl) (by kernel_rfl) (by decide) (by decide) inv (fun _ _ _ h => h) (Or.inl ⟨by rfl, ?_⟩) HSd.out ?_; rotate_left; (focus (intro W y1; obtain ⟨y1, y2, y3⟩ := y1; go_simp; (first | done | with_reducible rfl))); clear inv; intro inv; simp only [List.getElem_toArray, List.getElem_cons_zero, List.getElem_cons_succ, Act.put, List.setIfInBounds_toArray, List.set_cons_zero, List.set_cons_succ]
              refine wpAnyG_take (i := 3) (v := ?_) rfl (by kernel_rfl) (by kernel_rfl) (by kernel_rfl) (by kernel_rfl) (by kernel_rfl) (by decide) (by decide) inv (fun _ _ _ h => h) (Or.inl ⟨by rfl, ?_⟩) HSd.out ?_; rotate_left; (focus (intro W y1; obtain ⟨y1, y2, y3⟩ := y1; go_simp; (first | done | with_reducible rfl))); clear inv; intro inv; simp only [List.getElem_toArray, List.getElem_cons_zero, List.getElem_cons_succ, Act.put, List.setIfInBounds_toArray, List.set_cons_zero, List.set_cons_succ]
              refine wpAnyG_take (i := 4) (v := ?_) rfl (by kernel_rfl) (by kernel_rfl) (by kernel_rfl) (by kernel_rfl) (by kernel_rfl) (by decide) (by decide) inv (fun _ _ _ h => h) (Or.inl ⟨by rfl, ?_⟩) HSd.out ?_; rotate_left; (focus (intro W y1; obtain ⟨y1, y2, y3⟩ := y1; go_simp; (first | done | with_reducible rfl))); clear inv; intro inv; simp only [List.getElem_toArray, List.getElem_cons_zero, List.getElem_cons_succ, Act.put, List.setIfInBounds_toArray, List.set_cons_zero, List.set_cons_succ]
              refine wpAnyG_take (i := 5) (v := ?_) rfl (by kernel_rfl) (by kernel_rfl) (by kernel_rfl) (by kernel_rfl) (by kernel_rfl) (by decide) (by decide) inv (fun _ _ _ h => h) (Or.inl ⟨by rfl, ?_⟩) HSd.out ?_; rotate_left; (focus (intro W y1; obtain ⟨y1, y2, y3⟩ := y1; go_simp; (first | done | with_reducible rfl))); clear inv; intro inv; simp only [List.getElem_toArray, List.getElem_cons_zero, List.getElem_cons_succ, Act.put, List.setIfInBounds_toArray, List.set_cons_zero, List.set_cons_succ]
              refine wpAnyG_take (i := 6) (v := ?_) rfl (by kernel_rfl) (by kernel_rfl) (by kernel_rfl) (by kernel_rfl) (by kernel_rfl) (by decide) (by decide) inv (fun _ _ _ h => h) (Or.inl ⟨by rfl, ?_⟩) HSd.out ?_; rotate_left; (focus (intro W y1; obtain ⟨y1, y2, y3⟩ := y1; go_simp; (first | done | with_reducible rfl))); clear inv; intro inv; simp only [List.getElem_toArray, List.getElem_cons_zero, List.getElem_cons_succ, Act.put, List.setIfInBounds_toArray, List.set_cons_zero, List.set_cons_succ]
              have HBd := Lib.hid (show Below w7.heap.size w7 w7.drew from pd pr)
              have HInv := Lib.hid inv
              clear inv HSd
              generalize w7.drew = vd at *
              refine wpAnyG_twoE (i := 1) (k := 11) (by kernel_rfl) rfl rfl rfl rfl (fun K hK => ?_) (fun K hK => ?_)
              · skip
                as_aux_lemma =>
                go_simp
                refine (HCp.out _ (HWw.out _ (pt HQ7.out HBd.out))).mono ?_
                rintro e v1 ⟨A2, c2, rfl, hc, hb⟩
                have HB1 := Lib.hid (pt HBd.out hb)
                have HCc := Lib.hid hc
                clear hc hb
                refine hK.out _ _ (fun _ => HSS.out _ HB1.out) ?_
                clear hK K
                replace HInv := Lib.hid (inv_memE (i := 1) HInv.out (by kernel_rfl) (by decide))
                refine wpAnyG_twoE (i := 7) (k := 11) (by kernel_rfl) rfl rfl rfl rfl (fun K hK => ?_) (fun K hK => ?_)
                · skip
                  as_aux_lemma =>
                  go_simp
                  refine (HF2.out _ A2 c2 HCc.out).mono ?_
                  rintro e v2 ⟨rfl, hb2⟩
                  have HB2 := Lib.hid (pt HB1.out hb2)
                  clear hb2
                  refine hK.out _ _ (fun _ => HSS.out _ HB2.out) ?_
                  clear hK K
                  replace HInv := Lib.hid (inv_memE (i := 7) HInv.out (by kernel_rfl) (by decide))
                  have inv := HInv.out
                  clear HInv
                  have HSd := Lib.hid (HSS.out _ HB2.out)
                  refine wpAnyG_take (i := 8) (v := ?_) rfl (by kernel_rfl) (by kernel_rfl) (by kernel_rfl) (by kernel_rfl) (by kernel_rfl) (by decide) (by decide) inv (fun _ _ _ h => h) (Or.inl ⟨by rfl, ?_⟩) HSd.out ?_; rotate_left; (focus (intro W y1; obtain ⟨y1, y2, y3⟩ := y1; go_simp; (first | done | with_reducible rfl))); clear inv; intro inv; simp only [List.getElem_toArray, List.getElem_cons_zero, List.getElem_cons_succ, Act.put, List.setIfInBounds_toArray, List.set_cons_zero, List.set_cons_succ]
                  refine wpAnyG_take (i := 9) (v := ?_) rfl (by kernel_rfl) (by kernel_rfl) (by kernel_rfl) (by kernel_rfl) (by kernel_rfl) (by decide) (by decide) inv (fun _ _ _ h => h) (Or.inl ⟨by rfl, ?_⟩) HSd.out ?_; rotate_left; (focus (intro W y1; obtain ⟨y1, y2, y3⟩ := y1; go_simp; (first | done | with_reducible rfl))); clear inv; intro inv; simp only [List.getElem_toArray, List.getElem_cons_zero, List.getElem_cons_succ, Act.put, List.setIfInBounds_toArray, List.set_cons_zero, List.set_cons_succ]
                  refine wpAnyG_take (i := 10) (v := ?_) rfl (by kernel_rfl) (by kernel_rfl) (by kernel_rfl) (by kernel_rfl) (by kernel_rfl) (by decide) (by decide) inv (fun _ _ _ h => h) (Or.inl ⟨by rfl, ?_⟩) HSd.out ?_; rotate_left; (focus (intro W y1; obtain ⟨y1, y2, y3⟩ := y1; go_simp; (first | done | with_reducible rfl))); clear inv; intro inv; simp only [List.getElem_toArray, List.getElem_cons_zero, List.getElem_cons_succ, Act.put, List.setIfInBounds_toArray, List.set_cons_zero, List.set_cons_succ]
                  have HInv := Lib.hid inv
                  clear inv HSd
                  refine wpAnyG_one (i := 11) (by kernel_rfl) rfl rfl fun K hK => ?_
                  go_simp
                  have HZz := Lib.hid (show Blk (v2.alloc (.cells #[.int .i64 0, .int .i64 0] 32)) v2.heap.size 32 #[.int .i64 0, .int .i64 0] from Blk.newAt rfl)
                  have HBz := Lib.hid (show Below w7.heap.size w7 (v2.alloc (.cells #[.int .i64 0, .int .i64 0] 32)) from pa HB2.out)
                  refine hK.out _ _ (fun _ => HSS.out _ HBz.out) ?_
                  clear hK K
                  replace HInv := Lib.hid (inv_memE (i := 11) HInv.out (by kernel_rfl) (by decide))
                  refine wpAnyG_one (i := 12) (by kernel_rfl) rfl rfl fun K hK => ?_
                  refine store_op HZz.out (o := 0) (vs := #[.int .i64 (-a1), .int .i64 a2]) (cs' := #[.int .i64 (-a1), .int .i64 a2]) rfl rfl rfl (Nat.le_refl 2) frac_size (by simp [Value.oneCell']) fun v9 hv9 hp9 => ?_
                  have HBz := Lib.hid (show Below w7.heap.size w7 v9 from HBz.out.trans (hp9.below _ HB2.out.size))
                  refine hK.out _ _ (fun _ => HSS.out _ HBz.out) ?_
                  clear hK K
                  refine wpAnyG_one (i := 13) (by kernel_rfl) rfl rfl fun K hK => ?_
                  go_simp
                  refine hK.out _ _ (fun h => absurd h (by decide)) ?_
                  clear hK K
                  refine wpAnyG_done (by kernel_rfl) ?_
                  clear HInv
                  go_wp2
                  go_meet
                  case rel => exact ⟨_, rfl, rfl, hv9, HB2.out.size, HBz.out⟩
                · skip
                  as_aux_lemma =>
                  go_simp
                  have HZz := Lib.hid (show Blk (v1.alloc (.cells #[.int .i64 0, .int .i64 0] 32)) v1.heap.size 32 #[.int .i64 0, .int .i64 0] from Blk.newAt rfl)
                  have HBz := Lib.hid (show Below w7.heap.size w7 (v1.alloc (.cells #[.int .i64 0, .int .i64 0] 32)) from pa HB1.out)
                  refine hK.out _ _ (fun _ => HSS.out _ HBz.out) ?_
                  clear hK K
                  replace HInv := Lib.hid (inv_memE (i := 11) HInv.out (by kernel_rfl) (by decide))
                  refine wpAnyG_one (i := 7) (by kernel_rfl) rfl rfl fun K hK => ?_
                  go_simp
                  refine (HF2.out _ A2 c2 (HCc.out.past (Nat.le_refl _) (pa pr))).mono ?_
                  rintro e v2 ⟨rfl, hb2⟩
                  have HB2 := Lib.hid (pt HBz.out hb2)
                  have HZ2 := Lib.hid (HZz.out.past hb2)
                  clear hb2
                  refine hK.out _ _ (fun _ => HSS.out _ HB2.out) ?_
                  clear hK K
                  replace HInv := Lib.hid (inv_memE (i := 7) HInv.out (by kernel_rfl) (by decide))
                  have inv := HInv.out
                  clear HInv
                  have HSd := Lib.hid (HSS.out _ HB2.out)
                  refine wpAnyG_take (i := 8) (v := ?_) rfl (by kernel_rfl) (by kernel_rfl) (by kernel_rfl) (by kernel_rfl) (by kernel_rfl) (by decide) (by decide) inv (fun _ _ _ h => h) (Or.inl ⟨by rfl, ?_⟩) HSd.out ?_; rotate_left; (focus (intro W y1; obtain ⟨y1, y2, y3⟩ := y1; go_simp; (first | done | with_reducible rfl))); clear inv; intro inv; simp only [List.getElem_toArray, List.getElem_cons_zero, List.getElem_cons_succ, Act.put, List.setIfInBounds_toArray, List.set_cons_zero, List.set_cons_succ]
                  refine wpAnyG_take (i := 9) (v := ?_) rfl (by kernel_rfl) (by kernel_rfl) (by kernel_rfl) (by kernel_rfl) (by kernel_rfl) (by decide) (by decide) inv (fun _ _ _ h => h) (Or.inl ⟨by rfl, ?_⟩) HSd.out ?_; rotate_left; (focus (intro W y1; obtain ⟨y1, y2, y3⟩ := y1; go_simp; (first | done | with_reducible rfl))); clear inv; intro inv; simp only [List.getElem_toArray, List.getElem_cons_zero, List.getElem_cons_succ, Act.put, List.setIfInBounds_toArray, List.set_cons_zero, List.set_cons_succ]
                  refine wpAnyG_take (i := 10) (v := ?_) rfl (by kernel_rfl) (by kernel_rfl) (by kernel_rfl) (by kernel_rfl) (by kernel_rfl) (by decide) (by decide) inv (fun _ _ _ h => h) (Or.inl ⟨by rfl, ?_⟩) HSd.out ?_; rotate_left; (focus (intro W y1; obtain ⟨y1, y2, y3⟩ := y1; go_simp; (first | done | with_reducible rfl))); clear inv; intro inv; simp only [List.getElem_toArray, List.getElem_cons_zero, List.getElem_cons_succ, Act.put, List.setIfInBounds_toArray, List.set_cons_zero, List.set_cons_succ]
                  have HInv := Lib.hid inv
                  clear inv HSd
                  refine wpAnyG_one (i := 12) (by kernel_rfl) rfl rfl fun K hK => ?_
                  refine store_op HZ2.out (o := 0) (vs := #[.int .i64 (-a1), .int .i64 a2]) (cs' := #[.int .i64 (-a1), .int .i64 a2]) rfl rfl rfl (Nat.le_refl 2) frac_size (by simp [Value.oneCell']) fun v9 hv9 hp9 => ?_
                  have HBz := Lib.hid (show Below w7.heap.size w7 v9 from HB2.out.trans (hp9.below _ HB1.out.size))
                  refine hK.out _ _ (fun _ => HSS.out _ HBz.out) ?_
                  clear hK K
                  refine wpAnyG_one (i := 13) (by kernel_rfl) rfl rfl fun K hK => ?_
                  go_simp
                  refine hK.out _ _ (fun h => absurd h (by decide)) ?_
                  clear hK K
                  refine wpAnyG_done (by kernel_rfl) ?_
                  clear HInv
                  go_wp2
                  go_meet
                  case rel => exact ⟨_, rfl, rfl, hv9, HB1.out.size, HBz.out⟩
              · skip
                as_aux_lemma =>
                go_simp
                have HZz := Lib.hid (show Blk (vd.alloc (.cells #[.int .i64 0, .int .i64 0] 32)) vd.heap.size 32 #[.int .i64 0, .int .i64 0] from Blk.newAt rfl)
                have HBz := Lib.hid (show Below w7.heap.size w7 (vd.alloc (.cells #[.int .i64 0, .int .i64 0] 32)) from pa HBd.out)
                refine hK.out _ _ (fun _ => HSS.out _ HBz.out) ?_
                clear hK K
                replace HInv := Lib.hid (inv_memE (i := 11) HInv.out (by kernel_rfl) (by decide))
                refine wpAnyG_one (i := 1) (by kernel_rfl) rfl rfl fun K hK => ?_
                go_simp
                refine (HCp.out _ (HWw.out _ (pt HQ7.out HBz.out))).mono ?_
                rintro e v1 ⟨A2, c2, rfl, hc, hb⟩
                have HB1 := Lib.hid (pt HBz.out hb)
                have HCc := Lib.hid hc
                have HZ1 := Lib.hid (HZz.out.past hb)
                clear hc hb
                refine hK.out _ _ (fun _ => HSS.out _ HB1.out) ?_
                clear hK K
                replace HInv := Lib.hid (inv_memE (i := 1) HInv.out (by kernel_rfl) (by decide))
                refine wpAnyG_one (i := 7) (by kernel_rfl) rfl rfl fun K hK => ?_
                go_simp
                refine (HF2.out _ A2 c2 HCc.out).mono ?_
                rintro e v2 ⟨rfl, hb2⟩
                have HB2 := Lib.hid (pt HB1.out hb2)
                have HZ2 := Lib.hid (HZ1.out.past hb2)
                clear hb2
                refine hK.out _ _ (fun _ => HSS.out _ HB2.out) ?_
                clear hK K
                replace HInv := Lib.hid (inv_memE (i := 7) HInv.out (by kernel_rfl) (by decide))
                have inv := HInv.out
                clear HInv
                have HSd := Lib.hid (HSS.out _ HB2.out)
                refine wpAnyG_take (i := 8) (v := ?_) rfl (by kernel_rfl) (by kernel_rfl) (by kernel_rfl) (by kernel_rfl) (by kernel_rfl) (by decide) (by decide) inv (fun _ _ _ h => h) (Or.inl ⟨by rfl, ?_⟩) HSd.out ?_; rotate_left; (focus (intro W y1; obtain ⟨y1, y2, y3⟩ := y1; go_simp; (first | done | with_reducible rfl))); clear inv; intro inv; simp only [List.getElem_toArray, List.getElem_cons_zero, List.getElem_cons_succ, Act.put, List.setIfInBounds_toArray, List.set_cons_zero, List.set_cons_succ]
                refine wpAnyG_take (i := 9) (v := ?_) rfl (by kernel_rfl) (by kernel_rfl) (by kernel_rfl) (by kernel_rfl) (by kernel_rfl) (by decide) (by decide) inv (fun _ _ _ h => h) (Or.inl ⟨by rfl, ?_⟩) HSd.out ?_; rotate_left; (focus (intro W y1; obtain ⟨y1, y2, y3⟩ := y1; go_simp; (first | done | with_reducible rfl))); clear inv; intro inv; simp only [List.getElem_toArray, List.getElem_cons_zero, List.getElem_cons_succ, Act.put, List.setIfInBounds_toArray, List.set_cons_zero, List.set_cons_succ]
                refine wpAnyG_take (i := 10) (v := ?_) rfl (by kernel_rfl) (by kernel_rfl) (by kernel_rfl) (by kernel_rfl) (by kernel_rfl) (by decide) (by decide) inv (fun _ _ _ h => h) (Or.inl ⟨by rfl, ?_⟩) HSd.out ?_; rotate_left; (focus (intro W y1; obtain ⟨y1, y2, y3⟩ := y1; go_simp; (first | done | with_reducible rfl))); clear inv; intro inv; simp only [List.getElem_toArray, List.getElem_cons_zero, List.getElem_cons_succ, Act.put, List.setIfInBounds_toArray, List.set_cons_zero, List.set_cons_succ]
                have HInv := Lib.hid inv
                clear inv HSd
                refine wpAnyG_one (i := 12) (by kernel_rfl) rfl rfl fun K hK => ?_
                refine store_op HZ2.out (o := 0) (vs := #[.int .i64 (-a1), .int .i64 a2]) (cs' := #[.int .i64 (-a1), .int .i64 a2]) rfl rfl rfl (Nat.le_refl 2) frac_size (by simp [Value.oneCell']) fun v9 hv9 hp9 => ?_
                have HBz := Lib.hid (show Below w7.heap.size w7 v9 from HB2.out.trans (hp9.below _ HBd.out.size))
                refine hK.out _ _ (fun _ => HSS.out _ HBz.out) ?_
                clear hK K
                refine wpAnyG_one (i := 13) (by kernel_rfl) rfl rfl fun K hK => ?_
                go_simp
                refine hK.out _ _ (fun h => absurd h (by decide)) ?_
                clear hK K
                refine wpAnyG_done (by kernel_rfl) ?_
                clear HInv
                go_wp2
                go_meet
                case rel => exact ⟨_, rfl, rfl, hv9, HBd.out.size, HBz.out⟩
            case rest =>
              as_aux_lemma =>
              obtain ⟨z13, rfl, rfl, hz, hge, hbc⟩ := hcut
              obtain ⟨w8, hwk⟩ : ∃ v : World, v = wc := ⟨_, rfl⟩
              subst hwk
              have HQ8 := Lib.hid (pt HQ7.out hbc)
              have HN8 := Lib.hid hbc
              have T13_8 := Lib.hid hz
              go_upto_region 14 with fail
              go_cut [15, 16] (fun pv ev wx => ∃ z : Nat, pv = .pointer (some ⟨z, 0, none⟩) ∧ ev = .int .i64 c3_ ∧ Blk wx z 32 #[.int .i64 c1_, .int .i64 c2_] ∧ w8.heap.size ≤ z ∧ Below w8.heap.size w8 wx)
              case first =>
                as_aux_lemma =>
                have HSS := Lib.hid (show ∀ W, Below w8.heap.size w8 W → W.cell? ⟨w.heap.size, 0, none⟩ = some (.slice A n c) ∧ W.cell? ⟨b1, 1, none⟩ = some (.int .i64 g) ∧ W.cell? ⟨b1, 2, none⟩ = some (.int .i64 t) from fun W hW => ⟨(HXb.out W (pt HQ8.out hW)).1, (HXb.out W (pt HQ8.out hW)).2.2.1, (HXb.out W (pt HQ8.out hW)).2.2.2⟩)
                refine wp_region_G 14 follows_mixed (fun W => W.cell? ⟨w.heap.size, 0, none⟩ = some (.slice A n c) ∧ W.cell? ⟨b1, 1, none⟩ = some (.int .i64 g) ∧ W.cell? ⟨b1, 2, none⟩ = some (.int .i64 t)) (HSS.out _ (pd pr)) ?_
                intro hSd inv
                have HSd := Lib.hid hSd
                clear hSd
                refine wpAnyG_take (i := 0) (v := ?_) rfl (by kernel_rfl) (by kernel_rfl) (by kernel_rfl) (by kernel_rfl) (by kernel_rfl) (by decide) (by decide) inv (fun _ _ _ h => h) (Or.inl ⟨by rfl, ?_⟩) HSd.out ?_; rotate_left; (focus (intro W y1; obtain ⟨y1, y2, y3⟩ := y1; go_simp; (first | done | with_reducible rfl))); clear inv; intro inv; simp only [List.getElem_toArray, List.getElem_cons_zero, Act.put, List.setIfInBounds_toArray, List.set_cons_zero, List.set_cons_succ]
                refine wpAnyG_take (i := 2) (v := ?_) rfl (by kernel_rfl) (by kernel_rfl) (by kernel_rfl) (by kernel_rfl) (by kernel_rfl) (by decide) (by decide) inv (fun _ _ _ h => h) (Or.inl ⟨by rfl, ?_⟩) HSd.out ?_; rotate_left; (focus (intro W y1; obtain ⟨y1, y2, y3⟩ := y1; go_simp; (first | done | with_reducible rfl))); clear inv; intro inv; simp only [List.getElem_toArray, List.getElem_cons_zero, List.getElem_cons_succ, Act.put, List.setIfInBounds_toArray, List.set_cons_zero, List.set_cons_succ]
                refine wpAnyG_take (i := 3) (v := ?_) rfl (by kernel_rfl) (by kernel_rfl) (by kernel_rfl) (by kernel_rfl) (by kernel_rfl) (by decide) (by decide) inv (fun _ _ _ h => h) (Or.inl ⟨by rfl, ?_⟩) HSd.out ?_; rotate_left; (focus (intro W y1; obtain ⟨y1, y2, y3⟩ := y1; go_simp; (first | done | with_reducible rfl))); clear inv; intro inv; simp only [List.getElem_toArray, List.getElem_cons_zero, List.getElem_cons_succ, Act.put, List.setIfInBounds_toArray, List.set_cons_zero, List.set_cons_succ]
                refine wpAnyG_take (i := 4) (v := ?_) rfl (by kernel_rfl) (by kernel_rfl) (by kernel_rfl) (by kernel_rfl) (by kernel_rfl) (by decide) (by decide) inv (fun _ _ _ h => h) (Or.inl ⟨by rfl, ?_⟩) HSd.out ?_; rotate_left; (focus (intro W y1; obtain ⟨y1, y2, y3⟩ := y1; go_simp; (first | done | with_reducible rfl))); clear inv; intro inv; simp only [List.getElem_toArray, List.getElem_cons_zero, List.getElem_cons_succ, Act.put, List.setIfInBounds_toArray, List.set_cons_zero, List.set_cons_succ]
                refine wpAnyG_take (i := 5) (v := ?_) rfl (by kernel_rfl) (by kernel_rfl) (by kernel_rfl) (by kernel_rfl) (by kernel_rfl) (by decide) (by decide) inv (fun _ _ _ h => h) (Or.inl ⟨by rfl, ?_⟩) HSd.out ?_; rotate_left; (focus (intro W y1; obtain ⟨y1, y2, y3⟩ := y1; go_simp; (first | done | with_reducible rfl))); clear inv; intro inv; simp only [List.getElem_toArray, List.getElem_cons_zero, List.getElem_cons_succ, Act.put, List.setIfInBounds_toArray, List.set_cons_zero, List.set_cons_succ]
                refine wpAnyG_take (i := 6) (v := ?_) rfl (by kernel_rfl) (by kernel_rfl) (by kernel_rfl) (by kernel_rfl) (by kernel_rfl) (by decide) (by decide) inv (fun _ _ _ h => h) (Or.inl ⟨by rfl, ?_⟩) HSd.out ?_; rotate_left; (focus (intro W y1; obtain ⟨y1, y2, y3⟩ := y1; go_simp; (first | done | with_reducible rfl))); clear inv; intro inv; simp only [List.getElem_toArray, List.getElem_cons_zero, List.getElem_cons_succ, Act.put, List.setIfInBounds_toArray, List.set_cons_zero, List.set_cons_succ]
                refine wpAnyG_take (i := 7) (v := ?_) rfl (by kernel_rfl) (by kernel_rfl) (by kernel_rfl) (by kernel_rfl) (by kernel_rfl) (by decide) (by decide) inv (fun _ _ _ h => h) (Or.inl ⟨by rfl, ?_⟩) HSd.out ?_; rotate_left; (focus (intro W y1; obtain ⟨y1, y2, y3⟩ := y1; go_simp; (first | done | with_reducible rfl))); clear inv; intro inv; simp only [List.getElem_toArray, List.getElem_cons_zero, List.getElem_cons_succ, Act.put, List.setIfInBounds_toArray, List.set_cons_zero, List.set_cons_succ]
                have HBd := Lib.hid (show Below w8.heap.size w8 w8.drew from pd pr)
                have HInv := Lib.hid inv
                clear inv HSd
                generalize w8.drew = vd at *
                refine wpAnyG_twoE (i := 1) (k := 12) (by kernel_rfl) rfl rfl rfl rfl (fun K hK => ?_) (fun K hK => ?_)
                · skip
                  as_aux_lemma =>
                  go_simp
                  refine (HCp.out _ (HWw.out _ (pt HQ8.out HBd.out))).mono ?_
                  rintro e v1 ⟨A2, c2, rfl, hc, hb⟩
                  have HB1 := Lib.hid (pt HBd.out hb)
                  have HCc := Lib.hid hc
                  clear hc hb
                  refine hK.out _ _ (fun _ => HSS.out _ HB1.out) ?_
                  clear hK K
                  replace HInv := Lib.hid (inv_memE (i := 1) HInv.out (by kernel_rfl) (by decide))
                  refine wpAnyG_twoE (i := 8) (k := 12) (by kernel_rfl) rfl rfl rfl rfl (fun K hK => ?_) (fun K hK => ?_)
                  · skip
                    as_aux_lemma =>
                    go_simp
                    refine (HF3.out _ A2 c2 HCc.out).mono ?_
                    rintro e v2 ⟨rfl, hb2⟩
                    have HB2 := Lib.hid (pt HB1.out hb2)
                    clear hb2
                    refine hK.out _ _ (fun _ => HSS.out _ HB2.out) ?_
                    clear hK K
                    replace HInv := Lib.hid (inv_memE (i := 8) HInv.out (by kernel_rfl) (by decide))
                    have inv := HInv.out
                    clear HInv
                    have HSd := Lib.hid (HSS.out _ HB2.out)
                    refine wpAnyG_take (i := 9) (v := ?_) rfl (by kernel_rfl) (by kernel_rfl) (by kernel_rfl) (by kernel_rfl) (by kernel_rfl) (by decide) (by decide) inv (fun _ _ _ h => h) (Or.inl ⟨by rfl, ?_⟩) HSd.out ?_; rotate_left; (focus (intro W y1; obtain ⟨y1, y2, y3⟩ := y1; go_simp; (first | done | with_reducible rfl))); clear inv; intro inv; simp only [List.getElem_toArray, List.getElem_cons_zero, List.getElem_cons_succ, Act.put, List.setIfInBounds_toArray, List.set_cons_zero, List.set_cons_succ]
                    refine wpAnyG_take (i := 10) (v := ?_) rfl (by kernel_rfl) (by kernel_rfl) (by kernel_rfl) (by kernel_rfl) (by kernel_rfl) (by decide) (by decide) inv (fun _ _ _ h => h) (Or.inl ⟨by rfl, ?_⟩) HSd.out ?_; rotate_left; (focus (intro W y1; obtain ⟨y1, y2, y3⟩ := y1; go_simp; (first | done | with_reducible rfl))); clear inv; intro inv; simp only [List.getElem_toArray, List.getElem_cons_zero, List.getElem_cons_succ, Act.put, List.setIfInBounds_toArray, List.set_cons_zero, List.set_cons_succ]
                    refine wpAnyG_take (i := 11) (v := ?_) rfl (by kernel_rfl) (by kernel_rfl) (by kernel_rfl) (by kernel_rfl) (by kernel_rfl) (by decide) (by decide) inv (fun _ _ _ h => h) (Or.inl ⟨by rfl, ?_⟩) HSd.out ?_; rotate_left; (focus (intro W y1; obtain ⟨y1, y2, y3⟩ := y1; go_simp; (first | done | with_reducible rfl))); clear inv; intro inv; simp only [List.getElem_toArray, List.getElem_cons_zero, List.getElem_cons_succ, Act.put, List.setIfInBounds_toArray, List.set_cons_zero, List.set_cons_succ]
                    have HInv := Lib.hid inv
                    clear inv HSd
                    refine wpAnyG_one (i := 12) (by kernel_rfl) rfl rfl fun K hK => ?_
                    go_simp
                    have HZz := Lib.hid (show Blk (v2.alloc (.cells #[.int .i64 0, .int .i64 0] 32)) v2.heap.size 32 #[.int .i64 0, .int .i64 0] from Blk.newAt rfl)
                    have HBz := Lib.hid (show Below w8.heap.size w8 (v2.alloc (.cells #[.int .i64 0, .int .i64 0] 32)) from pa HB2.out)
                    refine hK.out _ _ (fun _ => HSS.out _ HBz.out) ?_
                    clear hK K
                    replace HInv := Lib.hid (inv_memE (i := 12) HInv.out (by kernel_rfl) (by decide))
                    refine wpAnyG_one (i := 13) (by kernel_rfl) rfl rfl fun K hK => ?_
                    refine store_op HZz.out (o := 0) (vs := #[.int .i64 c1_, .int .i64 c2_]) (cs' := #[.int .i64 c1_, .int .i64 c2_]) rfl rfl rfl (Nat.le_refl 2) frac_size (by simp [Value.oneCell']) fun v9 hv9 hp9 => ?_
                    have HBz := Lib.hid (show Below w8.heap.size w8 v9 from HBz.out.trans (hp9.below _ HB2.out.size))
                    refine hK.out _ _ (fun _ => HSS.out _ HBz.out) ?_
                    clear hK K
                    refine wpAnyG_one (i := 14) (by kernel_rfl) rfl rfl fun K hK => ?_
                    go_simp
                    refine hK.out _ _ (fun h => absurd h (by decide)) ?_
                    clear hK K
                    refine wpAnyG_done (by kernel_rfl) ?_
                    clear HInv
                    go_wp2
                    go_meet
                    case rel => exact ⟨_, rfl, rfl, hv9, HB2.out.size, HBz.out⟩
                  · skip
                    as_aux_lemma =>
                    go_simp
                    have HZz := Lib.hid (show Blk (v1.alloc (.cells #[.int .i64 0, .int .i64 0] 32)) v1.heap.size 32 #[.int .i64 0, .int .i64 0] from Blk.newAt rfl)
                    have HBz := Lib.hid (show Below w8.heap.size w8 (v1.alloc (.cells #[.int .i64 0, .int .i64 0] 32)) from pa HB1.out)
                    refine hK.out _ _ (fun _ => HSS.out _ HBz.out) ?_
                    clear hK K
                    replace HInv := Lib.hid (inv_memE (i := 12) HInv.out (by kernel_rfl) (by decide))
                    refine wpAnyG_one (i := 8) (by kernel_rfl) rfl rfl fun K hK => ?_
                    go_simp
                    refine (HF3.out _ A2 c2 (HCc.out.past (Nat.le_refl _) (pa pr))).mono ?_
                    rintro e v2 ⟨rfl, hb2⟩
                    have HB2 := Lib.hid (pt HBz.out hb2)
                    have HZ2 := Lib.hid (HZz.out.past hb2)
                    clear hb2
                    refine hK.out _ _ (fun _ => HSS.out _ HB2.out) ?_
                    clear hK K
                    replace HInv := Lib.hid (inv_memE (i := 8) HInv.out (by kernel_rfl) (by decide))
                    have inv := HInv.out
                    clear HInv
                    have HSd := Lib.hid (HSS.out _ HB2.out)
                    refine wpAnyG_take (i := 9) (v := ?_) rfl (by kernel_rfl) (by kernel_rfl) (by kernel_rfl) (by kernel_rfl) (by kernel_rfl) (by decide) (by decide) inv (fun _ _ _ h => h) (Or.inl ⟨by rfl, ?_⟩) HSd.out ?_; rotate_left; (focus (intro W y1; obtain ⟨y1, y2, y3⟩ := y1; go_simp; (first | done | with_reducible rfl))); clear inv; intro inv; simp only [List.getElem_toArray, List.getElem_cons_zero, List.getElem_cons_succ, Act.put, List.setIfInBounds_toArray, List.set_cons_zero, List.set_cons_succ]
                    refine wpAnyG_take (i := 10) (v := ?_) rfl (by kernel_rfl) (by kernel_rfl) (by kernel_rfl) (by kernel_rfl) (by kernel_rfl) (by decide) (by decide) inv (fun _ _ _ h => h) (Or.inl ⟨by rfl, ?_⟩) HSd.out ?_; rotate_left; (focus (intro W y1; obtain ⟨y1, y2, y3⟩ := y1; go_simp; (first | done | with_reducible rfl))); clear inv; intro inv; simp only [List.getElem_toArray, List.getElem_cons_zero, List.getElem_cons_succ, Act.put, List.setIfInBounds_toArray, List.set_cons_zero, List.set_cons_succ]
                    refine wpAnyG_take (i := 11) (v := ?_) rfl (by kernel_rfl) (by kernel_rfl) (by kernel_rfl) (by kernel_rfl) (by kernel_rfl) (by decide) (by decide) inv (fun _ _ _ h => h) (Or.inl ⟨by rfl, ?_⟩) HSd.out ?_; rotate_left; (focus (intro W y1; obtain ⟨y1, y2, y3⟩ := y1; go_simp; (first | done | with_reducible rfl))); clear inv; intro inv; simp only [List.getElem_toArray, List.getElem_cons_zero, List.getElem_cons_succ, Act.put, List.setIfInBounds_toArray, List.set_cons_zero, List.set_cons_succ]
                    have HInv := Lib.hid inv
                    clear inv HSd
                    refine wpAnyG_one (i := 13) (by kernel_rfl) rfl rfl fun K hK => ?_
                    refine store_op HZ2.out (o := 0) (vs := #[.int .i64 c1_, .int .i64 c2_]) (cs' := #[.int .i64 c1_, .int .i64 c2_]) rfl rfl rfl (Nat.le_refl 2) frac_size (by simp [Value.oneCell']) fun v9 hv9 hp9 => ?_
                    have HBz := Lib.hid (show Below w8.heap.size w8 v9 from HB2.out.trans (hp9.below _ HB1.out.size))
                    refine hK.out _ _ (fun _ => HSS.out _ HBz.out) ?_
                    clear hK K
                    refine wpAnyG_one (i := 14) (by kernel_rfl) rfl rfl fun K hK => ?_
                    go_simp
                    refine hK.out _ _ (fun h => absurd h (by decide)) ?_
                    clear hK K
                    refine wpAnyG_done (by kernel_rfl) ?_
                    clear HInv
                    go_wp2
                    go_meet
                    case rel => exact ⟨_, rfl, rfl, hv9, HB1.out.size, HBz.out⟩
                · skip
                  as_aux_lemma =>
                  go_simp
                  have HZz := Lib.hid (show Blk (vd.alloc (.cells #[.int .i64 0, .int .i64 0] 32)) vd.heap.size 32 #[.int .i64 0, .int .i64 0] from Blk.newAt rfl)
                  have HBz := Lib.hid (show Below w8.heap.size w8 (vd.alloc (.cells #[.int .i64 0, .int .i64 0] 32)) from pa HBd.out)
                  refine hK.out _ _ (fun _ => HSS.out _ HBz.out) ?_
                  clear hK K
                  replace HInv := Lib.hid (inv_memE (i := 12) HInv.out (by kernel_rfl) (by decide))
                  refine wpAnyG_one (i := 1) (by kernel_rfl) rfl rfl fun K hK => ?_
                  go_simp
                  refine (HCp.out _ (HWw.out _ (pt HQ8.out HBz.out))).mono ?_
                  rintro e v1 ⟨A2, c2, rfl, hc, hb⟩
                  have HB1 := Lib.hid (pt HBz.out hb)
                  have HCc := Lib.hid hc
                  have HZ1 := Lib.hid (HZz.out.past hb)
                  clear hc hb
                  refine hK.out _ _ (fun _ => HSS.out _ HB1.out) ?_
                  clear hK K
                  replace HInv := Lib.hid (inv_memE (i := 1) HInv.out (by kernel_rfl) (by decide))
                  refine wpAnyG_one (i := 8) (by kernel_rfl) rfl rfl fun K hK => ?_
                  go_simp
                  refine (HF3.out _ A2 c2 HCc.out).mono ?_
                  rintro e v2 ⟨rfl, hb2⟩
                  have HB2 := Lib.hid (pt HB1.out hb2)
                  have HZ2 := Lib.hid (HZ1.out.past hb2)
                  clear hb2
                  refine hK.out _ _ (fun _ => HSS.out _ HB2.out) ?_
                  clear hK K
                  replace HInv := Lib.hid (inv_memE (i := 8) HInv.out (by kernel_rfl) (by decide))
                  have inv := HInv.out
                  clear HInv
                  have HSd := Lib.hid (HSS.out _ HB2.out)
                  refine wpAnyG_take (i := 9) (v := ?_) rfl (by kernel_rfl) (by kernel_rfl) (by kernel_rfl) (by kernel_rfl) (by kernel_rfl) (by decide) (by decide) inv (fun _ _ _ h => h) (Or.inl ⟨by rfl, ?_⟩) HSd.out ?_; rotate_left; (focus (intro W y1; obtain ⟨y1, y2, y3⟩ := y1; go_simp; (first | done | with_reducible rfl))); clear inv; intro inv; simp only [List.getElem_toArray, List.getElem_cons_zero, List.getElem_cons_succ, Act.put, List.setIfInBounds_toArray, List.set_cons_zero, List.set_cons_succ]
                  refine wpAnyG_take (i := 10) (v := ?_) rfl (by kernel_rfl) (by kernel_rfl) (by kernel_rfl) (by kernel_rfl) (by kernel_rfl) (by decide) (by decide) inv (fun _ _ _ h => h) (Or.inl ⟨by rfl, ?_⟩) HSd.out ?_; rotate_left; (focus (intro W y1; obtain ⟨y1, y2, y3⟩ := y1; go_simp; (first | done | with_reducible rfl))); clear inv; intro inv; simp only [List.getElem_toArray, List.getElem_cons_zero, List.getElem_cons_succ, Act.put, List.setIfInBounds_toArray, List.set_cons_zero, List.set_cons_succ]
                  refine wpAnyG_take (i := 11) (v := ?_) rfl (by kernel_rfl) (by kernel_rfl) (by kernel_rfl) (by kernel_rfl) (by kernel_rfl) (by decide) (by decide) inv (fun _ _ _ h => h) (Or.inl ⟨by rfl, ?_⟩) HSd.out ?_; rotate_left; (focus (intro W y1; obtain ⟨y1, y2, y3⟩ := y1; go_simp; (first | done | with_reducible rfl))); clear inv; intro inv; simp only [List.getElem_toArray, List.getElem_cons_zero, List.getElem_cons_succ, Act.put, List.setIfInBounds_toArray, List.set_cons_zero, List.set_cons_succ]
                  have HInv := Lib.hid inv
                  clear inv HSd
                  refine wpAnyG_one (i := 13) (by kernel_rfl) rfl rfl fun K hK => ?_
                  refine store_op HZ2.out (o := 0) (vs := #[.int .i64 c1_, .int .i64 c2_]) (cs' := #[.int .i64 c1_, .int .i64 c2_]) rfl rfl rfl (Nat.le_refl 2) frac_size (by simp [Value.oneCell']) fun v9 hv9 hp9 => ?_
                  have HBz := Lib.hid (show Below w8.heap.size w8 v9 from HB2.out.trans (hp9.below _ HBd.out.size))
                  refine hK.out _ _ (fun _ => HSS.out _ HBz.out) ?_
                  clear hK K
                  refine wpAnyG_one (i := 14) (by kernel_rfl) rfl rfl fun K hK => ?_
                  go_simp
                  refine hK.out _ _ (fun h => absurd h (by decide)) ?_
                  clear hK K
                  refine wpAnyG_done (by kernel_rfl) ?_
                  clear HInv
                  go_wp2
                  go_meet
                  case rel => exact ⟨_, rfl, rfl, hv9, HBd.out.size, HBz.out⟩
              case rest =>
                as_aux_lemma =>
                obtain ⟨z15, rfl, rfl, hz, hge, hbc⟩ := hcut
                obtain ⟨w9, hwk⟩ : ∃ v : World, v = wc := ⟨_, rfl⟩
                subst hwk
                have HQ9 := Lib.hid (pt HQ8.out hbc)
                have HN9 := Lib.hid hbc
                have T15_9 := Lib.hid hz
                go_upto_region 15 with fail
                go_cut [17, 18] (fun pv ev wx => ∃ z : Nat, pv = .pointer (some ⟨z, 0, none⟩) ∧ ev = .int .i64 e3_ ∧ Blk wx z 32 #[.int .i64 e1_, .int .i64 e2_] ∧ w9.heap.size ≤ z ∧ Below w9.heap.size w9 wx)
                case first =>
                  as_aux_lemma =>
                  have HSS := Lib.hid (show ∀ W, Below w9.heap.size w9 W → W.cell? ⟨w.heap.size, 0, none⟩ = some (.slice A n c) ∧ W.cell? ⟨b1, 1, none⟩ = some (.int .i64 g) ∧ W.cell? ⟨b1, 2, none⟩ = some (.int .i64 t) from fun W hW => ⟨(HXb.out W (pt HQ9.out hW)).1, (HXb.out W (pt HQ9.out hW)).2.2.1, (HXb.out W (pt HQ9.out hW)).2.2.2⟩)
                  refine wp_region_G 13 follows_mixed (fun W => W.cell? ⟨w.heap.size, 0, none⟩ = some (.slice A n c) ∧ W.cell? ⟨b1, 1, none⟩ = some (.int .i64 g) ∧ W.cell? ⟨b1, 2, none⟩ = some (.int .i64 t)) (HSS.out _ (pd pr)) ?_
                  intro hSd inv
                  have HSd := Lib.hid hSd
                  clear hSd
                  refine wpAnyG_take (i := 0) (v := ?_) rfl (by kernel_rfl) (by kernel_rfl) (by kernel_rfl) (by kernel_rfl) (by kernel_rfl) (by decide) (by decide) inv (fun _ _ _ h => h) (Or.inl ⟨by rfl, ?_⟩) HSd.out ?_; rotate_left; (focus (intro W y1; obtain ⟨y1, y2, y3⟩ := y1; go_simp; (first | done | with_reducible rfl))); clear inv; intro inv; simp only [List.getElem_toArray, List.getElem_cons_zero, Act.put, List.setIfInBounds_toArray, List.set_cons_zero, List.set_cons_succ]
                  refine wpAnyG_take (i := 2) (v := ?_) rfl (by kernel_rfl) (by kernel_rfl) (by kernel_rfl) (by kernel_rfl) (by kernel_rfl) (by decide) (by decide) inv (fun _ _ _ h => h) (Or.inl ⟨by rfl, ?_⟩) HSd.out ?_; rotate_left; (focus (intro W y1; obtain ⟨y1, y2, y3⟩ := y1; go_simp; (first | done | with_reducible rfl))); clear inv; intro inv; simp only [List.getElem_toArray, List.getElem_cons_zero, List.getElem_cons_succ, Act.put, List.setIfInBounds_toArray, List.set_cons_zero, List.set_cons_succ]
                  refine wpAnyG_take (i := 3) (v := ?_) rfl (by kernel_rfl) (by kernel_rfl) (by kernel_rfl) (by kernel_rfl) (by kernel_rfl) (by decide) (by decide) inv (fun _ _ _ h => h) (Or.inl ⟨by rfl, ?_⟩) HSd.out ?_; rotate_left; (focus (intro W y1; obtain ⟨y1, y2, y3⟩ := y1; go_simp; (first | done | with_reducible rfl))); clear inv; intro inv; simp only [List.getElem_toArray, List.getElem_cons_zero, List.getElem_cons_succ, Act.put, List.setIfInBounds_toArray, List.set_cons_zero, List.set_cons_succ]
                  refine wpAnyG_take (i := 4) (v := ?_) rfl (by kernel_rfl) (by kernel_rfl) (by kernel_rfl) (by kernel_rfl) (by kernel_rfl) (by decide) (by decide) inv (fun _ _ _ h => h) (Or.inl ⟨by rfl, ?_⟩) HSd.out ?_; rotate_left; (focus (intro W y1; obtain ⟨y1, y2, y3⟩ := y1; go_simp; (first | done | with_reducible rfl))); clear inv; intro inv; simp only [List.getElem_toArray, List.getElem_cons_zero, List.getElem_cons_succ, Act.put, List.setIfInBounds_toArray, List.set_cons_zero, List.set_cons_succ]
                  refine wpAnyG_take (i := 5) (v := ?_) rfl (by kernel_rfl) (by kernel_rfl) (by kernel_rfl) (by kernel_rfl) (by kernel_rfl) (by decide) (by decide) inv (fun _ _ _ h => h) (Or.inl ⟨by rfl, ?_⟩) HSd.out ?_; rotate_left; (focus (intro W y1; obtain ⟨y1, y2, y3⟩ := y1; go_simp; (first | done | with_reducible rfl))); clear inv; intro inv; simp only [List.getElem_toArray, List.getElem_cons_zero, List.getElem_cons_succ, Act.put, List.setIfInBounds_toArray, List.set_cons_zero, List.set_cons_succ]
                  refine wpAnyG_take (i := 6) (v := ?_) rfl (by kernel_rfl) (by kernel_rfl) (by kernel_rfl) (by kernel_rfl) (by kernel_rfl) (by decide) (by decide) inv (fun _ _ _ h => h) (Or.inl ⟨by rfl, ?_⟩) HSd.out ?_; rotate_left; (focus (intro W y1; obtain ⟨y1, y2, y3⟩ := y1; go_simp; (first | done | with_reducible rfl))); clear inv; intro inv; simp only [List.getElem_toArray, List.getElem_cons_zero, List.getElem_cons_succ, Act.put, List.setIfInBounds_toArray, List.set_cons_zero, List.set_cons_succ]
                  have HBd := Lib.hid (show Below w9.heap.size w9 w9.drew from pd pr)
                  have HInv := Lib.hid inv
                  clear inv HSd
                  generalize w9.drew = vd at *
                  refine wpAnyG_twoE (i := 1) (k := 11) (by kernel_rfl) rfl rfl rfl rfl (fun K hK => ?_) (fun K hK => ?_)
                  · skip
                    as_aux_lemma =>
                    go_simp
                    refine (HCp.out _ (HWw.out _ (pt HQ9.out HBd.out))).mono ?_
                    rintro e v1 ⟨A2, c2, rfl, hc, hb⟩
                    have HB1 := Lib.hid (pt HBd.out hb)
                    have HCc := Lib.hid hc
                    clear hc hb
                    refine hK.out _ _ (fun _ => HSS.out _ HB1.out) ?_
                    clear hK K
                    replace HInv := Lib.hid (inv_memE (i := 1) HInv.out (by kernel_rfl) (by decide))
                    refine wpAnyG_twoE (i := 7) (k := 11) (by kernel_rfl) rfl rfl rfl rfl (fun K hK => ?_) (fun K hK => ?_)
                    · skip
                      as_aux_lemma =>
                      go_simp
                      refine (HF4.out _ A2 c2 HCc.out).mono ?_
                      rintro e v2 ⟨rfl, hb2⟩
                      have HB2 := Lib.hid (pt HB1.out hb2)
                      clear hb2
                      refine hK.out _ _ (fun _ => HSS.out _ HB2.out) ?_
                      clear hK K
                      replace HInv := Lib.hid (inv_memE (i := 7) HInv.out (by kernel_rfl) (by decide))
                      have inv := HInv.out
                      clear HInv
                      have HSd := Lib.hid (HSS.out _ HB2.out)
                      refine wpAnyG_take (i := 8) (v := ?_) rfl (by kernel_rfl) (by kernel_rfl) (by kernel_rfl) (by kernel_rfl) (by kernel_rfl) (by decide) (by decide) inv (fun _ _ _ h => h) (Or.inl ⟨by rfl, ?_⟩) HSd.out ?_; rotate_left; (focus (intro W y1; obtain ⟨y1, y2, y3⟩ := y1; go_simp; (first | done | with_reducible rfl))); clear inv; intro inv; simp only [List.getElem_toArray, List.getElem_cons_zero, List.getElem_cons_succ, Act.put, List.setIfInBounds_toArray, List.set_cons_zero, List.set_cons_succ]
                      refine wpAnyG_take (i := 9) (v := ?_) rfl (by kernel_rfl) (by kernel_rfl) (by kernel_rfl) (by kernel_rfl) (by kernel_rfl) (by decide) (by decide) inv (fun _ _ _ h => h) (Or.inl ⟨by rfl, ?_⟩) HSd.out ?_; rotate_left; (focus (intro W y1; obtain ⟨y1, y2, y3⟩ := y1; go_simp; (first | done | with_reducible rfl))); clear inv; intro inv; simp only [List.getElem_toArray, List.getElem_cons_zero, List.getElem_cons_succ, Act.put, List.setIfInBounds_toArray, List.set_cons_zero, List.set_cons_succ]
                      refine wpAnyG_take (i := 10) (v := ?_) rfl (by kernel_rfl) (by kernel_rfl) (by kernel_rfl) (by kernel_rfl) (by kernel_rfl) (by decide) (by decide) inv (fun _ _ _ h => h) (Or.inl ⟨by rfl, ?_⟩) HSd.out ?_; rotate_left; (focus (intro W y1; obtain ⟨y1, y2, y3⟩ := y1; go_simp; (first | done | with_reducible rfl))); clear inv; intro inv; simp only [List.getElem_toArray, List.getElem_cons_zero, List.getElem_cons_succ, Act.put, List.setIfInBounds_toArray, List.set_cons_zero, List.set_cons_succ]
                      have HInv := Lib.hid inv
                      clear inv HSd
                      refine wpAnyG_one (i := 11) (by kernel_rfl) rfl rfl fun K hK => ?_
                      go_simp
                      have HZz := Lib.hid (show Blk (v2.alloc (.cells #[.int .i64 0, .int .i64 0] 32)) v2.heap.size 32 #[.int .i64 0, .int .i64 0] from Blk.newAt rfl)
                      have HBz := Lib.hid (show Below w9.heap.size w9 (v2.alloc (.cells #[.int .i64 0, .int .i64 0] 32)) from pa HB2.out)
                      refine hK.out _ _ (fun _ => HSS.out _ HBz.out) ?_
                      clear hK K
                      replace HInv := Lib.hid (inv_memE (i := 11) HInv.out (by kernel_rfl) (by decide))
                      refine wpAnyG_one (i := 12) (by kernel_rfl) rfl rfl fun K hK => ?_
                      refine store_op HZz.out (o := 0) (vs := #[.int .i64 e1_, .int .i64 e2_]) (cs' := #[.int .i64 e1_, .int .i64 e2_]) rfl rfl rfl (Nat.le_refl 2) frac_size (by simp [Value.oneCell']) fun v9 hv9 hp9 => ?_
                      have HBz := Lib.hid (show Below w9.heap.size w9 v9 from HBz.out.trans (hp9.below _ HB2.out.size))
                      refine hK.out _ _ (fun _ => HSS.out _ HBz.out) ?_
                      clear hK K
                      refine wpAnyG_one (i := 13) (by kernel_rfl) rfl rfl fun K hK => ?_
                      go_simp
                      refine hK.out _ _ (fun h => absurd h (by decide)) ?_
                      clear hK K
                      refine wpAnyG_done (by kernel_rfl) ?_
                      clear HInv
                      go_wp2
                      go_meet
                      case rel => exact ⟨_, rfl, rfl, hv9, HB2.out.size, HBz.out⟩
                    · skip
                      as_aux_lemma =>
                      go_simp
                      have HZz := Lib.hid (show Blk (v1.alloc (.cells #[.int .i64 0, .int .i64 0] 32)) v1.heap.size 32 #[.int .i64 0, .int .i64 0] from Blk.newAt rfl)
                      have HBz := Lib.hid (show Below w9.heap.size w9 (v1.alloc (.cells #[.int .i64 0, .int .i64 0] 32)) from pa HB1.out)
                      refine hK.out _ _ (fun _ => HSS.out _ HBz.out) ?_
                      clear hK K
                      replace HInv := Lib.hid (inv_memE (i := 11) HInv.out (by kernel_rfl) (by decide))
                      refine wpAnyG_one (i := 7) (by kernel_rfl) rfl rfl fun K hK => ?_
                      go_simp
                      refine (HF4.out _ A2 c2 (HCc.out.past (Nat.le_refl _) (pa pr))).mono ?_
                      rintro e v2 ⟨rfl, hb2⟩
                      have HB2 := Lib.hid (pt HBz.out hb2)
                      have HZ2 := Lib.hid (HZz.out.past hb2)
                      clear hb2
                      refine hK.out _ _ (fun _ => HSS.out _ HB2.out) ?_
                      clear hK K
                      replace HInv := Lib.hid (inv_memE (i := 7) HInv.out (by kernel_rfl) (by decide))
                      have inv := HInv.out
                      clear HInv
                      have HSd := Lib.hid (HSS.out _ HB2.out)
                      refine wpAnyG_take (i := 8) (v := ?_) rfl (by kernel_rfl) (by kernel_rfl) (by kernel_rfl) (by kernel_rfl) (by kernel_rfl) (by decide) (by decide) inv (fun _ _ _ h => h) (Or.inl ⟨by rfl, ?_⟩) HSd.out ?_; rotate_left; (focus (intro W y1; obtain ⟨y1, y2, y3⟩ := y1; go_simp; (first | done | with_reducible rfl))); clear inv; intro inv; simp only [List.getElem_toArray, List.getElem_cons_zero, List.getElem_cons_succ, Act.put, List.setIfInBounds_toArray, List.set_cons_zero, List.set_cons_succ]
                      refine wpAnyG_take (i := 9) (v := ?_) rfl (by kernel_rfl) (by kernel_rfl) (by kernel_rfl) (by kernel_rfl) (by kernel_rfl) (by decide) (by decide) inv (fun _ _ _ h => h) (Or.inl ⟨by rfl, ?_⟩) HSd.out ?_; rotate_left; (focus (intro W y1; obtain ⟨y1, y2, y3⟩ := y1; go_simp; (first | done | with_reducible rfl))); clear inv; intro inv; simp only [List.getElem_toArray, List.getElem_cons_zero, List.getElem_cons_succ, Act.put, List.setIfInBounds_toArray, List.set_cons_zero, List.set_cons_succ]
                      refine wpAnyG_take (i := 10) (v := ?_) rfl (by kernel_rfl) (by kernel_rfl) (by kernel_rfl) (by kernel_rfl) (by kernel_rfl) (by decide) (by decide) inv (fun _ _ _ h => h) (Or.inl ⟨by rfl, ?_⟩) HSd.out ?_; rotate_left; (focus (intro W y1; obtain ⟨y1, y2, y3⟩ := y1; go_simp; (first | done | with_reducible rfl))); clear inv; intro inv; simp only [List.getElem_toArray, List.getElem_cons_zero, List.getElem_cons_succ, Act.put, List.setIfInBounds_toArray, List.set_cons_zero, List.set_cons_succ]
                      have HInv := Lib.hid inv
                      clear inv HSd
                      refine wpAnyG_one (i := 12) (by kernel_rfl) rfl rfl fun K hK => ?_
                      refine store_op HZ2.out (o := 0) (vs := #[.int .i64 e1_, .int .i64 e2_]) (cs' := #[.int .i64 e1_, .int .i64 e2_]) rfl rfl rfl (Nat.le_refl 2) frac_size (by simp [Value.oneCell']) fun v9 hv9 hp9 => ?_
                      have HBz := Lib.hid (show Below w9.heap.size w9 v9 from HB2.out.trans (hp9.below _ HB1.out.size))
                      refine hK.out _ _ (fun _ => HSS.out _ HBz.out) ?_
                      clear hK K
                      refine wpAnyG_one (i := 13) (by kernel_rfl) rfl rfl fun K hK => ?_
                      go_simp
                      refine hK.out _ _ (fun h => absurd h (by decide)) ?_
                      clear hK K
                      refine wpAnyG_done (by kernel_rfl) ?_
                      clear HInv
                      go_wp2
                      go_meet
                      case rel => exact ⟨_, rfl, rfl, hv9, HB1.out.size, HBz.out⟩
                  · skip
                    as_aux_lemma =>
                    go_simp
                    have HZz := Lib.hid (show Blk (vd.alloc (.cells #[.int .i64 0, .int .i64 0] 32)) vd.heap.size 32 #[.int .i64 0, .int .i64 0] from Blk.newAt rfl)
                    have HBz := Lib.hid (show Below w9.heap.size w9 (vd.alloc (.cells #[.int .i64 0, .int .i64 0] 32)) from pa HBd.out)
                    refine hK.out _ _ (fun _ => HSS.out _ HBz.out) ?_
                    clear hK K
                    replace HInv := Lib.hid (inv_memE (i := 11) HInv.out (by kernel_rfl) (by decide))
                    refine wpAnyG_one (i := 1) (by kernel_rfl) rfl rfl fun K hK => ?_
                    go_simp
                    refine (HCp.out _ (HWw.out _ (pt HQ9.out HBz.out))).mono ?_
                    rintro e v1 ⟨A2, c2, rfl, hc, hb⟩
                    have HB1 := Lib.hid (pt HBz.out hb)
                    have HCc := Lib.hid hc
                    have HZ1 := Lib.hid (HZz.out.past hb)
                    clear hc hb
                    refine hK.out _ _ (fun _ => HSS.out _ HB1.out) ?_
                    clear hK K
                    replace HInv := Lib.hid (inv_memE (i := 1) HInv.out (by kernel_rfl) (by decide))
                    refine wpAnyG_one (i := 7) (by kernel_rfl) rfl rfl fun K hK => ?_
                    go_simp
                    refine (HF4.out _ A2 c2 HCc.out).mono ?_
                    rintro e v2 ⟨rfl, hb2⟩
                    have HB2 := Lib.hid (pt HB1.out hb2)
                    have HZ2 := Lib.hid (HZ1.out.past hb2)
                    clear hb2
                    refine hK.out _ _ (fun _ => HSS.out _ HB2.out) ?_
                    clear hK K
                    replace HInv := Lib.hid (inv_memE (i := 7) HInv.out (by kernel_rfl) (by decide))
                    have inv := HInv.out
                    clear HInv
                    have HSd := Lib.hid (HSS.out _ HB2.out)
                    refine wpAnyG_take (i := 8) (v := ?_) rfl (by kernel_rfl) (by kernel_rfl) (by kernel_rfl) (by kernel_rfl) (by kernel_rfl) (by decide) (by decide) inv (fun _ _ _ h => h) (Or.inl ⟨by rfl, ?_⟩) HSd.out ?_; rotate_left; (focus (intro W y1; obtain ⟨y1, y2, y3⟩ := y1; go_simp; (first | done | with_reducible rfl))); clear inv; intro inv; simp only [List.getElem_toArray, List.getElem_cons_zero, List.getElem_cons_succ, Act.put, List.setIfInBounds_toArray, List.set_cons_zero, List.set_cons_succ]
                    refine wpAnyG_take (i := 9) (v := ?_) rfl (by kernel_rfl) (by kernel_rfl) (by kernel_rfl) (by kernel_rfl) (by kernel_rfl) (by decide) (by decide) inv (fun _ _ _ h => h) (Or.inl ⟨by rfl, ?_⟩) HSd.out ?_; rotate_left; (focus (intro W y1; obtain ⟨y1, y2, y3⟩ := y1; go_simp; (first | done | with_reducible rfl))); clear inv; intro inv; simp only [List.getElem_toArray, List.getElem_cons_zero, List.getElem_cons_succ, Act.put, List.setIfInBounds_toArray, List.set_cons_zero, List.set_cons_succ]
                    refine wpAnyG_take (i := 10) (v := ?_) rfl (by kernel_rfl) (by kernel_rfl) (by kernel_rfl) (by kernel_rfl) (by kernel_rfl) (by decide) (by decide) inv (fun _ _ _ h => h) (Or.inl ⟨by rfl, ?_⟩) HSd.out ?_; rotate_left; (focus (intro W y1; obtain ⟨y1, y2, y3⟩ := y1; go_simp; (first | done | with_reducible rfl))); clear inv; intro inv; simp only [List.getElem_toArray, List.getElem_cons_zero, List.getElem_cons_succ, Act.put, List.setIfInBounds_toArray, List.set_cons_zero, List.set_cons_succ]
                    have HInv := Lib.hid inv
                    clear inv HSd
                    refine wpAnyG_one (i := 12) (by kernel_rfl) rfl rfl fun K hK => ?_
                    refine store_op HZ2.out (o := 0) (vs := #[.int .i64 e1_, .int .i64 e2_]) (cs' := #[.int .i64 e1_, .int .i64 e2_]) rfl rfl rfl (Nat.le_refl 2) frac_size (by simp [Value.oneCell']) fun v9 hv9 hp9 => ?_
                    have HBz := Lib.hid (show Below w9.heap.size w9 v9 from HB2.out.trans (hp9.below _ HBd.out.size))
                    refine hK.out _ _ (fun _ => HSS.out _ HBz.out) ?_
                    clear hK K
                    refine wpAnyG_one (i := 13) (by kernel_rfl) rfl rfl fun K hK => ?_
                    go_simp
                    refine hK.out _ _ (fun h => absurd h (by decide)) ?_
                    clear hK K
                    refine wpAnyG_done (by kernel_rfl) ?_
                    clear HInv
                    go_wp2
                    go_meet
                    case rel => exact ⟨_, rfl, rfl, hv9, HBd.out.size, HBz.out⟩
                case rest =>
                  as_aux_lemma =>
                  obtain ⟨z17, rfl, rfl, hz, hge, hbc⟩ := hcut
                  obtain ⟨w10, hwk⟩ : ∃ v : World, v = wc := ⟨_, rfl⟩
                  subst hwk
                  have HQ10 := Lib.hid (pt HQ9.out hbc)
                  have HN10 := Lib.hid hbc
                  have T17_10 := Lib.hid hz
                  have HAll := Lib.hid (fun W (hW : Below w10.heap.size w10 W) => (show (W.cell? ⟨z11, 0, none⟩ = some (.int .i64 a1) ∧ W.cell? ⟨z11, 1, none⟩ = some (.int .i64 a2) ∧ z11 < W.heap.size) ∧ (W.cell? ⟨z13, 0, none⟩ = some (.int .i64 (-a1)) ∧ W.cell? ⟨z13, 1, none⟩ = some (.int .i64 a2) ∧ z13 < W.heap.size) ∧ (W.cell? ⟨z15, 0, none⟩ = some (.int .i64 c1_) ∧ W.cell? ⟨z15, 1, none⟩ = some (.int .i64 c2_) ∧ z15 < W.heap.size) ∧ (W.cell? ⟨z17, 0, none⟩ = some (.int .i64 e1_) ∧ W.cell? ⟨z17, 1, none⟩ = some (.int .i64 e2_) ∧ z17 < W.heap.size) from ⟨⟨(T11_7.out.past (pt (pt (pt HN8.out HN9.out) HN10.out) hW)).cellAt 0 rfl, (T11_7.out.past (pt (pt (pt HN8.out HN9.out) HN10.out) hW)).cellAt 1 rfl, (T11_7.out.past (pt (pt (pt HN8.out HN9.out) HN10.out) hW)).lt⟩, ⟨(T13_8.out.past (pt (pt HN9.out HN10.out) hW)).cellAt 0 rfl, (T13_8.out.past (pt (pt HN9.out HN10.out) hW)).cellAt 1 rfl, (T13_8.out.past (pt (pt HN9.out HN10.out) hW)).lt⟩, ⟨(T15_9.out.past (pt HN10.out hW)).cellAt 0 rfl, (T15_9.out.past (pt HN10.out hW)).cellAt 1 rfl, (T15_9.out.past (pt HN10.out hW)).lt⟩, ⟨(T17_10.out.past hW).cellAt 0 rfl, (T17_10.out.past hW).cellAt 1 rfl, (T17_10.out.past hW).lt⟩⟩))
                  obtain ⟨⟨x0, x1, xl⟩, ⟨y0, y1, yl⟩, ⟨u0, u1, ul⟩, ⟨v0, v1, vl⟩⟩ := HAll.out w10 pr
                  have HFin := Lib.hid (fun W (hW : Below w10.heap.size w10 W) => HWw.out W (pt HQ10.out hW))
                  have hE1 := HM.out.e1
                  have hE3 := HM.out.e3
                  have hE4 := HM.out.e4
                  dsimp only at hE1 hE3 hE4
                  clear HCp HXb HLb HWw HF1 HF2 HF3 HF4 HN7 HN8 HN9 HN10 T11_7 T13_8 T15_9 T17_10
                  rcases hE1 with rfl | rfl
                  · have hB1 := HM.out.b1 rfl
                    dsimp only at hB1
                    have ra : wrap64 (-a1) = -a1 := w64 (by omega)
                    have rai : IntKind.i64.wrap (-a1) = -a1 := IntWalk.i64_in _ (by omega)
                    have n1 : ¬ a1 < 0 := by omega
                    have HSa := Lib.hid (fun W => isSmall_w a1 a2 true (by unfold fsmallB withinB; simp; omega) W)
                    rcases hE3 with rfl | rfl
                    · rcases hE4 with rfl | rfl
                      · skip
                        as_aux_lemma =>
                        have hB3 := HM.out.b3 rfl
                        have hM3 := HM.out.m3 rfl rfl
                        dsimp only at hB3 hM3
                        have HSm := Lib.hid (fun W => isSmall_w c1_ c2_ true (by unfold fsmallB withinB; simp; omega) W)
                        obtain ⟨k3, hk3⟩ : ∃ k, cmpV a1 a2 c1_ c2_ = k := ⟨_, rfl⟩
                        have hk3n : k3 ≤ 0 := by rw [← hk3]; exact cmp_le hM3
                        have HC3 := Lib.hid (fun W => Cmp_w a1 a2 c1_ c2_ (by omega) (by omega) (by omega) (by omega) k3 hk3 W)
                        clear hk3 hM3 hB3
                        have hB4 := HM.out.b4 rfl
                        have hM4 := HM.out.m4 rfl rfl
                        dsimp only at hB4 hM4
                        have HSw := Lib.hid (fun W => isSmall_w e1_ e2_ true (by unfold fsmallB withinB; simp; omega) W)
                        obtain ⟨k4, hk4⟩ : ∃ k, cmpV e1_ e2_ a1 a2 = k := ⟨_, rfl⟩
                        have hk4n : k4 ≤ 0 := by rw [← hk4]; exact cmp_le hM4
                        have HC4 := Lib.hid (fun W => Cmp_w e1_ e2_ a1 a2 (by omega) (by omega) (by omega) (by omega) k4 hk4 W)
                        clear hk4 hM4 hB4
                        have K0 := True.intro
                        have K1 := True.intro
                        have K2 := True.intro
                        clear HM hB1
                        as_aux_lemma =>
                        go_wp2_with (first
                          | (go_at_call 12; (clear K0); (refine (HSa.out _).mono ?_); rintro e s1 ⟨rfl, hb⟩; have HZ1 := Lib.hid hb; clear hb; clear x0 x1 xl y0 y1 yl u0 u1 ul v0 v1 vl; obtain ⟨⟨x0, x1, xl⟩, ⟨y0, y1, yl⟩, ⟨u0, u1, ul⟩, ⟨v0, v1, vl⟩⟩ := HAll.out _ HZ1.out)
                          | (go_at_call 12; (clear K1); (refine (HSm.out _).mono ?_); rintro e s2 ⟨rfl, hb⟩; have HZ2 := Lib.hid (pt HZ1.out hb); clear hb; clear x0 x1 xl y0 y1 yl u0 u1 ul v0 v1 vl; obtain ⟨⟨x0, x1, xl⟩, ⟨y0, y1, yl⟩, ⟨u0, u1, ul⟩, ⟨v0, v1, vl⟩⟩ := HAll.out _ HZ2.out)
                          | (go_at_call 13; (clear K2); (refine (HC3.out _).mono ?_); rintro e s3 ⟨rfl, hb⟩; have HZ3 := Lib.hid (pt HZ2.out hb); clear hb; clear x0 x1 xl y0 y1 yl u0 u1 ul v0 v1 vl; obtain ⟨⟨x0, x1, xl⟩, ⟨y0, y1, yl⟩, ⟨u0, u1, ul⟩, ⟨v0, v1, vl⟩⟩ := HAll.out _ HZ3.out)
                          | (go_at_call 12; (go_must (refine (HSw.out _).mono ?_)); rintro e s4 ⟨rfl, hb⟩; have HZ4 := Lib.hid (pt HZ3.out hb); clear hb; clear x0 x1 xl y0 y1 yl u0 u1 ul v0 v1 vl; obtain ⟨⟨x0, x1, xl⟩, ⟨y0, y1, yl⟩, ⟨u0, u1, ul⟩, ⟨v0, v1, vl⟩⟩ := HAll.out _ HZ4.out)
                          | (go_at_call 13; (go_must (refine (HC4.out _).mono ?_)); rintro e s5 ⟨rfl, hb⟩; have HZ5 := Lib.hid (pt HZ4.out hb); clear hb))
                        go_ret
                        exact ⟨rfl, HFin.out _ HZ5.out⟩
                      · skip
                        as_aux_lemma =>
                        have hB3 := HM.out.b3 rfl
                        have hM3 := HM.out.m3 rfl rfl
                        dsimp only at hB3 hM3
                        have HSm := Lib.hid (fun W => isSmall_w c1_ c2_ true (by unfold fsmallB withinB; simp; omega) W)
                        obtain ⟨k3, hk3⟩ : ∃ k, cmpV a1 a2 c1_ c2_ = k := ⟨_, rfl⟩
                        have hk3n : k3 ≤ 0 := by rw [← hk3]; exact cmp_le hM3
                        have HC3 := Lib.hid (fun W => Cmp_w a1 a2 c1_ c2_ (by omega) (by omega) (by omega) (by omega) k3 hk3 W)
                        clear hk3 hM3 hB3
                        have K0 := True.intro
                        have K1 := True.intro
                        have K2 := True.intro
                        clear HM hB1
                        as_aux_lemma =>
                        go_wp2_with (first
                          | (go_at_call 12; (clear K0); (refine (HSa.out _).mono ?_); rintro e s1 ⟨rfl, hb⟩; have HZ1 := Lib.hid hb; clear hb; clear x0 x1 xl y0 y1 yl u0 u1 ul v0 v1 vl; obtain ⟨⟨x0, x1, xl⟩, ⟨y0, y1, yl⟩, ⟨u0, u1, ul⟩, ⟨v0, v1, vl⟩⟩ := HAll.out _ HZ1.out)
                          | (go_at_call 12; (clear K1); (refine (HSm.out _).mono ?_); rintro e s2 ⟨rfl, hb⟩; have HZ2 := Lib.hid (pt HZ1.out hb); clear hb; clear x0 x1 xl y0 y1 yl u0 u1 ul v0 v1 vl; obtain ⟨⟨x0, x1, xl⟩, ⟨y0, y1, yl⟩, ⟨u0, u1, ul⟩, ⟨v0, v1, vl⟩⟩ := HAll.out _ HZ2.out)
                          | (go_at_call 13; (clear K2); (refine (HC3.out _).mono ?_); rintro e s3 ⟨rfl, hb⟩; have HZ3 := Lib.hid (pt HZ2.out hb); clear hb; clear x0 x1 xl y0 y1 yl u0 u1 ul v0 v1 vl; obtain ⟨⟨x0, x1, xl⟩, ⟨y0, y1, yl⟩, ⟨u0, u1, ul⟩, ⟨v0, v1, vl⟩⟩ := HAll.out _ HZ3.out))
                        go_ret
                        exact ⟨rfl, HFin.out _ HZ3.out⟩
                    · rcases hE4 with rfl | rfl
                      · skip
                        as_aux_lemma =>
                        have hB4 := HM.out.b4 rfl
                        have hM4 := HM.out.m4 rfl rfl
                        dsimp only at hB4 hM4
                        have HSw := Lib.hid (fun W => isSmall_w e1_ e2_ true (by unfold fsmallB withinB; simp; omega) W)
                        obtain ⟨k4, hk4⟩ : ∃ k, cmpV e1_ e2_ a1 a2 = k := ⟨_, rfl⟩
                        have hk4n : k4 ≤ 0 := by rw [← hk4]; exact cmp_le hM4
                        have HC4 := Lib.hid (fun W => Cmp_w e1_ e2_ a1 a2 (by omega) (by omega) (by omega) (by omega) k4 hk4 W)
                        clear hk4 hM4 hB4
                        have K0 := True.intro
                        have K1 := True.intro
                        have K2 := True.intro
                        clear HM hB1
                        as_aux_lemma =>
                        go_wp2_with (first
                          | (go_at_call 12; (clear K0); (refine (HSa.out _).mono ?_); rintro e s1 ⟨rfl, hb⟩; have HZ1 := Lib.hid hb; clear hb; clear x0 x1 xl y0 y1 yl u0 u1 ul v0 v1 vl; obtain ⟨⟨x0, x1, xl⟩, ⟨y0, y1, yl⟩, ⟨u0, u1, ul⟩, ⟨v0, v1, vl⟩⟩ := HAll.out _ HZ1.out)
                          | (go_at_call 12; (go_must (refine (HSw.out _).mono ?_)); rintro e s4 ⟨rfl, hb⟩; have HZ4 := Lib.hid (pt HZ1.out hb); clear hb; clear x0 x1 xl y0 y1 yl u0 u1 ul v0 v1 vl; obtain ⟨⟨x0, x1, xl⟩, ⟨y0, y1, yl⟩, ⟨u0, u1, ul⟩, ⟨v0, v1, vl⟩⟩ := HAll.out _ HZ4.out)
                          | (go_at_call 13; (go_must (refine (HC4.out _).mono ?_)); rintro e s5 ⟨rfl, hb⟩; have HZ5 := Lib.hid (pt HZ4.out hb); clear hb))
                        go_ret
                        exact ⟨rfl, HFin.out _ HZ5.out⟩
                      · skip
                        as_aux_lemma =>
                        have K0 := True.intro
                        have K1 := True.intro
                        have K2 := True.intro
                        clear HM hB1
                        as_aux_lemma =>
                        go_wp2_with (first
                          | (go_at_call 12; (clear K0); (refine (HSa.out _).mono ?_); rintro e s1 ⟨rfl, hb⟩; have HZ1 := Lib.hid hb; clear hb; clear x0 x1 xl y0 y1 yl u0 u1 ul v0 v1 vl; obtain ⟨⟨x0, x1, xl⟩, ⟨y0, y1, yl⟩, ⟨u0, u1, ul⟩, ⟨v0, v1, vl⟩⟩ := HAll.out _ HZ1.out))
                        go_ret
                        exact ⟨rfl, HFin.out _ HZ1.out⟩
                  · rcases hE3 with rfl | rfl
                    all_goals
                      rcases hE4 with rfl | rfl
                      all_goals
                        as_aux_lemma =>
                        go_wp2
                        go_ret
                        exact ⟨rfl, HFin.out _ pr⟩
end Go.Proofs.Ytapegimghfflhaa
end
