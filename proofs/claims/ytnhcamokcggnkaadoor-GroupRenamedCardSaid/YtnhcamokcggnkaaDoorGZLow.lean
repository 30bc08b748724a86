/- Contracts of the specification: the phasor of a voltage, a winding's hours, the clock number, the winding that gives a clock number. Printed by a program (gen_reflow.py). -/
import Derived.Test.YtnhcamokcggnkaaDoorGVRefAll
import Derived.Test.YtnhcamokcggnkaaDoorHWPhas
import Derived.Test.YtnhcamokcggnkaaDoorGSHours
import Derived.Test.YtnhcamokcggnkaaDoorGMTurns
import Derived.Test.YtnhcamokcggnkaaDoorGCLow
namespace Go.Proofs.YtnhcamokcggnkaaDoor
open Go.RowKit
attribute [local go_sem ↓] Go.wp_at_zero Go.wp_at_succ
attribute [local go_sem] l9_at0 l9_at1 l9_at2

set_option maxHeartbeats 4000000 in
theorem refHoursOf_any (k t s : Int) (r : Bool) (hu : (Wind.mk k t s r).ok) (w : World) :
    Calls Tryd.prog 94 #[.agg #[.int .i64 k, .int .i64 t, .int .i64 s, .bool r]] w fun e w' => e = .returned (.int .i64 (whV k s r)) ∧ Below w.heap.size w w' := by
  obtain ⟨L, hL⟩ : ∃ L, linesV ⟨k, t, s, r⟩ = L := ⟨_, rfl⟩
  have hs := linesV_sm hu
  have hh := lines_hours hu
  rw [hL] at hs hh
  unfold phP phQ at hh
  have HL := Lib.hid (refLines_any k t s r hu L hL)
  have HP := Lib.hid (refPhasor3_any L.x.a L.x.b L.x.c (sm_more hs.1 (by decide)) (sm_more hs.2.1 (by decide)) (sm_more hs.2.2.1 (by decide)))
  have HH := Lib.hid (refHours_any (L.x.a - L.x.b) (L.x.c - L.x.b) (by have := hs.1; have := hs.2.1; unfold Sm at *; omega) (by have := hs.2.1; have := hs.2.2.1; unfold Sm at *; omega))
  rw [hh] at HH
  simp only [Option.getD_some] at HH
  generalize hoursE (L.x.a - L.x.b) (L.x.c - L.x.b) = E at *
  clear hs hh hu hL
  go_enter Tryd.func94, Tryd.ntmps94
  go_wp2_with (first
    | (go_at_call 20; refine (HL.out _).mono ?_; rintro e w1 ⟨rfl, hb1⟩)
    | (go_at_call 44; refine (HP.out _).mono ?_; rintro e w2 ⟨rfl, hb2⟩)
    | (go_at_call 26; refine (HH.out _).mono ?_; rintro e w3 ⟨rfl, hb3⟩))
  go_ret
  exact ⟨rfl, pt (pt (pt (pa pr) hb1) hb2) hb3⟩

set_option maxHeartbeats 4000000 in
set_option maxRecDepth 100000 in
theorem refClock_any (k t s : Int) (r : Bool) (k2 t2 s2 : Int) (r2 : Bool) (n : Int) (hu : (Wind.mk k t s r).ok) (hu2 : (Wind.mk k2 t2 s2 r2).ok) (w : World) :
    Calls Tryd.prog 61 #[.agg #[.int .i64 k, .int .i64 t, .int .i64 s, .bool r, .int .i64 k2, .int .i64 t2, .int .i64 s2, .bool r2, .int .i64 n]] w fun e w' => e = .returned (.int .i64 ((whV k s r - whV k2 s2 r2) % 12)) ∧ Below w.heap.size w w' := by
  have H1 := Lib.hid (refHoursOf_any k t s r hu)
  have H2 := Lib.hid (refHoursOf_any k2 t2 s2 r2 hu2)
  have g1 := wh_range k s r
  have g2 := wh_range k2 s2 r2
  generalize whV k s r = a at *
  generalize whV k2 s2 r2 = b at *
  have HM := Lib.hid (refMod12_any (a - b) (by unfold Sm; omega))
  have hw : IntKind.i64.wrap (a - b) = a - b := IntWalk.i64_in _ (by omega)
  clear hu hu2
  go_enter Tryd.func61, Tryd.ntmps61
  go_wp2
  refine region_below 8 follows_mixed (by kernel_rfl) ?_
  intro C hC
  simp only [List.take_succ_cons, List.take_zero, List.drop_succ_cons, List.drop_zero]
  repeat (first
    | ((with_reducible refine quiet_plain rfl (fun K hK => ?_)); (focus (apply quiet_val; (focus (intro w' hw; obtain ⟨hcq, hfq⟩ := bcell ((hC.out _).1 hw); go_simp; (first | done | rfl | (with_reducible exact call_below hC hw (H1.out _)) | (with_reducible exact call_below hC hw (H2.out _)) | (with_reducible exact call_same hw (HM.out _))))); (simp only [Act.put, List.setIfInBounds_toArray, List.set_cons_succ, List.set_cons_zero]); (with_reducible refine hK _ ?_); clear hK K)))
    | ((with_reducible refine quiet_skip ?_ ?_); (focus (first | (simp [Region.wanted, yielded]; done) | (simp [Region.wanted, yielded, undef]; done))); simp only [Act.put, List.setIfInBounds_toArray, List.set_cons_succ, List.set_cons_zero])
    | ((with_reducible refine quiet_go ?_ (fun K hK => ?_)); (focus (first | (simp [Region.wanted, yielded]; done) | (simp [Region.wanted, yielded, undef]; done))); (focus (apply quiet_val; (focus (intro w' hw; obtain ⟨hcq, hfq⟩ := bcell ((hC.out _).1 hw); go_simp; (first | done | rfl | (with_reducible exact call_below hC hw (H1.out _)) | (with_reducible exact call_below hC hw (H2.out _)) | (with_reducible exact call_same hw (HM.out _))))); (simp only [Act.put, List.setIfInBounds_toArray, List.set_cons_succ, List.set_cons_zero]); (with_reducible refine hK _ ?_); clear hK K))))
  refine wpQuiet_nil ?_
  intro w1 hb1
  replace hb1 := (hC.out _).1 hb1
  clear hC C
  obtain ⟨hc1, hf1⟩ := bcell hb1
  go_wp2
  go_ret
  exact ⟨rfl, pt (pa pr) hb1⟩

def refLowErr (kind n : Int) : Int := firstV [unlessV (withinB kind 0 2) 15, unlessV (withinB n 0 11) 2]
theorem refLowErr_cases (kind n : Int) : (withinB kind 0 2 = false ∧ refLowErr kind n = 15) ∨ (withinB kind 0 2 = true ∧ withinB n 0 11 = false ∧ refLowErr kind n = 2) ∨ (withinB kind 0 2 = true ∧ withinB n 0 11 = true ∧ refLowErr kind n = 0) := by
  unfold refLowErr
  cases withinB kind 0 2 <;> cases withinB n 0 11 <;> simp [firstV, unlessV]

set_option maxHeartbeats 4000000 in
theorem refLowFor_err (k t s : Int) (r : Bool) (kind n : Int) (he : refLowErr kind n ≠ 0) (w : World) :
    Calls Tryd.prog 14 #[.agg #[.int .i64 k, .int .i64 t, .int .i64 s, .bool r], .int .i64 kind, .int .i64 n] w fun e w' => e = .returned (.tuple #[.agg #[.int .i64 0, .int .i64 0, .int .i64 0, .bool false], .int .i64 (refLowErr kind n)]) ∧ Below w.heap.size w w' := by
  have C1 := Lib.hid (refWithin_any kind 0 2)
  have C2 := Lib.hid (refWithin_any n 0 11)
  have hc := refLowErr_cases kind n
  generalize refLowErr kind n = E at *
  generalize withinB kind 0 2 = a at *
  generalize withinB n 0 11 = b at *
  rcases hc with ⟨rfl, rfl⟩ | ⟨rfl, rfl, rfl⟩ | ⟨_, _, rfl⟩
  · go_enter Tryd.func14, Tryd.ntmps14
    go_wp2_with (go_at_call 32; (first | (with_reducible refine (C1.out _).mono ?_) | (with_reducible refine (C2.out _).mono ?_)); rintro e w' ⟨rfl, rfl⟩)
    exact bodyPost_ret (v := .tuple #[.agg #[.int .i64 0, .int .i64 0, .int .i64 0, .bool false], .int .i64 15]) (by simp [results, Tryd.results14, go_sem]) rfl ⟨rfl, by repeat (first | exact pr | refine pa ?_ | refine ps ?_ (by first | (simp; done) | (simp; omega)))⟩
  · go_enter Tryd.func14, Tryd.ntmps14
    go_wp2_with (go_at_call 32; (first | (with_reducible refine (C1.out _).mono ?_) | (with_reducible refine (C2.out _).mono ?_)); rintro e w' ⟨rfl, rfl⟩)
    exact bodyPost_ret (v := .tuple #[.agg #[.int .i64 0, .int .i64 0, .int .i64 0, .bool false], .int .i64 2]) (by simp [results, Tryd.results14, go_sem]) rfl ⟨rfl, by repeat (first | exact pr | refine pa ?_ | refine ps ?_ (by first | (simp; done) | (simp; omega)))⟩
  · exact absurd rfl he

set_option maxHeartbeats 16000000 in
set_option maxRecDepth 100000 in
theorem refLowFor_ok (k t s : Int) (r : Bool) (kind n : Int) (hu : (Wind.mk k t s r).ok) (he : refLowErr kind n = 0) (w : World) :
    Calls Tryd.prog 14 #[.agg #[.int .i64 k, .int .i64 t, .int .i64 s, .bool r], .int .i64 kind, .int .i64 n] w fun e w' => e = .returned (lowRes t kind (lowV (whV k s r) kind n)) ∧ Below w.heap.size w w' := by
  have C1 := Lib.hid (refWithin_any kind 0 2)
  have C2 := Lib.hid (refWithin_any n 0 11)
  have hc := refLowErr_cases kind n
  have hkk : withinB kind 0 2 = true ∧ withinB n 0 11 = true := by
    rcases hc with ⟨_, h⟩ | ⟨_, _, h⟩ | ⟨h1, h2, _⟩
    · omega
    · omega
    · exact ⟨h1, h2⟩
  have hk := hkk.1
  simp only [withinB, Bool.and_eq_true, decide_eq_true_eq] at hk
  rw [hkk.1] at C1
  rw [hkk.2] at C2
  have hv : ∀ sh rv, 0 ≤ sh → sh ≤ 2 → (Wind.mk kind t sh rv).ok := fun sh rv h1 h2 => ⟨hk.1, hk.2, hu.2.2.1, hu.2.2.2.1, h1, h2⟩
  have hR := lowV_R (whV k s r) kind n
  generalize lowV (whV k s r) kind n = X at *
  have K1 := Lib.hid (fun w => refClock_any k t s r kind t 0 false 0 hu (hv 0 false (by decide) (by decide)) w)
  have K2 := Lib.hid (fun w => refClock_any k t s r kind t 1 false 0 hu (hv 1 false (by decide) (by decide)) w)
  have K3 := Lib.hid (fun w => refClock_any k t s r kind t 2 false 0 hu (hv 2 false (by decide) (by decide)) w)
  have K4 := Lib.hid (fun w => refClock_any k t s r kind t 0 true 0 hu (hv 0 true (by decide) (by decide)) w)
  have K5 := Lib.hid (fun w => refClock_any k t s r kind t 1 true 0 hu (hv 1 true (by decide) (by decide)) w)
  have K6 := Lib.hid (fun w => refClock_any k t s r kind t 2 true 0 hu (hv 2 true (by decide) (by decide)) w)
  generalize (whV k s r - whV kind 0 false) % 12 = c1 at *
  generalize (whV k s r - whV kind 1 false) % 12 = c2 at *
  generalize (whV k s r - whV kind 2 false) % 12 = c3 at *
  generalize (whV k s r - whV kind 0 true) % 12 = c4 at *
  generalize (whV k s r - whV kind 1 true) % 12 = c5 at *
  generalize (whV k s r - whV kind 2 true) % 12 = c6 at *
  have HR := Lib.hid hR
  clear hR hu hk hkk hv he hc
  go_enter Tryd.func14, Tryd.ntmps14
  go_wp2_with (go_at_call 32; (first | (with_reducible refine (C1.out _).mono ?_) | (with_reducible refine (C2.out _).mono ?_)); rintro e w' ⟨rfl, rfl⟩)
  have P0 : Blk (((w.alloc (.cells #[.int .i64 k, .int .i64 t, .int .i64 s, .bool r] 23)).alloc (.cells #[.int .i64 0, .int .i64 0, .int .i64 0, .bool false] 23)).alloc (.cells #[.int .i64 0, .int .i64 0, .int .i64 0, .bool false] 23)) w.heap.size 23 #[.int .i64 k, .int .i64 t, .int .i64 s, .bool r] := (Blk.newAt rfl).alloc.alloc
  have R0 : Blk (((w.alloc (.cells #[.int .i64 k, .int .i64 t, .int .i64 s, .bool r] 23)).alloc (.cells #[.int .i64 0, .int .i64 0, .int .i64 0, .bool false] 23)).alloc (.cells #[.int .i64 0, .int .i64 0, .int .i64 0, .bool false] 23)) (w.heap.size + 1) 23 #[.int .i64 0, .int .i64 0, .int .i64 0, .bool false] := (Blk.newAt (by simp)).alloc
  have N0 : Blk (((w.alloc (.cells #[.int .i64 k, .int .i64 t, .int .i64 s, .bool r] 23)).alloc (.cells #[.int .i64 0, .int .i64 0, .int .i64 0, .bool false] 23)).alloc (.cells #[.int .i64 0, .int .i64 0, .int .i64 0, .bool false] 23)) (w.heap.size + 1 + 1) 23 #[.int .i64 0, .int .i64 0, .int .i64 0, .bool false] := Blk.newAt (by simp)
  have S0 : Below w.heap.size w (((w.alloc (.cells #[.int .i64 k, .int .i64 t, .int .i64 s, .bool r] 23)).alloc (.cells #[.int .i64 0, .int .i64 0, .int .i64 0, .bool false] 23)).alloc (.cells #[.int .i64 0, .int .i64 0, .int .i64 0, .bool false] 23)) := pa (pa (pa pr))
  generalize ((w.alloc (.cells #[.int .i64 k, .int .i64 t, .int .i64 s, .bool r] 23)).alloc (.cells #[.int .i64 0, .int .i64 0, .int .i64 0, .bool false] 23)).alloc (.cells #[.int .i64 0, .int .i64 0, .int .i64 0, .bool false] 23) = v0 at *
  have p0 := P0.cellAt 0 rfl; have p1 := P0.cellAt 1 rfl; have p2 := P0.cellAt 2 rfl; have p3 := P0.cellAt 3 rfl; have pl := P0.lt
  refine wp_loop_rounds 7 ?_
  rw [rounds_succ]
  cases b1 : (c1 == n)
  · skip
    go_wp2_with (go_at_call 61; refine (K1.out _).mono ?_; rintro e w1 ⟨rfl, hb1⟩; have P1 := P0.alloc.past hb1; have R1 := R0.alloc.past hb1; have N1 := N0.alloc.past hb1; have L1 : Blk w1 _ 23 #[.int .i64 kind, .int .i64 t, .int .i64 0, .bool false] := (Blk.new _ _ _).past hb1; have S1 := pt (pa S0) hb1; clear p0 p1 p2 p3 pl; have l0 := L1.cellAt 0 rfl; have l1 := L1.cellAt 1 rfl; have l2 := L1.cellAt 2 rfl; have l3 := L1.cellAt 3 rfl; have ll := L1.lt; have p0 := P1.cellAt 0 rfl; have p1 := P1.cellAt 1 rfl; have p2 := P1.cellAt 2 rfl; have p3 := P1.cellAt 3 rfl; have pl := P1.lt; have r0 := R1.cellAt 0 rfl; have r1 := R1.cellAt 1 rfl; have r2 := R1.cellAt 2 rfl; have r3 := R1.cellAt 3 rfl; have s0 := R1.frozen 0; have s1 := R1.frozen 1; have s2 := R1.frozen 2; have s3 := R1.frozen 3; have rl := R1.lt)
    clear P0 R0 N0 S0 l0 l1 l2 l3 ll L1 r0 r1 r2 r3 s0 s1 s2 s3 rl hb1
    rw [rounds_succ]
    cases b2 : (c2 == n)
    · skip
      go_wp2_with (go_at_call 61; refine (K2.out _).mono ?_; rintro e w2 ⟨rfl, hb2⟩; have P2 := P1.alloc.past hb2; have R2 := R1.alloc.past hb2; have N2 := N1.alloc.past hb2; have L2 : Blk w2 _ 23 #[.int .i64 kind, .int .i64 t, .int .i64 1, .bool false] := (Blk.new _ _ _).past hb2; have S2 := pt (pa S1) hb2; clear p0 p1 p2 p3 pl; have l0 := L2.cellAt 0 rfl; have l1 := L2.cellAt 1 rfl; have l2 := L2.cellAt 2 rfl; have l3 := L2.cellAt 3 rfl; have ll := L2.lt; have p0 := P2.cellAt 0 rfl; have p1 := P2.cellAt 1 rfl; have p2 := P2.cellAt 2 rfl; have p3 := P2.cellAt 3 rfl; have pl := P2.lt; have r0 := R2.cellAt 0 rfl; have r1 := R2.cellAt 1 rfl; have r2 := R2.cellAt 2 rfl; have r3 := R2.cellAt 3 rfl; have s0 := R2.frozen 0; have s1 := R2.frozen 1; have s2 := R2.frozen 2; have s3 := R2.frozen 3; have rl := R2.lt)
      clear P1 R1 N1 S1 l0 l1 l2 l3 ll L2 r0 r1 r2 r3 s0 s1 s2 s3 rl hb2
      rw [rounds_succ]
      cases b3 : (c3 == n)
      · skip
        go_wp2_with (go_at_call 61; refine (K3.out _).mono ?_; rintro e w3 ⟨rfl, hb3⟩; have P3 := P2.alloc.past hb3; have R3 := R2.alloc.past hb3; have N3 := N2.alloc.past hb3; have L3 : Blk w3 _ 23 #[.int .i64 kind, .int .i64 t, .int .i64 2, .bool false] := (Blk.new _ _ _).past hb3; have S3 := pt (pa S2) hb3; clear p0 p1 p2 p3 pl; have l0 := L3.cellAt 0 rfl; have l1 := L3.cellAt 1 rfl; have l2 := L3.cellAt 2 rfl; have l3 := L3.cellAt 3 rfl; have ll := L3.lt; have p0 := P3.cellAt 0 rfl; have p1 := P3.cellAt 1 rfl; have p2 := P3.cellAt 2 rfl; have p3 := P3.cellAt 3 rfl; have pl := P3.lt; have r0 := R3.cellAt 0 rfl; have r1 := R3.cellAt 1 rfl; have r2 := R3.cellAt 2 rfl; have r3 := R3.cellAt 3 rfl; have s0 := R3.frozen 0; have s1 := R3.frozen 1; have s2 := R3.frozen 2; have s3 := R3.frozen 3; have rl := R3.lt)
        clear P2 R2 N2 S2 l0 l1 l2 l3 ll L3 r0 r1 r2 r3 s0 s1 s2 s3 rl hb3
        rw [rounds_succ]
        cases b4 : (c4 == n)
        · skip
          go_wp2_with (go_at_call 61; refine (K4.out _).mono ?_; rintro e w4 ⟨rfl, hb4⟩; have P4 := P3.alloc.past hb4; have R4 := R3.alloc.past hb4; have N4 := N3.alloc.past hb4; have L4 : Blk w4 _ 23 #[.int .i64 kind, .int .i64 t, .int .i64 0, .bool true] := (Blk.new _ _ _).past hb4; have S4 := pt (pa S3) hb4; clear p0 p1 p2 p3 pl; have l0 := L4.cellAt 0 rfl; have l1 := L4.cellAt 1 rfl; have l2 := L4.cellAt 2 rfl; have l3 := L4.cellAt 3 rfl; have ll := L4.lt; have p0 := P4.cellAt 0 rfl; have p1 := P4.cellAt 1 rfl; have p2 := P4.cellAt 2 rfl; have p3 := P4.cellAt 3 rfl; have pl := P4.lt; have r0 := R4.cellAt 0 rfl; have r1 := R4.cellAt 1 rfl; have r2 := R4.cellAt 2 rfl; have r3 := R4.cellAt 3 rfl; have s0 := R4.frozen 0; have s1 := R4.frozen 1; have s2 := R4.frozen 2; have s3 := R4.frozen 3; have rl := R4.lt)
          clear P3 R3 N3 S3 l0 l1 l2 l3 ll L4 r0 r1 r2 r3 s0 s1 s2 s3 rl hb4
          rw [rounds_succ]
          cases b5 : (c5 == n)
          · skip
            go_wp2_with (go_at_call 61; refine (K5.out _).mono ?_; rintro e w5 ⟨rfl, hb5⟩; have P5 := P4.alloc.past hb5; have R5 := R4.alloc.past hb5; have N5 := N4.alloc.past hb5; have L5 : Blk w5 _ 23 #[.int .i64 kind, .int .i64 t, .int .i64 1, .bool true] := (Blk.new _ _ _).past hb5; have S5 := pt (pa S4) hb5; clear p0 p1 p2 p3 pl; have l0 := L5.cellAt 0 rfl; have l1 := L5.cellAt 1 rfl; have l2 := L5.cellAt 2 rfl; have l3 := L5.cellAt 3 rfl; have ll := L5.lt; have p0 := P5.cellAt 0 rfl; have p1 := P5.cellAt 1 rfl; have p2 := P5.cellAt 2 rfl; have p3 := P5.cellAt 3 rfl; have pl := P5.lt; have r0 := R5.cellAt 0 rfl; have r1 := R5.cellAt 1 rfl; have r2 := R5.cellAt 2 rfl; have r3 := R5.cellAt 3 rfl; have s0 := R5.frozen 0; have s1 := R5.frozen 1; have s2 := R5.frozen 2; have s3 := R5.frozen 3; have rl := R5.lt)
            clear P4 R4 N4 S4 l0 l1 l2 l3 ll L5 r0 r1 r2 r3 s0 s1 s2 s3 rl hb5
            rw [rounds_succ]
            cases b6 : (c6 == n)
            · skip
              go_wp2_with (go_at_call 61; refine (K6.out _).mono ?_; rintro e w6 ⟨rfl, hb6⟩; have P6 := P5.alloc.past hb6; have R6 := R5.alloc.past hb6; have N6 := N5.alloc.past hb6; have L6 : Blk w6 _ 23 #[.int .i64 kind, .int .i64 t, .int .i64 2, .bool true] := (Blk.new _ _ _).past hb6; have S6 := pt (pa S5) hb6; clear p0 p1 p2 p3 pl; have l0 := L6.cellAt 0 rfl; have l1 := L6.cellAt 1 rfl; have l2 := L6.cellAt 2 rfl; have l3 := L6.cellAt 3 rfl; have ll := L6.lt; have p0 := P6.cellAt 0 rfl; have p1 := P6.cellAt 1 rfl; have p2 := P6.cellAt 2 rfl; have p3 := P6.cellAt 3 rfl; have pl := P6.lt; have r0 := R6.cellAt 0 rfl; have r1 := R6.cellAt 1 rfl; have r2 := R6.cellAt 2 rfl; have r3 := R6.cellAt 3 rfl; have s0 := R6.frozen 0; have s1 := R6.frozen 1; have s2 := R6.frozen 2; have s3 := R6.frozen 3; have rl := R6.lt)
              clear P5 R5 N5 S5 l0 l1 l2 l3 ll L6 r0 r1 r2 r3 s0 s1 s2 s3 rl hb6
              have r0 := R6.cellAt 0 rfl; have r1 := R6.cellAt 1 rfl; have r2 := R6.cellAt 2 rfl; have r3 := R6.cellAt 3 rfl; have s0 := R6.frozen 0; have s1 := R6.frozen 1; have s2 := R6.frozen 2; have s3 := R6.frozen 3; have rl := R6.lt
              have l0 := N6.cellAt 0 rfl; have l1 := N6.cellAt 1 rfl; have l2 := N6.cellAt 2 rfl; have l3 := N6.cellAt 3 rfl; have ll := N6.lt
              rw [rounds_succ]
              go_wp2
              have HX : X = none := by rw [HR.out]; simp [lowR, b1, b2, b3, b4, b5, b6]
              rw [HX]
              exact bodyPost_ret (v := lowRes t kind (none)) (by simp [lowRes, results, Tryd.results14, go_sem, r0, r1, r2, r3, s0, s1, s2, s3, rl]) rfl ⟨rfl, by repeat (first | exact S6 | refine pa ?_ | refine ps ?_ (by first | (simp; done) | (simp; omega)) | refine pd ?_)⟩
            · skip
              go_wp2_with (go_at_call 61; refine (K6.out _).mono ?_; rintro e w6 ⟨rfl, hb6⟩; have P6 := P5.alloc.past hb6; have R6 := R5.alloc.past hb6; have N6 := N5.alloc.past hb6; have L6 : Blk w6 _ 23 #[.int .i64 kind, .int .i64 t, .int .i64 2, .bool true] := (Blk.new _ _ _).past hb6; have S6 := pt (pa S5) hb6; clear p0 p1 p2 p3 pl; have l0 := L6.cellAt 0 rfl; have l1 := L6.cellAt 1 rfl; have l2 := L6.cellAt 2 rfl; have l3 := L6.cellAt 3 rfl; have ll := L6.lt; have p0 := P6.cellAt 0 rfl; have p1 := P6.cellAt 1 rfl; have p2 := P6.cellAt 2 rfl; have p3 := P6.cellAt 3 rfl; have pl := P6.lt; have r0 := R6.cellAt 0 rfl; have r1 := R6.cellAt 1 rfl; have r2 := R6.cellAt 2 rfl; have r3 := R6.cellAt 3 rfl; have s0 := R6.frozen 0; have s1 := R6.frozen 1; have s2 := R6.frozen 2; have s3 := R6.frozen 3; have rl := R6.lt)
              have HX : X = some (2, true) := by rw [HR.out]; simp [lowR, b1, b2, b3, b4, b5, b6]
              rw [HX]
              exact bodyPost_ret (v := lowRes t kind (some (2, true))) (by simp [lowRes, results, Tryd.results14, go_sem, r0, r1, r2, r3, s0, s1, s2, s3, rl]) rfl ⟨rfl, by repeat (first | exact S6 | refine pa ?_ | refine ps ?_ (by first | (simp; done) | (simp; omega)) | refine pd ?_)⟩
          · skip
            go_wp2_with (go_at_call 61; refine (K5.out _).mono ?_; rintro e w5 ⟨rfl, hb5⟩; have P5 := P4.alloc.past hb5; have R5 := R4.alloc.past hb5; have N5 := N4.alloc.past hb5; have L5 : Blk w5 _ 23 #[.int .i64 kind, .int .i64 t, .int .i64 1, .bool true] := (Blk.new _ _ _).past hb5; have S5 := pt (pa S4) hb5; clear p0 p1 p2 p3 pl; have l0 := L5.cellAt 0 rfl; have l1 := L5.cellAt 1 rfl; have l2 := L5.cellAt 2 rfl; have l3 := L5.cellAt 3 rfl; have ll := L5.lt; have p0 := P5.cellAt 0 rfl; have p1 := P5.cellAt 1 rfl; have p2 := P5.cellAt 2 rfl; have p3 := P5.cellAt 3 rfl; have pl := P5.lt; have r0 := R5.cellAt 0 rfl; have r1 := R5.cellAt 1 rfl; have r2 := R5.cellAt 2 rfl; have r3 := R5.cellAt 3 rfl; have s0 := R5.frozen 0; have s1 := R5.frozen 1; have s2 := R5.frozen 2; have s3 := R5.frozen 3; have rl := R5.lt)
            have HX : X = some (1, true) := by rw [HR.out]; simp [lowR, b1, b2, b3, b4, b5]
            rw [HX]
            exact bodyPost_ret (v := lowRes t kind (some (1, true))) (by simp [lowRes, results, Tryd.results14, go_sem, r0, r1, r2, r3, s0, s1, s2, s3, rl]) rfl ⟨rfl, by repeat (first | exact S5 | refine pa ?_ | refine ps ?_ (by first | (simp; done) | (simp; omega)) | refine pd ?_)⟩
        · skip
          go_wp2_with (go_at_call 61; refine (K4.out _).mono ?_; rintro e w4 ⟨rfl, hb4⟩; have P4 := P3.alloc.past hb4; have R4 := R3.alloc.past hb4; have N4 := N3.alloc.past hb4; have L4 : Blk w4 _ 23 #[.int .i64 kind, .int .i64 t, .int .i64 0, .bool true] := (Blk.new _ _ _).past hb4; have S4 := pt (pa S3) hb4; clear p0 p1 p2 p3 pl; have l0 := L4.cellAt 0 rfl; have l1 := L4.cellAt 1 rfl; have l2 := L4.cellAt 2 rfl; have l3 := L4.cellAt 3 rfl; have ll := L4.lt; have p0 := P4.cellAt 0 rfl; have p1 := P4.cellAt 1 rfl; have p2 := P4.cellAt 2 rfl; have p3 := P4.cellAt 3 rfl; have pl := P4.lt; have r0 := R4.cellAt 0 rfl; have r1 := R4.cellAt 1 rfl; have r2 := R4.cellAt 2 rfl; have r3 := R4.cellAt 3 rfl; have s0 := R4.frozen 0; have s1 := R4.frozen 1; have s2 := R4.frozen 2; have s3 := R4.frozen 3; have rl := R4.lt)
          have HX : X = some (0, true) := by rw [HR.out]; simp [lowR, b1, b2, b3, b4]
          rw [HX]
          exact bodyPost_ret (v := lowRes t kind (some (0, true))) (by simp [lowRes, results, Tryd.results14, go_sem, r0, r1, r2, r3, s0, s1, s2, s3, rl]) rfl ⟨rfl, by repeat (first | exact S4 | refine pa ?_ | refine ps ?_ (by first | (simp; done) | (simp; omega)) | refine pd ?_)⟩
      · skip
        go_wp2_with (go_at_call 61; refine (K3.out _).mono ?_; rintro e w3 ⟨rfl, hb3⟩; have P3 := P2.alloc.past hb3; have R3 := R2.alloc.past hb3; have N3 := N2.alloc.past hb3; have L3 : Blk w3 _ 23 #[.int .i64 kind, .int .i64 t, .int .i64 2, .bool false] := (Blk.new _ _ _).past hb3; have S3 := pt (pa S2) hb3; clear p0 p1 p2 p3 pl; have l0 := L3.cellAt 0 rfl; have l1 := L3.cellAt 1 rfl; have l2 := L3.cellAt 2 rfl; have l3 := L3.cellAt 3 rfl; have ll := L3.lt; have p0 := P3.cellAt 0 rfl; have p1 := P3.cellAt 1 rfl; have p2 := P3.cellAt 2 rfl; have p3 := P3.cellAt 3 rfl; have pl := P3.lt; have r0 := R3.cellAt 0 rfl; have r1 := R3.cellAt 1 rfl; have r2 := R3.cellAt 2 rfl; have r3 := R3.cellAt 3 rfl; have s0 := R3.frozen 0; have s1 := R3.frozen 1; have s2 := R3.frozen 2; have s3 := R3.frozen 3; have rl := R3.lt)
        have HX : X = some (2, false) := by rw [HR.out]; simp [lowR, b1, b2, b3]
        rw [HX]
        exact bodyPost_ret (v := lowRes t kind (some (2, false))) (by simp [lowRes, results, Tryd.results14, go_sem, r0, r1, r2, r3, s0, s1, s2, s3, rl]) rfl ⟨rfl, by repeat (first | exact S3 | refine pa ?_ | refine ps ?_ (by first | (simp; done) | (simp; omega)) | refine pd ?_)⟩
    · skip
      go_wp2_with (go_at_call 61; refine (K2.out _).mono ?_; rintro e w2 ⟨rfl, hb2⟩; have P2 := P1.alloc.past hb2; have R2 := R1.alloc.past hb2; have N2 := N1.alloc.past hb2; have L2 : Blk w2 _ 23 #[.int .i64 kind, .int .i64 t, .int .i64 1, .bool false] := (Blk.new _ _ _).past hb2; have S2 := pt (pa S1) hb2; clear p0 p1 p2 p3 pl; have l0 := L2.cellAt 0 rfl; have l1 := L2.cellAt 1 rfl; have l2 := L2.cellAt 2 rfl; have l3 := L2.cellAt 3 rfl; have ll := L2.lt; have p0 := P2.cellAt 0 rfl; have p1 := P2.cellAt 1 rfl; have p2 := P2.cellAt 2 rfl; have p3 := P2.cellAt 3 rfl; have pl := P2.lt; have r0 := R2.cellAt 0 rfl; have r1 := R2.cellAt 1 rfl; have r2 := R2.cellAt 2 rfl; have r3 := R2.cellAt 3 rfl; have s0 := R2.frozen 0; have s1 := R2.frozen 1; have s2 := R2.frozen 2; have s3 := R2.frozen 3; have rl := R2.lt)
      have HX : X = some (1, false) := by rw [HR.out]; simp [lowR, b1, b2]
      rw [HX]
      exact bodyPost_ret (v := lowRes t kind (some (1, false))) (by simp [lowRes, results, Tryd.results14, go_sem, r0, r1, r2, r3, s0, s1, s2, s3, rl]) rfl ⟨rfl, by repeat (first | exact S2 | refine pa ?_ | refine ps ?_ (by first | (simp; done) | (simp; omega)) | refine pd ?_)⟩
  · skip
    go_wp2_with (go_at_call 61; refine (K1.out _).mono ?_; rintro e w1 ⟨rfl, hb1⟩; have P1 := P0.alloc.past hb1; have R1 := R0.alloc.past hb1; have N1 := N0.alloc.past hb1; have L1 : Blk w1 _ 23 #[.int .i64 kind, .int .i64 t, .int .i64 0, .bool false] := (Blk.new _ _ _).past hb1; have S1 := pt (pa S0) hb1; clear p0 p1 p2 p3 pl; have l0 := L1.cellAt 0 rfl; have l1 := L1.cellAt 1 rfl; have l2 := L1.cellAt 2 rfl; have l3 := L1.cellAt 3 rfl; have ll := L1.lt; have p0 := P1.cellAt 0 rfl; have p1 := P1.cellAt 1 rfl; have p2 := P1.cellAt 2 rfl; have p3 := P1.cellAt 3 rfl; have pl := P1.lt; have r0 := R1.cellAt 0 rfl; have r1 := R1.cellAt 1 rfl; have r2 := R1.cellAt 2 rfl; have r3 := R1.cellAt 3 rfl; have s0 := R1.frozen 0; have s1 := R1.frozen 1; have s2 := R1.frozen 2; have s3 := R1.frozen 3; have rl := R1.lt)
    have HX : X = some (0, false) := by rw [HR.out]; simp [lowR, b1]
    rw [HX]
    exact bodyPost_ret (v := lowRes t kind (some (0, false))) (by simp [lowRes, results, Tryd.results14, go_sem, r0, r1, r2, r3, s0, s1, s2, s3, rl]) rfl ⟨rfl, by repeat (first | exact S1 | refine pa ?_ | refine ps ?_ (by first | (simp; done) | (simp; omega)) | refine pd ?_)⟩

end Go.Proofs.YtnhcamokcggnkaaDoor
