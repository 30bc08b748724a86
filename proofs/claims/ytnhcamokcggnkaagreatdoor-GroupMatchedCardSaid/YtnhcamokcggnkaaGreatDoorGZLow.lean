/- Contracts of the specification: the phasor of a voltage, a winding's hours, the clock number, the winding that gives a clock number. Printed by a program (gen_reflow.py). -/
import Derived.Test.YtnhcamokcggnkaaGreatDoorGVRefAll
import Derived.Test.YtnhcamokcggnkaaGreatDoorHWPhas
import Derived.Test.YtnhcamokcggnkaaGreatDoorGSHours
import Derived.Test.YtnhcamokcggnkaaGreatDoorGMTurns
import Derived.Test.YtnhcamokcggnkaaGreatDoorGCLow
namespace Go.Proofs.YtnhcamokcggnkaaGreatDoor
open Go.RowKit
attribute [local go_sem ↓] Go.wp_at_zero Go.wp_at_succ
attribute [local go_sem] l9_at0 l9_at1 l9_at2

set_option maxHeartbeats 4000000 in
theorem refHoursOf_any (k t s : Int) (r : Bool) (hu : (Wind.mk k t s r).ok) (w : World) :
    Calls Tryz.prog 54 #[.agg #[.int .i64 k, .int .i64 t, .int .i64 s, .bool r]] w fun e w' => e = .returned (.int .i64 (whV k s r)) ∧ Below w.heap.size w w' := by
  obtain ⟨L, hL⟩ : ∃ L, linesV ⟨k, t, s, r⟩ = L := ⟨_, rfl⟩
  have hs := linesV_sm hu
  have hh := lines_hours hu
  rw [hL] at hs hh
  unfold phP phQ at hh
  have HL := Lib.hid (refLines_any k t s r hu L hL)
  have HP := Lib.hid (refPhasor3_any L.x.a L.x.b L.x.c (sm_more hs.1 (by decide)) (sm_more hs.2.1 (by decide)) (sm_more hs.2.2.1 (by decide)))
  have HH := Lib.hid (refHours_any (L.x.a - L.x.b) (L.x.c - L.x.b) (by have := hs.1; have := hs.2.1; unfold Sm at *; omega) (by have := hs.2.1; have := hs.2.2.1; unfold Sm at *; omega))
  rw [hh] at HH
  simp only [Option.getD_some] at HH
  generalize hoursE (L.x.a - L.x.b) (L.x.c - L.x.b) = E at *
  clear hs hh hu hL
  go_enter Tryz.func54, Tryz.ntmps54
  go_wp2_with (first
    | (go_at_call 36; refine (HL.out _).mono ?_; rintro e w1 ⟨rfl, hb1⟩)
    | (go_at_call 59; refine (HP.out _).mono ?_; rintro e w2 ⟨rfl, hb2⟩)
    | (go_at_call 103; refine (HH.out _).mono ?_; rintro e w3 ⟨rfl, hb3⟩))
  go_ret
  exact ⟨rfl, pt (pt (pt (pa pr) hb1) hb2) hb3⟩

set_option maxHeartbeats 4000000 in
set_option maxRecDepth 100000 in
theorem refClock_any (k t s : Int) (r : Bool) (k2 t2 s2 : Int) (r2 : Bool) (n : Int) (hu : (Wind.mk k t s r).ok) (hu2 : (Wind.mk k2 t2 s2 r2).ok) (w : World) :
    Calls Tryz.prog 15 #[.agg #[.int .i64 k, .int .i64 t, .int .i64 s, .bool r, .int .i64 k2, .int .i64 t2, .int .i64 s2, .bool r2, .int .i64 n]] w fun e w' => e = .returned (.int .i64 ((whV k s r - whV k2 s2 r2) % 12)) ∧ Below w.heap.size w w' := by
  have H1 := Lib.hid (refHoursOf_any k t s r hu)
  have H2 := Lib.hid (refHoursOf_any k2 t2 s2 r2 hu2)
  have g1 := wh_range k s r
  have g2 := wh_range k2 s2 r2
  generalize whV k s r = a at *
  generalize whV k2 s2 r2 = b at *
  have HM := Lib.hid (refMod12_any (a - b) (by unfold Sm; omega))
  have hw : IntKind.i64.wrap (a - b) = a - b := IntWalk.i64_in _ (by omega)
  clear hu hu2
  go_enter Tryz.func15, Tryz.ntmps15
  go_wp2
  refine region_below 8 follows_mixed (by kernel_rfl) ?_
  intro C hC
  simp only [List.take_succ_cons, List.take_zero, List.drop_succ_cons, List.drop_zero]
  repeat (first
    | ((with_reducible refine quiet_plain rfl (fun K hK => ?_)); (focus (apply quiet_val; (focus (intro w' hw; obtain ⟨hcq, hfq⟩ := bcell ((hC.out _).1 hw); go_simp; (first | done | rfl | (with_reducible exact call_below hC hw (H1.out _)) | (with_reducible exact call_below hC hw (H2.out _)) | (with_reducible exact call_same hw (HM.out _))))); (simp only [Act.put, List.setIfInBounds_toArray, List.set_cons_succ, List.set_cons_zero]); (with_reducible refine hK _ ?_); clear hK K)))
    | ((with_reducible refine quiet_skip ?_ ?_); (focus (first | (simp [Region.wanted, yielded]; done) | (simp [Region.wanted, yielded, undef]; done))); simp only [Act.put, List.setIfInBounds_toArray, List.set_cons_succ, List.set_cons_zero])
    | ((with_reducible refine quiet_go ?_ (fun K hK => ?_)); (focus (first | (simp [Region.wanted, yielded]; done) | (simp [Region.wanted, yielded, undef]; done))); (focus (apply quiet_val; (focus (intro w' hw; obtain ⟨hcq, hfq⟩ := bcell ((hC.out _).1 hw); go_simp; (first | done | rfl | (with_reducible exact call_below hC hw (H1.out _)) | (with_reducible exact call_below hC hw (H2.out _)) | (with_reducible exact call_same hw (HM.out _))))); (simp only [Act.put, List.setIfInBounds_toArray, List.set_cons_succ, List.set_cons_zero]); (with_reducible refine hK _ ?_); clear hK K))))
  refine wpQuiet_nil ?_
  intro w1 hb1
  replace hb1 := (hC.out _).1 hb1
  clear hC C
  obtain ⟨hc1, hf1⟩ := bcell hb1
  go_wp2
  go_ret
  exact ⟨rfl, pt (pa pr) hb1⟩

def refLowErr (kind n : Int) : Int := firstV [unlessV (withinB kind 0 2) 15, unlessV (withinB n 0 11) 2]
theorem refLowErr_cases (kind n : Int) : (withinB kind 0 2 = false ∧ refLowErr kind n = 15) ∨ (withinB kind 0 2 = true ∧ withinB n 0 11 = false ∧ refLowErr kind n = 2) ∨ (withinB kind 0 2 = true ∧ withinB n 0 11 = true ∧ refLowErr kind n = 0) := by
  unfold refLowErr
  cases withinB kind 0 2 <;> cases withinB n 0 11 <;> simp [firstV, unlessV]

end Go.Proofs.YtnhcamokcggnkaaGreatDoor
