/- Contracts: the hour of a winding's lines; the clock number. -/
import Derived.Test.YtpdkbhjcpddnpaaDoorG7LinesAll
import Derived.Test.YtpdkbhjcpddnpaaDoorGALines
namespace Go.Proofs.YtpdkbhjcpddnpaaDoor
open Go.RowKit
attribute [local go_sem ↓] Go.wp_at_zero Go.wp_at_succ

theorem sm_more {m m' n : Int} (h : Sm m n) (hm : m ≤ m') : Sm m' n := by unfold Sm at *; omega

theorem lineHour_any (k t s : Int) (r : Bool) (hu : (Wind.mk k t s r).ok) (L : L3) (hL : linesV ⟨k, t, s, r⟩ = L) (w : World) (hT : TwIn w) :
    Calls Tryd.prog 61 #[.agg #[.int .i64 L.x.a, .int .i64 L.x.b, .int .i64 L.x.c, .int .i64 L.y.a, .int .i64 L.y.b, .int .i64 L.y.c, .int .i64 L.z.a, .int .i64 L.z.b, .int .i64 L.z.c]] w fun e w' => e = .returned (.int .i64 (whV k s r)) ∧ Below w.heap.size w w' := by
  subst hL
  have h := linesV_sm hu
  refine (hourOf_any _ _ _ _ _ _ _ _ _ (sm_more h.1 (by decide)) (sm_more h.2.1 (by decide)) (sm_more h.2.2.1 (by decide)) w hT).mono ?_
  rintro e w' ⟨rfl, hb⟩
  refine ⟨ret_int ?_, hb⟩
  have e := lines_hours hu
  unfold phP phQ at e
  rw [e]
  rfl

theorem lines_any (k t s : Int) (r : Bool) (hu : (Wind.mk k t s r).ok) (L : L3) (hL : linesV ⟨k, t, s, r⟩ = L) (w : World) (hP : PatIn w) :
    Calls Tryd.prog 33 #[.agg #[.int .i64 k, .int .i64 t, .int .i64 s, .bool r]] w fun e w' => e = .returned (.agg #[.int .i64 L.x.a, .int .i64 L.x.b, .int .i64 L.x.c, .int .i64 L.y.a, .int .i64 L.y.b, .int .i64 L.y.c, .int .i64 L.z.a, .int .i64 L.z.b, .int .i64 L.z.c]) ∧ Below w.heap.size w w' := by
  subst hL
  exact linesOf_any k t s r hu w hP

set_option maxHeartbeats 4000000 in
set_option maxRecDepth 100000 in
theorem clock_any (k t s : Int) (r : Bool) (k2 t2 s2 : Int) (r2 : Bool) (n : Int) (hu : (Wind.mk k t s r).ok) (hu2 : (Wind.mk k2 t2 s2 r2).ok) (w : World) (hT : TwIn w) (hP : PatIn w) :
    Calls Tryd.prog 38 #[.agg #[.int .i64 k, .int .i64 t, .int .i64 s, .bool r, .int .i64 k2, .int .i64 t2, .int .i64 s2, .bool r2, .int .i64 n]] w fun e w' => e = .returned (.int .i64 ((whV k s r - whV k2 s2 r2) % 12)) ∧ Below w.heap.size w w' := by
  obtain ⟨L, hL⟩ : ∃ L, linesV ⟨k, t, s, r⟩ = L := ⟨_, rfl⟩
  obtain ⟨M, hM⟩ : ∃ L, linesV ⟨k2, t2, s2, r2⟩ = L := ⟨_, rfl⟩
  have HL1 := Lib.hid (lines_any k t s r hu L hL)
  have HL2 := Lib.hid (lines_any k2 t2 s2 r2 hu2 M hM)
  have HH1 := Lib.hid (lineHour_any k t s r hu L hL)
  have HH2 := Lib.hid (lineHour_any k2 t2 s2 r2 hu2 M hM)
  have g1 := wh_range k s r
  have g2 := wh_range k2 s2 r2
  generalize whV k s r = a at *
  generalize whV k2 s2 r2 = b at *
  have HT := Lib.hid hT
  have HP := Lib.hid hP
  have hw : IntKind.i64.wrap (a - b) = a - b := IntWalk.i64_in _ (by omega)
  clear hL hM hu hu2 hT hP
  go_enter Tryd.func38, Tryd.ntmps38
  go_wp2
  refine region_below 10 follows_mixed (by kernel_rfl) ?_
  intro C hC
  simp only [List.take_succ_cons, List.take_zero, List.drop_succ_cons, List.drop_zero]
  repeat (first
    | ((with_reducible refine quiet_plain rfl (fun K hK => ?_)); (focus (apply quiet_val; (focus (intro w' hw; obtain ⟨hcq, hfq⟩ := bcell ((hC.out _).1 hw); go_simp; (first | done | rfl | (with_reducible exact call_below hC hw (HL1.out _ (HP.out.below (pt (pa pr) ((hC.out _).1 hw))))) | (with_reducible exact call_below hC hw (HL2.out _ (HP.out.below (pt (pa pr) ((hC.out _).1 hw))))) | (with_reducible exact call_below hC hw (HH1.out _ (HT.out.below (pt (pa pr) ((hC.out _).1 hw))))) | (with_reducible exact call_below hC hw (HH2.out _ (HT.out.below (pt (pa pr) ((hC.out _).1 hw))))) | (with_reducible exact call_same hw (mod_any _ _))))); (simp only [Act.put, List.setIfInBounds_toArray, List.set_cons_succ, List.set_cons_zero]); (with_reducible refine hK _ ?_); clear hK K)))
    | ((with_reducible refine quiet_skip ?_ ?_); (focus (first | (simp [Region.wanted, yielded]; done) | (simp [Region.wanted, yielded, undef]; done))); simp only [Act.put, List.setIfInBounds_toArray, List.set_cons_succ, List.set_cons_zero])
    | ((with_reducible refine quiet_go ?_ (fun K hK => ?_)); (focus (first | (simp [Region.wanted, yielded]; done) | (simp [Region.wanted, yielded, undef]; done))); (focus (apply quiet_val; (focus (intro w' hw; obtain ⟨hcq, hfq⟩ := bcell ((hC.out _).1 hw); go_simp; (first | done | rfl | (with_reducible exact call_below hC hw (HL1.out _ (HP.out.below (pt (pa pr) ((hC.out _).1 hw))))) | (with_reducible exact call_below hC hw (HL2.out _ (HP.out.below (pt (pa pr) ((hC.out _).1 hw))))) | (with_reducible exact call_below hC hw (HH1.out _ (HT.out.below (pt (pa pr) ((hC.out _).1 hw))))) | (with_reducible exact call_below hC hw (HH2.out _ (HT.out.below (pt (pa pr) ((hC.out _).1 hw))))) | (with_reducible exact call_same hw (mod_any _ _))))); (simp only [Act.put, List.setIfInBounds_toArray, List.set_cons_succ, List.set_cons_zero]); (with_reducible refine hK _ ?_); clear hK K))))
  refine wpQuiet_nil ?_
  intro w1 hb1
  replace hb1 := (hC.out _).1 hb1
  clear hC C
  obtain ⟨hc1, hf1⟩ := bcell hb1
  go_wp2
  go_ret
  exact ⟨rfl, pt (pa pr) hb1⟩

end Go.Proofs.YtpdkbhjcpddnpaaDoor
