/- Contracts: the error of a winding, of a unit; the specification's; the hour of lines. -/
import Derived.Test.YtpdkbhjcpddnpaaDoorG7Signed
import Derived.Test.YtpdkbhjcpddnpaaDoorG6Wide
namespace Go.Proofs.YtpdkbhjcpddnpaaDoor
open Go.RowKit
attribute [local go_sem ↓] Go.wp_at_zero Go.wp_at_succ

theorem gfirst2 (b c : Nat) (x y : Int) (w : World) (h0 : w.cell? ⟨b, 0, none⟩ = some (.int .i64 x)) (h1 : w.cell? ⟨b, 1, none⟩ = some (.int .i64 y)) (v : Int) (hv : firstV [x, y] = v) :
    Calls Tryd.prog 26 #[.slice (some ⟨b, 0, none⟩) 2 c] w fun e w' => e = .returned (.int .i64 v) ∧ w = w' := by
  subst hv
  refine first_any (b + 1) (some ⟨b, 0, none⟩) c [x, y] w (.inr ⟨b, 0, rfl, by omega, fun j hj => ?_⟩) (by simp)
  rcases j with _ | _ | j
  · simpa using h0
  · simpa using h1
  · simp at hj; omega
theorem gfirst3 (b c : Nat) (x y z : Int) (w : World) (h0 : w.cell? ⟨b, 0, none⟩ = some (.int .i64 x)) (h1 : w.cell? ⟨b, 1, none⟩ = some (.int .i64 y)) (h2 : w.cell? ⟨b, 2, none⟩ = some (.int .i64 z)) (v : Int) (hv : firstV [x, y, z] = v) :
    Calls Tryd.prog 26 #[.slice (some ⟨b, 0, none⟩) 3 c] w fun e w' => e = .returned (.int .i64 v) ∧ w = w' := by
  subst hv
  refine first_any (b + 1) (some ⟨b, 0, none⟩) c [x, y, z] w (.inr ⟨b, 0, rfl, by omega, fun j hj => ?_⟩) (by simp)
  rcases j with _ | _ | _ | j
  · simpa using h0
  · simpa using h1
  · simpa using h2
  · simp at hj; omega

def windE (k t s : Int) : Int := firstV [unlessV (withinB k 0 2) 15, unlessV (withinB t 1 2000 && withinB s 0 2) 2]
theorem windE_cases (k t s : Int) : (withinB k 0 2 = false ∧ windE k t s = 15) ∨ (withinB k 0 2 = true ∧ withinB t 1 2000 = false ∧ windE k t s = 2) ∨ (withinB k 0 2 = true ∧ withinB t 1 2000 = true ∧ withinB s 0 2 = false ∧ windE k t s = 2) ∨ (withinB k 0 2 = true ∧ withinB t 1 2000 = true ∧ withinB s 0 2 = true ∧ windE k t s = 0) := by
  unfold windE
  cases withinB k 0 2 <;> cases withinB t 1 2000 <;> cases withinB s 0 2 <;> simp [firstV, unlessV]
theorem windE_ok {k t s : Int} (r : Bool) (h : windE k t s = 0) : (Wind.mk k t s r).ok := by
  rcases windE_cases k t s with h1 | h1 | h1 | ⟨h1, h2, h3, _⟩
  · omega
  · omega
  · omega
  · simp only [withinB, Bool.and_eq_true, decide_eq_true_eq] at h1 h2 h3
    exact ⟨h1.1, h1.2, h2.1, h2.2, h3.1, h3.2⟩
theorem windE_of {k t s : Int} {r : Bool} (h : (Wind.mk k t s r).ok) : windE k t s = 0 := by
  obtain ⟨a, b, c, d, e, f⟩ := h
  dsimp only at *
  simp [windE, withinB, firstV, unlessV, a, b, c, d, e, f]

set_option maxHeartbeats 1000000 in
set_option maxRecDepth 100000 in
theorem checkWinding_any (k t s : Int) (r : Bool) (w : World) :
    Calls Tryd.prog 32 #[.agg #[.int .i64 k, .int .i64 t, .int .i64 s, .bool r]] w fun e w' => e = .returned (.int .i64 (windE k t s)) ∧ Below w.heap.size w w' := by
  have c1 := fun w => within_any t 1 2000 w
  have c2 := fun w => within_any s 0 2 w
  have hv : firstV [unlessV (withinB k 0 2) 15, unlessV (withinB t 1 2000 && withinB s 0 2) 2] = windE k t s := rfl
  generalize windE k t s = E at *
  generalize withinB t 1 2000 = p at *
  generalize withinB s 0 2 = q at *
  cases p
  all_goals
    simp only [Bool.false_and, Bool.true_and] at hv
    have HV := Lib.hid hv
    clear hv
    go_enter Tryd.func32, Tryd.ntmps32
    go_wp2
    refine region_below 13 follows_mixed (by kernel_rfl) ?_
    intro C hC
    simp only [List.take_succ_cons, List.take_zero, List.drop_succ_cons, List.drop_zero]
    repeat (first
      | ((with_reducible refine quiet_plain rfl (fun K hK => ?_)); (focus (apply quiet_val; (focus (intro w' hw; obtain ⟨hcq, hfq⟩ := bcell ((hC.out _).1 hw); go_simp; (first | done | rfl | (with_reducible exact call_same hw (isKind_any _ _)) | (with_reducible exact call_same hw (unless_any _ _ _)) | (with_reducible exact call_same hw (c1 _)) | (with_reducible exact call_same hw (c2 _))))); (simp only [Act.put, List.setIfInBounds_toArray, List.set_cons_succ, List.set_cons_zero]); (with_reducible refine hK _ ?_); clear hK K)))
      | ((with_reducible refine quiet_skip ?_ ?_); (focus (first | (simp [Region.wanted, yielded]; done) | (simp [Region.wanted, yielded, undef]; done))); simp only [Act.put, List.setIfInBounds_toArray, List.set_cons_succ, List.set_cons_zero])
      | ((with_reducible refine quiet_go ?_ (fun K hK => ?_)); (focus (first | (simp [Region.wanted, yielded]; done) | (simp [Region.wanted, yielded, undef]; done))); (focus (apply quiet_val; (focus (intro w' hw; obtain ⟨hcq, hfq⟩ := bcell ((hC.out _).1 hw); go_simp; (first | done | rfl | (with_reducible exact call_same hw (isKind_any _ _)) | (with_reducible exact call_same hw (unless_any _ _ _)) | (with_reducible exact call_same hw (c1 _)) | (with_reducible exact call_same hw (c2 _))))); (simp only [Act.put, List.setIfInBounds_toArray, List.set_cons_succ, List.set_cons_zero]); (with_reducible refine hK _ ?_); clear hK K))))
    refine wpQuiet_nil ?_
    intro w1 hb1
    replace hb1 := (hC.out _).1 hb1
    clear hC C
    obtain ⟨hc1, hf1⟩ := bcell hb1
    go_wp2_with (go_at_call 26; refine (gfirst2 _ _ _ _ _ (by first | (go_simp; done) | (go_simp; rfl)) (by first | (go_simp; done) | (go_simp; rfl)) _ HV.out).mono ?_; rintro e w' ⟨rfl, rfl⟩)
    go_ret
    exact ⟨rfl, pa (pt (pa pr) hb1)⟩

def unitE (k t s k2 t2 s2 n : Int) : Int := firstV [windE k t s, windE k2 t2 s2, unlessV (withinB n 0 100) 2]

set_option maxHeartbeats 1000000 in
set_option maxRecDepth 100000 in
theorem checkUnit_any (k t s : Int) (r : Bool) (k2 t2 s2 : Int) (r2 : Bool) (n : Int) (w : World) :
    Calls Tryd.prog 39 #[.agg #[.int .i64 k, .int .i64 t, .int .i64 s, .bool r, .int .i64 k2, .int .i64 t2, .int .i64 s2, .bool r2, .int .i64 n]] w fun e w' => e = .returned (.int .i64 (unitE k t s k2 t2 s2 n)) ∧ Below w.heap.size w w' := by
  have HV := Lib.hid (show firstV [windE k t s, windE k2 t2 s2, unlessV (withinB n 0 100) 2] = unitE k t s k2 t2 s2 n from rfl)
  generalize unitE k t s k2 t2 s2 n = E at *
  go_enter Tryd.func39, Tryd.ntmps39
  go_wp2
  refine region_below 10 follows_mixed (by kernel_rfl) ?_
  intro C hC
  simp only [List.take_succ_cons, List.take_zero, List.drop_succ_cons, List.drop_zero]
  repeat (first
    | ((with_reducible refine quiet_plain rfl (fun K hK => ?_)); (focus (apply quiet_val; (focus (intro w' hw; obtain ⟨hcq, hfq⟩ := bcell ((hC.out _).1 hw); go_simp; (first | done | rfl | (with_reducible exact call_below hC hw (checkWinding_any _ _ _ _ _)) | (with_reducible exact call_same hw (within_any _ _ _ _)) | (with_reducible exact call_same hw (unless_any _ _ _))))); (simp only [Act.put, List.setIfInBounds_toArray, List.set_cons_succ, List.set_cons_zero]); (with_reducible refine hK _ ?_); clear hK K)))
    | ((with_reducible refine quiet_skip ?_ ?_); (focus (first | (simp [Region.wanted, yielded]; done) | (simp [Region.wanted, yielded, undef]; done))); simp only [Act.put, List.setIfInBounds_toArray, List.set_cons_succ, List.set_cons_zero])
    | ((with_reducible refine quiet_go ?_ (fun K hK => ?_)); (focus (first | (simp [Region.wanted, yielded]; done) | (simp [Region.wanted, yielded, undef]; done))); (focus (apply quiet_val; (focus (intro w' hw; obtain ⟨hcq, hfq⟩ := bcell ((hC.out _).1 hw); go_simp; (first | done | rfl | (with_reducible exact call_below hC hw (checkWinding_any _ _ _ _ _)) | (with_reducible exact call_same hw (within_any _ _ _ _)) | (with_reducible exact call_same hw (unless_any _ _ _))))); (simp only [Act.put, List.setIfInBounds_toArray, List.set_cons_succ, List.set_cons_zero]); (with_reducible refine hK _ ?_); clear hK K))))
  refine wpQuiet_nil ?_
  intro w1 hb1
  replace hb1 := (hC.out _).1 hb1
  clear hC C
  obtain ⟨hc1, hf1⟩ := bcell hb1
  go_wp2_with (go_at_call 26; refine (gfirst3 _ _ _ _ _ _ (by first | (go_simp; done) | (go_simp; rfl)) (by first | (go_simp; done) | (go_simp; rfl)) (by first | (go_simp; done) | (go_simp; rfl)) _ HV.out).mono ?_; rintro e w' ⟨rfl, rfl⟩)
  go_ret
  exact ⟨rfl, pa (pt (pa pr) hb1)⟩

def hourV (l : L3) : Int := (hoursV (phP l.x) (phQ l.x)).getD 0
set_option maxHeartbeats 1000000 in
theorem hourOf_any (x1 x2 x3 x4 x5 x6 x7 x8 x9 : Int) (h1 : Sm 10000 x1) (h2 : Sm 10000 x2) (h3 : Sm 10000 x3) (w : World) (hT : TwIn w) :
    Calls Tryd.prog 61 #[.agg #[.int .i64 x1, .int .i64 x2, .int .i64 x3, .int .i64 x4, .int .i64 x5, .int .i64 x6, .int .i64 x7, .int .i64 x8, .int .i64 x9]] w fun e w' => e = .returned (.int .i64 ((hoursV (x1 - x2) (x3 - x2)).getD 0)) ∧ Below w.heap.size w w' := by
  have hp : Sm 1000000 (x1 - x2) := by unfold Sm at *; omega
  have hq : Sm 1000000 (x3 - x2) := by unfold Sm at *; omega
  have HT := Lib.hid hT
  have H1 := Lib.hid h1
  have H2 := Lib.hid h2
  have H3 := Lib.hid h3
  have HP := Lib.hid hp
  have HQ := Lib.hid hq
  clear hT h1 h2 h3 hp hq
  go_enter Tryd.func61, Tryd.ntmps61
  go_wp2_with (first
    | (go_at_call 35; refine (linesPhasor_0 _ _ _ _ _ _ _ _ _ H1.out H2.out H3.out _).mono ?_; rintro e w1 ⟨rfl, hb1⟩)
    | (go_at_call 70; refine (hour_any _ _ HP.out HQ.out _ (HT.out.below (pt (pa pr) hb1))).mono ?_; rintro e w2 ⟨rfl, hb2⟩))
  go_ret
  exact ⟨rfl, pt (pt (pa pr) hb1) hb2⟩

end Go.Proofs.YtpdkbhjcpddnpaaDoor
