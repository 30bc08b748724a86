/- Contracts: the error of a winding, its length (package design and the specification). Printed by a program (gen_d3wind.py). -/
import Derived.Test.YtncbigkkmgnkmaaGreatDoorOa4
import Derived.Test.YtncbigkkmgnkmaaGreatDoorOa2
import Derived.Test.YtncbigkkmgnkmaaGreatDoorOa6
import Derived.Test.YtncbigkkmgnkmaaGreatDoorOe6

section
namespace Go.Proofs.YtncbigkkmgnkmaaGreatDoor
open Go.RowKit

def windB (t d cd g : Int) : Bool := withinB t 1 10000 && withinB d 1 500 && withinB cd 1 1000 && withinB g 0 1000
def windE (t d cd g : Int) : Int := firstV [unlessV (windB t d cd g) 2, unlessV (decide (d ≤ t)) 10]
theorem windE_ok {t d cd g : Int} (h : windE t d cd g = 0) : (1 ≤ t ∧ t ≤ 10000) ∧ (1 ≤ d ∧ d ≤ 500) ∧ (1 ≤ cd ∧ cd ≤ 1000) ∧ (0 ≤ g ∧ g ≤ 1000) ∧ d ≤ t := by
  obtain ⟨h1, h2⟩ := firstV_zero.1 h
  have g1 := (unless_ne (by decide)).1 h1
  have g2 := (unless_ne (by decide)).1 (firstV_zero.1 h2).1
  unfold windB at g1
  simp only [withinB, Bool.and_eq_true, decide_eq_true_eq] at g1 g2
  omega

set_option maxRecDepth 100000 in
set_option maxHeartbeats 4000000 in
theorem windingErr_any (t d cd g : Int) (w : World) :
    Calls Tryz.prog 69 #[.agg #[.int .i64 t, .int .i64 d, .int .i64 cd, .int .i64 g]] w fun e w' => e = .returned (.int .i64 (windE t d cd g)) ∧ Below w.heap.size w w' := by
  obtain ⟨wb, hwb⟩ : ∃ wb, wb = windB t d cd g := ⟨_, rfl⟩
  have HV : firstV [unlessV wb 2, unlessV (decide (d ≤ t)) 10] = windE t d cd g := by rw [hwb]; rfl
  have HV := Lib.hid HV
  generalize windE t d cd g = E at *
  unfold windB at hwb
  cases hb1 : withinB t 1 10000 <;> cases hb2 : withinB d 1 500 <;> cases hb3 : withinB cd 1 1000 <;> cases hb4 : withinB g 0 1000
  all_goals
    rw [hb1, hb2, hb3, hb4] at hwb
    simp only [Bool.and_true, Bool.and_false, Bool.and_self] at hwb
    subst hwb
    go_enter Tryz.func69, Tryz.ntmps69
    go_wp2_with (go_at_call 73; refine (within_any _ _ _ _).mono ?_; rintro e w' ⟨rfl, rfl⟩)
    refine region_below 8 follows_mixed (by kernel_rfl) ?_
    intro C hC
    simp only [List.take_succ_cons, List.take_zero, List.drop_succ_cons, List.drop_zero]
    repeat (first
      | ((with_reducible refine quiet_plain rfl (fun K hK => ?_)); (focus (apply quiet_val; (focus (intro w' hw; obtain ⟨hcq, hfq⟩ := bcell ((hC.out _).1 hw); go_simp; (first | done | rfl | (with_reducible exact call_same hw (unless_any _ _ _))))); (simp only [Act.put, List.setIfInBounds_toArray, List.set_cons_succ, List.set_cons_zero]); (with_reducible refine hK _ ?_); clear hK K)))
      | ((with_reducible refine quiet_skip ?_ ?_); (focus (first | (simp [Region.wanted, yielded]; done) | (simp [Region.wanted, yielded, undef]; done))); simp only [Act.put, List.setIfInBounds_toArray, List.set_cons_succ, List.set_cons_zero])
      | ((with_reducible refine quiet_go ?_ (fun K hK => ?_)); (focus (first | (simp [Region.wanted, yielded]; done) | (simp [Region.wanted, yielded, undef]; done))); (focus (apply quiet_val; (focus (intro w' hw; obtain ⟨hcq, hfq⟩ := bcell ((hC.out _).1 hw); go_simp; (first | done | rfl | (with_reducible exact call_same hw (unless_any _ _ _))))); (simp only [Act.put, List.setIfInBounds_toArray, List.set_cons_succ, List.set_cons_zero]); (with_reducible refine hK _ ?_); clear hK K))))
    refine wpQuiet_nil ?_
    intro w1 hb1
    replace hb1 := (hC.out _).1 hb1
    clear hC C
    obtain ⟨hc1, hf1⟩ := bcell hb1
    have HB1 := Lib.hid (pt (pa pr) hb1)
    go_wp2_with (go_at_call 57; refine (first2 _ _ _ _ _ (by first | (go_simp; done) | (go_simp; rfl)) (by first | (go_simp; done) | (go_simp; rfl)) _ HV.out).mono ?_; rintro e w' ⟨rfl, rfl⟩)
    go_ret
    exact ⟨rfl, pa HB1.out⟩

set_option maxHeartbeats 4000000 in
theorem refWindingErr_any (t d cd g : Int) (w : World) :
    Calls Tryz.prog 38 #[.agg #[.int .i64 t, .int .i64 d, .int .i64 cd, .int .i64 g]] w fun e w' => e = .returned (.int .i64 (windE t d cd g)) ∧ Below w.heap.size w w' := by
  obtain ⟨wb, hwb⟩ : ∃ wb, wb = windB t d cd g := ⟨_, rfl⟩
  have HV : firstV [unlessV wb 2, unlessV (decide (d ≤ t)) 10] = windE t d cd g := by rw [hwb]; rfl
  have HV := Lib.hid HV
  generalize windE t d cd g = E at *
  unfold windB at hwb
  cases hb1 : withinB t 1 10000 <;> cases hb2 : withinB d 1 500 <;> cases hb3 : withinB cd 1 1000 <;> cases hb4 : withinB g 0 1000
  all_goals
    rw [hb1, hb2, hb3, hb4] at hwb
    simp only [Bool.and_true, Bool.and_false, Bool.and_self] at hwb
    subst hwb
    by_cases hdt : d ≤ t
    all_goals
      have HE := HV.out
      first | rw [decide_eq_true hdt] at HE | rw [decide_eq_false hdt] at HE
      simp [firstV, unlessV] at HE
      have HE2 := Lib.hid HE
      clear HE
      go_enter Tryz.func38, Tryz.ntmps38
      go_wp2_with (go_at_call 41; refine (refWithin_any _ _ _ _).mono ?_; rintro e w' ⟨rfl, rfl⟩)
      go_ret
      exact ⟨ret_int HE2.out, pa pr⟩

set_option maxHeartbeats 4000000 in
theorem length_any (t d cd g n : Int) (w : World) (hn : 1 ≤ n ∧ n ≤ 500) (hc : 1 ≤ cd ∧ cd ≤ 1000) (hg : 0 ≤ g ∧ g ≤ 1000) :
    Calls Tryz.prog 71 #[.agg #[.int .i64 t, .int .i64 d, .int .i64 cd, .int .i64 g], .int .i64 n] w fun e w' => e = .returned (.int .i64 (n * cd + (n - 1) * g)) ∧ Below w.heap.size w w' := by
  have m1 := Int.mul_le_mul hn.2 hc.2 (by omega) (by decide)
  have m2 := Int.mul_nonneg (show 0 ≤ n by omega) (show 0 ≤ cd by omega)
  have m3 := Int.mul_le_mul (show n - 1 ≤ 500 by omega) hg.2 hg.1 (by decide)
  have m4 := Int.mul_nonneg (show 0 ≤ n - 1 by omega) hg.1
  have w1 : wrap64 (n * cd) = n * cd := w64 (by omega)
  have w2 : wrap64 ((n - 1) * g) = (n - 1) * g := w64 (by omega)
  have w3 : wrap64 (n * cd + (n - 1) * g) = n * cd + (n - 1) * g := w64 (by omega)
  clear m1 m2 m3 m4
  go_enter Tryz.func71, Tryz.ntmps71
  go_wp2
  go_ret
  exact ⟨ret_int w3, pa pr⟩
set_option maxHeartbeats 4000000 in
theorem lengthOf_any (t d cd g : Int) (w : World) (h0 : windE t d cd g = 0) :
    Calls Tryz.prog 36 #[.agg #[.int .i64 t, .int .i64 d, .int .i64 cd, .int .i64 g]] w fun e w' => e = .returned (.tuple #[.int .i64 (d * cd + (d - 1) * g), .int .i64 0]) ∧ Below w.heap.size w w' := by
  have hok := windE_ok h0
  have HE := Lib.hid (fun W => windingErr_any t d cd g W)
  rw [h0] at HE
  have HL := Lib.hid (fun W => length_any t d cd g d W hok.2.1 hok.2.2.1 hok.2.2.2.1)
  clear h0 hok
  generalize d * cd + (d - 1) * g = L at *
  go_enter Tryz.func36, Tryz.ntmps36
  go_wp2_with (first
    | (go_at_call 69; refine (HE.out _).mono ?_; rintro e w1 ⟨rfl, hb1⟩; have HB1 := Lib.hid (pt (pa pr) hb1); have R1 := Lib.hid ((show Blk (w.alloc (.cells #[.int .i64 t, .int .i64 d, .int .i64 cd, .int .i64 g] 71)) w.heap.size 71 #[.int .i64 t, .int .i64 d, .int .i64 cd, .int .i64 g] from Blk.newAt rfl).past hb1); clear hb1; have g0 := R1.out.cellAt 0 rfl; have g1 := R1.out.cellAt 1 rfl; have g2 := R1.out.cellAt 2 rfl; have g3 := R1.out.cellAt 3 rfl; have gl := R1.out.lt)
    | (go_at_call 71; refine (HL.out _).mono ?_; rintro e w2 ⟨rfl, hb2⟩; have HB2 := Lib.hid (pt HB1.out hb2)))
  go_ret2
  exact ⟨rfl, HB2.out⟩

end Go.Proofs.YtncbigkkmgnkmaaGreatDoor
end
