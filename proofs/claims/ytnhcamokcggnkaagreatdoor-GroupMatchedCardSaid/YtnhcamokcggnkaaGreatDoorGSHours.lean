/- Contracts of the specification on phasors: errors, products, squares, hours. -/
import Derived.Test.YtnhcamokcggnkaaGreatDoorGRExp
import Derived.Deep.QuietTactic
import Derived.BigQuiet
namespace Go.Proofs.YtnhcamokcggnkaaGreatDoor
open Go.RowKit
attribute [local go_sem ↓] Go.wp_at_zero Go.wp_at_succ
attribute [local go_sem ↓ high] apiph_eql apiph_neq ph_eql

set_option maxHeartbeats 1000000 in
theorem refPhasorErr_any (p q : Int) (w : World) :
    Calls Tryz.prog 23 #[.agg #[.int .i64 p, .int .i64 q]] w fun e w' => e = .returned (.int .i64 (phE p q)) ∧ Below w.heap.size w w' := by
  have C1 := Lib.hid (fun w => refWithin_any p (-1000000) 1000000 w)
  have C2 := Lib.hid (fun w => refWithin_any q (-1000000) 1000000 w)
  have hv : unlessV (withinB p (-1000000) 1000000 && withinB q (-1000000) 1000000) 2 = phE p q := rfl
  generalize phE p q = E at *
  generalize withinB p (-1000000) 1000000 = a at *
  generalize withinB q (-1000000) 1000000 = b at *
  cases a <;> cases b
  all_goals
    simp only [Bool.false_and, Bool.true_and] at hv
    subst hv
    go_enter Tryz.func23, Tryz.ntmps23
    go_wp2_with (go_at_call 33; (first | (with_reducible refine (C1.out _).mono ?_) | (with_reducible refine (C2.out _).mono ?_)); rintro e w' ⟨rfl, rfl⟩)
    go_ret
    exact ⟨rfl, pa pr⟩

set_option maxHeartbeats 2000000 in
theorem refProduct_any (p q r s : Int) (hp : Sm 1000000 p) (hq : Sm 1000000 q) (hr : Sm 1000000 r) (hs : Sm 1000000 s) (w : World) :
    Calls Tryz.prog 155 #[.agg #[.int .i64 p, .int .i64 q], .agg #[.int .i64 r, .int .i64 s]] w fun e w' => e = .returned (.agg #[.int .i64 (mulP p q r s), .int .i64 (mulQ p q r s)]) ∧ Below w.heap.size w w' := by
  have b1 := hp.mul hr (by decide) (by decide)
  have b2 := hq.mul hs (by decide) (by decide)
  have b3 := hp.mul hs (by decide) (by decide)
  have b4 := hq.mul hr (by decide) (by decide)
  unfold Sm at b1 b2 b3 b4
  go_enter Tryz.func155, Tryz.ntmps155
  go_wp2
  exact bodyPost_ret (v := .agg #[.int .i64 (mulP p q r s), .int .i64 (mulQ p q r s)]) (by simp [results, Tryz.results155, go_sem, mulP, mulQ]) rfl ⟨rfl, by repeat (first | exact pr | refine pa ?_ | refine pd ?_ | refine ps ?_ (by first | (simp; done) | (simp; omega)))⟩

set_option maxHeartbeats 2000000 in
theorem refSquare_any (p q : Int) (hp : Sm 1000000 p) (hq : Sm 1000000 q) (w : World) :
    Calls Tryz.prog 58 #[.agg #[.int .i64 p, .int .i64 q]] w fun e w' => e = .returned (.int .i64 (sqV p q)) ∧ Below w.heap.size w w' := by
  have b1 := hp.mul hp (by decide) (by decide)
  have b2 := hq.mul hq (by decide) (by decide)
  have b3 := hp.mul hq (by decide) (by decide)
  unfold Sm at b1 b2 b3
  go_enter Tryz.func58, Tryz.ntmps58
  go_wp2
  go_ret
  exact ⟨ret_int (by unfold sqV; rfl), (by repeat (first | exact pr | refine pa ?_ | refine pd ?_))⟩

theorem size_any (n : Int) (hn : Sm 4000000000000000000 n) (w : World) :
    Calls Tryz.prog 104 #[.int .i64 n] w fun e w' => e = .returned (.int .i64 (n.natAbs : Int)) ∧ w = w' := by
  unfold Sm at hn
  go_enter Tryz.func104, Tryz.ntmps104
  go_wp2
  all_goals
    go_ret
    exact ⟨ret_int (by first | omega | (split <;> omega)), rfl⟩

/-! Hours in the upper half. -/
set_option maxHeartbeats 4000000 in
set_option maxRecDepth 100000 in
theorem refHours_0 (e : Int) (he : 0 < e) (hm : e ≤ 1000000) (w : World) :
    Calls Tryz.prog 103 #[.agg #[.int .i64 e, .int .i64 0]] w fun r w' => r = .returned (.tuple #[.int .i64 0, .int .i64 0]) ∧ Below w.heap.size w w' := by
  have f0 : phB e 0 0 0 = false := by simp [phB]; omega
  have f1 : ¬ e = 0 := by omega
  have f2 : ¬ 0 = e := by omega
  have f3 : ¬ e = 2 * e := by omega
  have f4 : ¬ 2 * e = e := by omega
  have f5 : ¬ -e = 2 * e := by omega
  have f6 : ¬ -e = e := by omega
  have f7 : ¬ e = -e := by omega
  have f8 : ¬ e < 0 := by omega
  have f9 : ¬ 0 < -e := by omega
  have fa : 0 < 2 * e := by omega
  have fb : ¬ -e = 0 := by omega
  have fc : ¬ 2 * e = 0 := by omega
  go_enter Tryz.func103, Tryz.ntmps103
  go_wp2
  go_quiet (fail)
  go_wp2
  go_ret2
  exact ⟨rfl, by first | exact below_drewN' (pa pr) _ | exact pd (pa pr)⟩
set_option maxHeartbeats 4000000 in
set_option maxRecDepth 100000 in
theorem refHours_1 (e : Int) (he : 0 < e) (hm : e ≤ 1000000) (w : World) :
    Calls Tryz.prog 103 #[.agg #[.int .i64 (2 * e), .int .i64 e]] w fun r w' => r = .returned (.tuple #[.int .i64 1, .int .i64 0]) ∧ Below w.heap.size w w' := by
  have f0 : phB (2 * e) e 0 0 = false := by simp [phB]; omega
  have f1 : ¬ e = 0 := by omega
  have f2 : ¬ 0 = e := by omega
  have f3 : ¬ e = 2 * e := by omega
  have f4 : ¬ 2 * e = e := by omega
  have f5 : ¬ -e = 2 * e := by omega
  have f6 : ¬ -e = e := by omega
  have f7 : ¬ e = -e := by omega
  have f8 : ¬ e < 0 := by omega
  have f9 : ¬ 0 < -e := by omega
  have fa : 0 < 2 * e := by omega
  have fb : ¬ -e = 0 := by omega
  have fc : ¬ 2 * e = 0 := by omega
  go_enter Tryz.func103, Tryz.ntmps103
  go_wp2
  go_quiet (fail)
  go_wp2
  go_ret2
  exact ⟨rfl, by first | exact below_drewN' (pa pr) _ | exact pd (pa pr)⟩
set_option maxHeartbeats 4000000 in
set_option maxRecDepth 100000 in
theorem refHours_2 (e : Int) (he : 0 < e) (hm : e ≤ 1000000) (w : World) :
    Calls Tryz.prog 103 #[.agg #[.int .i64 e, .int .i64 e]] w fun r w' => r = .returned (.tuple #[.int .i64 2, .int .i64 0]) ∧ Below w.heap.size w w' := by
  have f0 : phB e e 0 0 = false := by simp [phB]; omega
  have f1 : ¬ e = 0 := by omega
  have f2 : ¬ 0 = e := by omega
  have f3 : ¬ e = 2 * e := by omega
  have f4 : ¬ 2 * e = e := by omega
  have f5 : ¬ -e = 2 * e := by omega
  have f6 : ¬ -e = e := by omega
  have f7 : ¬ e = -e := by omega
  have f8 : ¬ e < 0 := by omega
  have f9 : ¬ 0 < -e := by omega
  have fa : 0 < 2 * e := by omega
  have fb : ¬ -e = 0 := by omega
  have fc : ¬ 2 * e = 0 := by omega
  go_enter Tryz.func103, Tryz.ntmps103
  go_wp2
  go_quiet (fail)
  go_wp2
  go_ret2
  exact ⟨rfl, by first | exact below_drewN' (pa pr) _ | exact pd (pa pr)⟩
set_option maxHeartbeats 4000000 in
set_option maxRecDepth 100000 in
theorem refHours_3 (e : Int) (he : 0 < e) (hm : e ≤ 1000000) (w : World) :
    Calls Tryz.prog 103 #[.agg #[.int .i64 e, .int .i64 (2 * e)]] w fun r w' => r = .returned (.tuple #[.int .i64 3, .int .i64 0]) ∧ Below w.heap.size w w' := by
  have f0 : phB e (2 * e) 0 0 = false := by simp [phB]; omega
  have f1 : ¬ e = 0 := by omega
  have f2 : ¬ 0 = e := by omega
  have f3 : ¬ e = 2 * e := by omega
  have f4 : ¬ 2 * e = e := by omega
  have f5 : ¬ -e = 2 * e := by omega
  have f6 : ¬ -e = e := by omega
  have f7 : ¬ e = -e := by omega
  have f8 : ¬ e < 0 := by omega
  have f9 : ¬ 0 < -e := by omega
  have fa : 0 < 2 * e := by omega
  have fb : ¬ -e = 0 := by omega
  have fc : ¬ 2 * e = 0 := by omega
  go_enter Tryz.func103, Tryz.ntmps103
  go_wp2
  go_quiet (fail)
  go_wp2
  go_ret2
  exact ⟨rfl, by first | exact below_drewN' (pa pr) _ | exact pd (pa pr)⟩
set_option maxHeartbeats 4000000 in
set_option maxRecDepth 100000 in
theorem refHours_4 (e : Int) (he : 0 < e) (hm : e ≤ 1000000) (w : World) :
    Calls Tryz.prog 103 #[.agg #[.int .i64 0, .int .i64 e]] w fun r w' => r = .returned (.tuple #[.int .i64 4, .int .i64 0]) ∧ Below w.heap.size w w' := by
  have f0 : phB 0 e 0 0 = false := by simp [phB]; omega
  have f1 : ¬ e = 0 := by omega
  have f2 : ¬ 0 = e := by omega
  have f3 : ¬ e = 2 * e := by omega
  have f4 : ¬ 2 * e = e := by omega
  have f5 : ¬ -e = 2 * e := by omega
  have f6 : ¬ -e = e := by omega
  have f7 : ¬ e = -e := by omega
  have f8 : ¬ e < 0 := by omega
  have f9 : ¬ 0 < -e := by omega
  have fa : 0 < 2 * e := by omega
  have fb : ¬ -e = 0 := by omega
  have fc : ¬ 2 * e = 0 := by omega
  go_enter Tryz.func103, Tryz.ntmps103
  go_wp2
  go_quiet (fail)
  go_wp2
  go_ret2
  exact ⟨rfl, by first | exact below_drewN' (pa pr) _ | exact pd (pa pr)⟩
set_option maxHeartbeats 4000000 in
set_option maxRecDepth 100000 in
theorem refHours_5 (e : Int) (he : 0 < e) (hm : e ≤ 1000000) (w : World) :
    Calls Tryz.prog 103 #[.agg #[.int .i64 (-e), .int .i64 e]] w fun r w' => r = .returned (.tuple #[.int .i64 5, .int .i64 0]) ∧ Below w.heap.size w w' := by
  have f0 : phB (-e) e 0 0 = false := by simp [phB]; omega
  have f1 : ¬ e = 0 := by omega
  have f2 : ¬ 0 = e := by omega
  have f3 : ¬ e = 2 * e := by omega
  have f4 : ¬ 2 * e = e := by omega
  have f5 : ¬ -e = 2 * e := by omega
  have f6 : ¬ -e = e := by omega
  have f7 : ¬ e = -e := by omega
  have f8 : ¬ e < 0 := by omega
  have f9 : ¬ 0 < -e := by omega
  have fa : 0 < 2 * e := by omega
  have fb : ¬ -e = 0 := by omega
  have fc : ¬ 2 * e = 0 := by omega
  go_enter Tryz.func103, Tryz.ntmps103
  go_wp2
  go_quiet (fail)
  go_wp2
  go_ret2
  exact ⟨rfl, by first | exact below_drewN' (pa pr) _ | exact pd (pa pr)⟩

set_option maxHeartbeats 4000000 in
set_option maxRecDepth 100000 in
theorem refHours_zero (w : World) :
    Calls Tryz.prog 103 #[.agg #[.int .i64 0, .int .i64 0]] w fun r w' => r = .returned (.tuple #[.int .i64 0, .int .i64 11]) ∧ Below w.heap.size w w' := by
  have f0 : phB 0 0 0 0 = true := rfl
  go_enter Tryz.func103, Tryz.ntmps103
  go_wp2
  go_ret2
  exact ⟨rfl, pa pr⟩

set_option maxHeartbeats 4000000 in
set_option maxRecDepth 100000 in
/-- In the upper half, no whole hour. -/
theorem refHours_off (p q : Int) (hq : 0 < q) (h1 : ¬ p = 2 * q) (h2 : ¬ p = q) (h3 : ¬ q = 2 * p) (h4 : ¬ p = 0) (h5 : ¬ p = -q) (hp : Sm 1000000 p) (hqs : Sm 1000000 q) (w : World) :
    Calls Tryz.prog 103 #[.agg #[.int .i64 p, .int .i64 q]] w fun r w' => r = .returned (.tuple #[.int .i64 0, .int .i64 12]) ∧ Below w.heap.size w w' := by
  have f0 : phB p q 0 0 = false := by simp [phB, h4]
  have f1 : ¬ q = 0 := by omega
  have f2 : ¬ q < 0 := by omega
  unfold Sm at hp hqs
  by_cases hpp : 0 < p
  all_goals
    go_enter Tryz.func103, Tryz.ntmps103
    go_wp2
    go_quiet (fail)
    go_wp2
    go_ret2
    exact ⟨rfl, by first | exact below_drewN' (pa pr) _ | exact pd (pa pr)⟩

def upRes : Option Int → Value
  | some h => .tuple #[.int .i64 h, .int .i64 0]
  | none => .tuple #[.int .i64 0, .int .i64 12]
/-- In the upper half. -/
theorem refHours_up (p q : Int) (hu : 0 < q ∨ (q = 0 ∧ 0 < p)) (hp : Sm 1000000 p) (hq : Sm 1000000 q) (w : World) :
    Calls Tryz.prog 103 #[.agg #[.int .i64 p, .int .i64 q]] w fun r w' => r = .returned (upRes (upV p q)) ∧ Below w.heap.size w w' := by
  unfold Sm at hp hq
  unfold upV
  split
  · rename_i h
    obtain ⟨h1, rfl⟩ := h
    exact refHours_0 p h1 (by omega) w
  split
  · rename_i h
    obtain ⟨h1, rfl⟩ := h
    exact refHours_1 q h1 (by omega) w
  split
  · rename_i h
    obtain ⟨h1, rfl⟩ := h
    exact refHours_2 p h1 (by omega) w
  split
  · rename_i h
    obtain ⟨h1, rfl⟩ := h
    exact refHours_3 p h1 (by omega) w
  split
  · rename_i h
    obtain ⟨h1, rfl⟩ := h
    exact refHours_4 q h1 (by omega) w
  split
  · rename_i h
    obtain ⟨h1, rfl⟩ := h
    exact refHours_5 q h1 (by omega) w
  · exact refHours_off p q (by omega) (by omega) (by omega) (by omega) (by omega) (by omega) (by unfold Sm; omega) (by unfold Sm; omega) w

theorem upV_down {p q : Int} (hd : q < 0 ∨ (q = 0 ∧ p < 0)) : upV p q = none := by
  unfold upV
  rw [if_neg (by omega), if_neg (by omega), if_neg (by omega), if_neg (by omega), if_neg (by omega), if_neg (by omega)]

set_option maxHeartbeats 4000000 in
set_option maxRecDepth 100000 in
/-- In the lower half. -/
theorem refHours_down (p q : Int) (hd : q < 0 ∨ (q = 0 ∧ p < 0)) (hp : Sm 1000000 p) (hq : Sm 1000000 q) (w : World) :
    Calls Tryz.prog 103 #[.agg #[.int .i64 p, .int .i64 q]] w fun r w' => r = .returned (upRes (hoursV p q)) ∧ Below w.heap.size w w' := by
  have hr : ∀ h, upV (-p) (-q) = some h → 0 ≤ h ∧ h ≤ 5 := fun h e => ⟨(upV_dir e).1, (upV_dir e).2.1⟩
  have HU := Lib.hid (refHours_up (-p) (-q) (by omega) (by unfold Sm at *; omega) (by unfold Sm at *; omega))
  have e : hoursV p q = (upV (-p) (-q)).map (· + 6) := by unfold hoursV; rw [upV_down hd]
  rw [e]
  clear e
  have f0 : phB p q 0 0 = false := by simp [phB]; omega
  have f2 : ¬ 0 < q := by omega
  unfold Sm at hp hq
  cases hx : upV (-p) (-q) with
  | none =>
    rw [hx] at HU
    clear hx hr
    rcases hd with h1 | ⟨rfl, h1⟩
    · have f1 : ¬ q = 0 := by omega
      by_cases hpp : 0 < p
      · have f5 : ¬ q = 2 * p := by omega
        go_enter Tryz.func103, Tryz.ntmps103
        go_wp2
        go_quiet (fail)
        go_wp2_with (go_at_call 103; refine (HU.out _).mono ?_; rintro e w2 ⟨rfl, hb2⟩; simp only [upRes])
        go_ret2
        exact ⟨rfl, pt (by first | exact below_drewN' (pa pr) _ | exact pd (pa pr)) hb2⟩
      · go_enter Tryz.func103, Tryz.ntmps103
        go_wp2
        go_quiet (fail)
        go_wp2_with (go_at_call 103; refine (HU.out _).mono ?_; rintro e w2 ⟨rfl, hb2⟩; simp only [upRes])
        go_ret2
        exact ⟨rfl, pt (by first | exact below_drewN' (pa pr) _ | exact pd (pa pr)) hb2⟩
    · have f1 : ¬ 0 < p := by omega
      go_enter Tryz.func103, Tryz.ntmps103
      go_wp2
      go_quiet (fail)
      go_wp2_with (go_at_call 103; refine (HU.out _).mono ?_; rintro e w2 ⟨rfl, hb2⟩; simp only [upRes])
      go_ret2
      exact ⟨rfl, pt (by first | exact below_drewN' (pa pr) _ | exact pd (pa pr)) hb2⟩
  | some h =>
    obtain ⟨g1, g2⟩ := hr h hx
    rw [hx] at HU
    clear hx hr
    rcases hd with h1 | ⟨rfl, h1⟩
    · have f1 : ¬ q = 0 := by omega
      by_cases hpp : 0 < p
      · have f5 : ¬ q = 2 * p := by omega
        go_enter Tryz.func103, Tryz.ntmps103
        go_wp2
        go_quiet (fail)
        go_wp2_with (go_at_call 103; refine (HU.out _).mono ?_; rintro e w2 ⟨rfl, hb2⟩; simp only [upRes])
        go_ret2
        exact ⟨rfl, pt (by first | exact below_drewN' (pa pr) _ | exact pd (pa pr)) hb2⟩
      · go_enter Tryz.func103, Tryz.ntmps103
        go_wp2
        go_quiet (fail)
        go_wp2_with (go_at_call 103; refine (HU.out _).mono ?_; rintro e w2 ⟨rfl, hb2⟩; simp only [upRes])
        go_ret2
        exact ⟨rfl, pt (by first | exact below_drewN' (pa pr) _ | exact pd (pa pr)) hb2⟩
    · have f1 : ¬ 0 < p := by omega
      go_enter Tryz.func103, Tryz.ntmps103
      go_wp2
      go_quiet (fail)
      go_wp2_with (go_at_call 103; refine (HU.out _).mono ?_; rintro e w2 ⟨rfl, hb2⟩; simp only [upRes])
      go_ret2
      exact ⟨rfl, pt (by first | exact below_drewN' (pa pr) _ | exact pd (pa pr)) hb2⟩

def hoursE (p q : Int) : Int := if p = 0 ∧ q = 0 then 11 else if (hoursV p q).isSome then 0 else 12
/-- The specification's hours, whole. -/
theorem refHours_any (p q : Int) (hp : Sm 1000000 p) (hq : Sm 1000000 q) (w : World) :
    Calls Tryz.prog 103 #[.agg #[.int .i64 p, .int .i64 q]] w fun r w' => r = .returned (.tuple #[.int .i64 ((hoursV p q).getD 0), .int .i64 (hoursE p q)]) ∧ Below w.heap.size w w' := by
  by_cases h0 : p = 0 ∧ q = 0
  · obtain ⟨rfl, rfl⟩ := h0
    exact refHours_zero w
  · have hs : ∀ o : Option Int, hoursV p q = o → upRes o = .tuple #[.int .i64 ((hoursV p q).getD 0), .int .i64 (hoursE p q)] := by
      intro o ho
      unfold hoursE
      rw [if_neg h0, ho]
      cases o <;> rfl
    by_cases hu : 0 < q ∨ (q = 0 ∧ 0 < p)
    · have h := refHours_up p q hu hp hq w
      have e : hoursV p q = upV p q := by
        unfold hoursV
        cases hx : upV p q with
        | some h => rfl
        | none => rw [upV_down (by omega)]; rfl
      rw [← e, hs _ rfl] at h
      exact h
    · have h := refHours_down p q (by omega) hp hq w
      rw [hs _ rfl] at h
      exact h

end Go.Proofs.YtnhcamokcggnkaaGreatDoor
