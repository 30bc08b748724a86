/- WorksDrying: for every input the law returns true, and nothing that was there is turned. No condition. -/
import Derived.Test.YtlgioldmjohhlaaZJDry
import Derived.Test.YtlgioldmjohhlaaZIAwake
import Derived.Test.YtlgioldmjohhlaaZKLaw
namespace Go.Proofs.Ytlgioldmjohhlaa
open Go.ChangeShapes Go.WideShapes Go.ChangeAt Go.RowKit Go.Joins

theorem oven_ok {lo hi fl : Int} (h : ovenE lo hi fl = 0) : 0 ≤ fl ∧ fl ≤ 1000000 ∧ 0 ≤ lo ∧ lo ≤ 1000 ∧ 0 ≤ hi ∧ hi ≤ 1000 := by
  obtain ⟨h1, h2⟩ := firstV_zero.1 h
  have h3 := (unless_ne (by decide)).1 (firstV_zero.1 h2).1
  have h4 := (unless_ne (by decide)).1 (firstV_zero.1 h1).1
  simp only [waterB, rateB, withinB, Bool.and_eq_true, decide_eq_true_eq] at h3 h4
  omega
theorem water_ok {lo hi : Int} (h : rangeErrV waterB lo hi = 0) : 0 ≤ lo ∧ lo ≤ 1000000 ∧ 0 ≤ hi ∧ hi ≤ 1000000 ∧ lo ≤ hi := by
  have h4 := (unless_ne (by decide)).1 (firstV_zero.1 h).1
  have h5 := (unless_ne (by decide)).1 (firstV_zero.1 (firstV_zero.1 h).2).1
  simp only [waterB, withinB, Bool.and_eq_true, decide_eq_true_eq] at h4 h5
  omega

/-- The law's own boxes. -/
def DBox (lo hi fl wlo whi x0 x1 : Int) (w W : World) : Prop :=
  Blk W w.heap.size 67 #[.int .i64 lo, .int .i64 hi, .int .i64 fl] ∧ Blk W (w.heap.size + 1) 59 #[.int .i64 wlo, .int .i64 whi] ∧ Blk W (w.heap.size + 1 + 1) 68 #[.int .i64 x0, .int .i64 x1] ∧ Below w.heap.size w W
theorem DBox.past {lo hi fl wlo whi x0 x1 : Int} {w W W' : World} (h : DBox lo hi fl wlo whi x0 x1 w W) (hb : Below W.heap.size W W') : DBox lo hi fl wlo whi x0 x1 w W' :=
  ⟨h.1.past hb, h.2.1.past hb, h.2.2.1.past hb, pt h.2.2.2 hb⟩
theorem DBox.start (lo hi fl wlo whi x0 x1 : Int) (w : World) : DBox lo hi fl wlo whi x0 x1 w (((w.alloc (.cells #[.int .i64 lo, .int .i64 hi, .int .i64 fl] 67)).alloc (.cells #[.int .i64 wlo, .int .i64 whi] 59)).alloc (.cells #[.int .i64 x0, .int .i64 x1] 68)) :=
  ⟨(Blk.newAt rfl).alloc.alloc, (Blk.newAt (by simp)).alloc, Blk.newAt (by simp), pa (pa (pa pr))⟩
/-- The cells of the boxes. -/
theorem DBox.cells {lo hi fl wlo whi x0 x1 : Int} {w W : World} (h : DBox lo hi fl wlo whi x0 x1 w W) :
    W.cell? ⟨w.heap.size, 0, none⟩ = some (.int .i64 lo) ∧ W.cell? ⟨w.heap.size, 1, none⟩ = some (.int .i64 hi) ∧ W.cell? ⟨w.heap.size, 2, none⟩ = some (.int .i64 fl) ∧
      W.cell? ⟨w.heap.size + 1, 0, none⟩ = some (.int .i64 wlo) ∧ W.cell? ⟨w.heap.size + 1, 1, none⟩ = some (.int .i64 whi) ∧ W.cell? ⟨w.heap.size + 1 + 1, 0, none⟩ = some (.int .i64 x0) ∧ W.cell? ⟨w.heap.size + 1 + 1, 1, none⟩ = some (.int .i64 x1) ∧ w.heap.size < W.heap.size ∧ w.heap.size + 1 < W.heap.size ∧ w.heap.size + 1 + 1 < W.heap.size :=
  ⟨h.1.cellAt 0 rfl, h.1.cellAt 1 rfl, h.1.cellAt 2 rfl, h.2.1.cellAt 0 rfl, h.2.1.cellAt 1 rfl, h.2.2.1.cellAt 0 rfl, h.2.2.1.cellAt 1 rfl, h.1.lt, h.2.1.lt, h.2.2.1.lt⟩

set_option maxHeartbeats 4000000 in
set_option maxRecDepth 100000 in
theorem drying_bad (lo hi fl wlo whi x0 x1 : Int) (w : World) (h : ovenErrV lo hi fl wlo whi ≠ 0) :
    Calls Try.prog 7 #[.agg #[.int .i64 lo, .int .i64 hi, .int .i64 fl], .agg #[.int .i64 wlo, .int .i64 whi], .agg #[.int .i64 x0, .int .i64 x1]] w fun e w' => e = .returned (.bool true) ∧ Below w.heap.size w w' := by
  have hd : dryErrV lo hi fl wlo whi x0 = ovenErrV lo hi fl wlo whi := by unfold dryErrV; rw [firstV, if_neg h]
  have hs : stepsErrV lo hi fl wlo whi x1 = ovenErrV lo hi fl wlo whi := by unfold stepsErrV; rw [firstV, if_neg h]
  have HDry := Lib.hid fun W => dryAfter_err lo hi fl wlo whi x0 W (by rw [hd]; exact h)
  have HSteps := Lib.hid fun W => stepsFor_err lo hi fl wlo whi x1 W (by rw [hs]; exact h)
  rw [hd] at HDry
  rw [hs] at HSteps
  have hE : ovenErrV lo hi fl wlo whi = if ovenE lo hi fl = 0 then rangeErrV waterB wlo whi else ovenE lo hi fl := by
    unfold ovenErrV
    simp only [firstV]
    split <;> simp
    omega
  have HCk := Lib.hid fun W => checkOven_any lo hi fl W
  have HOv := Lib.hid fun W => refOvenErr_any lo hi fl W
  have HWa := Lib.hid fun W => refWaterErr_any wlo whi W
  have HBx := Lib.hid (DBox.start lo hi fl wlo whi x0 x1 w)
  generalize ovenErrV lo hi fl wlo whi = E at *
  generalize ovenE lo hi fl = O at *
  generalize rangeErrV waterB wlo whi = Wa at *
  clear hd hs
  have n0 : (E == 0) = false := by simpa using h
  have n1 : (E != 0) = true := by simpa using h
  clear h
  by_cases hO : O = 0
  · subst hO
    rw [if_pos rfl] at hE
    subst hE
    go_enter Try.func7, Try.ntmps7
    go_wp2_with (first | (go_at_call 15; refine (awake_any _).mono ?_; rintro e w1 ⟨rfl, hb⟩; replace HBx := Lib.hid (HBx.out.past hb); clear hb; obtain ⟨c0, c1, c2, c3, c4, c5, c6, l0, l1, l2⟩ := HBx.out.cells) | (go_at_call 45; go_must (refine (HDry.out _).mono ?_); rintro e w2 ⟨rfl, hb⟩; clear c0 c1 c2 c3 c4 c5 c6 l0 l1 l2; replace HBx := Lib.hid (HBx.out.past hb); clear hb; obtain ⟨c0, c1, c2, c3, c4, c5, c6, l0, l1, l2⟩ := HBx.out.cells; have k7 := Lib.hid (Blk.new w2 59 #[.int .i64 0, .int .i64 0])) | (go_at_call 46; go_must (refine (HSteps.out _).mono ?_); rintro e w3 ⟨rfl, hb⟩; clear c0 c1 c2 c3 c4 c5 c6 l0 l1 l2; replace HBx := Lib.hid (HBx.out.past (pt (pa pr) hb)); replace k7 := Lib.hid (k7.out.past hb); clear hb; obtain ⟨c0, c1, c2, c3, c4, c5, c6, l0, l1, l2⟩ := HBx.out.cells) | (go_at_call 47; go_must (refine (HOv.out _).mono ?_); rintro e w4 ⟨rfl, hb⟩; clear c0 c1 c2 c3 c4 c5 c6 l0 l1 l2; replace HBx := Lib.hid (HBx.out.past hb); replace k7 := Lib.hid (k7.out.past hb); clear hb; obtain ⟨c0, c1, c2, c3, c4, c5, c6, l0, l1, l2⟩ := HBx.out.cells) | (go_at_call 48; go_must (refine (HCk.out _).mono ?_); rintro e w5 ⟨rfl, hb⟩; clear c0 c1 c2 c3 c4 c5 c6 l0 l1 l2; replace HBx := Lib.hid (HBx.out.past hb); replace k7 := Lib.hid (k7.out.past hb); clear hb; obtain ⟨c0, c1, c2, c3, c4, c5, c6, l0, l1, l2⟩ := HBx.out.cells; have d0 : w5.cell? ⟨w2.heap.size, 0, none⟩ = some (.int .i64 0) := k7.out.cellAt 0 rfl; have d1 : w5.cell? ⟨w2.heap.size, 1, none⟩ = some (.int .i64 0) := k7.out.cellAt 1 rfl; have dl := k7.out.lt) | (go_at_call 49; go_must (refine (HWa.out _).mono ?_); rintro e w6 ⟨rfl, hb⟩; clear d0 d1 dl; clear c0 c1 c2 c3 c4 c5 c6 l0 l1 l2; replace HBx := Lib.hid (HBx.out.past hb); replace k7 := Lib.hid (k7.out.past hb); clear hb; obtain ⟨c0, c1, c2, c3, c4, c5, c6, l0, l1, l2⟩ := HBx.out.cells; have d0 : w6.cell? ⟨w2.heap.size, 0, none⟩ = some (.int .i64 0) := k7.out.cellAt 0 rfl; have d1 : w6.cell? ⟨w2.heap.size, 1, none⟩ = some (.int .i64 0) := k7.out.cellAt 1 rfl; have dl := k7.out.lt))
    go_ret
    exact ⟨rfl, HBx.out.2.2.2⟩
  · rw [if_neg hO] at hE
    subst hE
    clear hO
    go_enter Try.func7, Try.ntmps7
    go_wp2_with (first | (go_at_call 15; refine (awake_any _).mono ?_; rintro e w1 ⟨rfl, hb⟩; replace HBx := Lib.hid (HBx.out.past hb); clear hb; obtain ⟨c0, c1, c2, c3, c4, c5, c6, l0, l1, l2⟩ := HBx.out.cells) | (go_at_call 45; go_must (refine (HDry.out _).mono ?_); rintro e w2 ⟨rfl, hb⟩; clear c0 c1 c2 c3 c4 c5 c6 l0 l1 l2; replace HBx := Lib.hid (HBx.out.past hb); clear hb; obtain ⟨c0, c1, c2, c3, c4, c5, c6, l0, l1, l2⟩ := HBx.out.cells; have k7 := Lib.hid (Blk.new w2 59 #[.int .i64 0, .int .i64 0])) | (go_at_call 46; go_must (refine (HSteps.out _).mono ?_); rintro e w3 ⟨rfl, hb⟩; clear c0 c1 c2 c3 c4 c5 c6 l0 l1 l2; replace HBx := Lib.hid (HBx.out.past (pt (pa pr) hb)); replace k7 := Lib.hid (k7.out.past hb); clear hb; obtain ⟨c0, c1, c2, c3, c4, c5, c6, l0, l1, l2⟩ := HBx.out.cells) | (go_at_call 47; go_must (refine (HOv.out _).mono ?_); rintro e w4 ⟨rfl, hb⟩; clear c0 c1 c2 c3 c4 c5 c6 l0 l1 l2; replace HBx := Lib.hid (HBx.out.past hb); replace k7 := Lib.hid (k7.out.past hb); clear hb; obtain ⟨c0, c1, c2, c3, c4, c5, c6, l0, l1, l2⟩ := HBx.out.cells) | (go_at_call 48; go_must (refine (HCk.out _).mono ?_); rintro e w5 ⟨rfl, hb⟩; clear c0 c1 c2 c3 c4 c5 c6 l0 l1 l2; replace HBx := Lib.hid (HBx.out.past hb); replace k7 := Lib.hid (k7.out.past hb); clear hb; obtain ⟨c0, c1, c2, c3, c4, c5, c6, l0, l1, l2⟩ := HBx.out.cells; have d0 : w5.cell? ⟨w2.heap.size, 0, none⟩ = some (.int .i64 0) := k7.out.cellAt 0 rfl; have d1 : w5.cell? ⟨w2.heap.size, 1, none⟩ = some (.int .i64 0) := k7.out.cellAt 1 rfl; have dl := k7.out.lt))
    go_ret
    exact ⟨rfl, HBx.out.2.2.2⟩

theorem steps_cases (o : Option Nat) : (∃ n : Nat, o = some n) ∨ o = none := by
  cases o with
  | none => exact .inr rfl
  | some n => exact .inl ⟨n, rfl⟩

set_option maxHeartbeats 8000000 in
set_option maxRecDepth 100000 in
theorem drying_good (lo hi fl wlo whi x0 x1 : Int) (w : World) (hO : ovenE lo hi fl = 0) (hW : rangeErrV waterB wlo whi = 0) :
    Calls Try.prog 7 #[.agg #[.int .i64 lo, .int .i64 hi, .int .i64 fl], .agg #[.int .i64 wlo, .int .i64 whi], .agg #[.int .i64 x0, .int .i64 x1]] w fun e w' => e = .returned (.bool true) ∧ Below w.heap.size w w' := by
  obtain ⟨b1, b2, b3, b4, b5, b6⟩ := oven_ok hO
  obtain ⟨v1, v2, v3, v4, _⟩ := water_ok hW
  have hE : ovenErrV lo hi fl wlo whi = 0 := by unfold ovenErrV; rw [hO, hW]; rfl
  have hd : dryErrV lo hi fl wlo whi x0 = unlessV (withinB x0 0 1000) 2 := by
    unfold dryErrV
    rw [hE]
    simp only [firstV, if_true]
    split <;> simp_all
  have hs : stepsErrV lo hi fl wlo whi x1 = unlessV (waterB x1) 2 := by
    unfold stepsErrV
    rw [hE]
    simp only [firstV, if_true]
    split <;> simp_all
  have hdry : ∃ (a b : Int) (e : Int), (∀ W, Calls Try.prog 45 #[.agg #[.int .i64 lo, .int .i64 hi, .int .i64 fl], .agg #[.int .i64 wlo, .int .i64 whi], .int .i64 x0] W fun r w' => r = .returned (.tuple #[.agg #[.int .i64 a, .int .i64 b], .int .i64 e]) ∧ Below W.heap.size W w') ∧
      ((withinB x0 0 1000 = false ∧ a = 0 ∧ b = 0 ∧ e = 2) ∨ (withinB x0 0 1000 = true ∧ e = 0 ∧ ∀ W, Calls Try.prog 50 #[.agg #[.int .i64 lo, .int .i64 hi, .int .i64 fl], .agg #[.int .i64 wlo, .int .i64 whi], .int .i64 x0] W fun r w' => r = .returned (.agg #[.int .i64 a, .int .i64 b]) ∧ Below W.heap.size W w')) := by
    cases hx : withinB x0 0 1000 with
    | false =>
      rw [hx] at hd
      refine ⟨0, 0, 2, fun W => ?_, .inl ⟨rfl, rfl, rfl, rfl⟩⟩
      have h := dryAfter_err lo hi fl wlo whi x0 W (by rw [hd]; decide)
      rw [hd] at h
      exact h
    | true =>
      have hx2 := hx
      simp only [withinB, Bool.and_eq_true, decide_eq_true_eq] at hx2
      obtain ⟨n, rfl⟩ : ∃ n : Nat, x0 = (n : Int) := ⟨x0.toNat, by omega⟩
      exact ⟨_, _, 0, fun W => dryAfter_ok lo hi fl wlo whi n W hE (by omega) b1 b2 b3 b4 b5 b6 v1 v2 v3 v4, .inr ⟨rfl, rfl, fun W => refDryAfter_any lo hi fl wlo whi n W (by omega) b1 b2 b3 b4 b5 b6 v1 v2 v3 v4⟩⟩
  have hst : (waterB x1 = false ∧ ∀ W, Calls Try.prog 46 #[.agg #[.int .i64 lo, .int .i64 hi, .int .i64 fl], .agg #[.int .i64 wlo, .int .i64 whi], .int .i64 x1] W fun r w' => r = .returned (.tuple #[.int .i64 0, .int .i64 2]) ∧ Below W.heap.size W w') ∨
      (waterB x1 = true ∧ (∀ W, Calls Try.prog 46 #[.agg #[.int .i64 lo, .int .i64 hi, .int .i64 fl], .agg #[.int .i64 wlo, .int .i64 whi], .int .i64 x1] W fun r w' => r = .returned (.tuple #[.int .i64 (optN (stepsO lo fl whi x1)), .int .i64 (optE (stepsO lo fl whi x1))]) ∧ Below W.heap.size W w')) := by
    cases hx : waterB x1 with
    | false =>
      rw [hx] at hs
      refine .inl ⟨rfl, fun W => ?_⟩
      have h := stepsFor_err lo hi fl wlo whi x1 W (by rw [hs]; decide)
      rw [hs] at h
      exact h
    | true =>
      rw [hx] at hs
      exact .inr ⟨rfl, fun W => stepsFor_ok lo hi fl wlo whi x1 W hs b1 b2 b3 b4 v3 v4⟩
  have HRs := Lib.hid fun W => refStepsFor_any lo hi fl wlo whi x1 W b1 b2 b3 b4 v3 v4
  have hck := fun W => checkOven_any lo hi fl W
  have hov := fun W => refOvenErr_any lo hi fl W
  have hwa := fun W => refWaterErr_any wlo whi W
  rw [hO] at hck hov
  rw [hW] at hwa
  have HCk := Lib.hid hck
  have HOv := Lib.hid hov
  have HWa := Lib.hid hwa
  have HBx := Lib.hid (DBox.start lo hi fl wlo whi x0 x1 w)
  clear hck hov hwa hd hs hE hO hW
  obtain ⟨a, b, e0, hdry, hcase⟩ := hdry
  have HDry := Lib.hid hdry
  clear hdry
  rcases hcase with ⟨hx0, rfl, rfl, rfl⟩ | ⟨hx0, rfl, hrd⟩
  · rcases hst with ⟨hx1, hst⟩ | ⟨hx1, hst⟩
    · have hx1' : withinB x1 0 1000000 = false := hx1
      have HSteps := Lib.hid hst
      clear hst hx1
      go_enter Try.func7, Try.ntmps7
      go_wp2_with (first | (go_at_call 15; refine (awake_any _).mono ?_; rintro e w1 ⟨rfl, hb⟩; replace HBx := Lib.hid (HBx.out.past hb); clear hb; obtain ⟨c0, c1, c2, c3, c4, c5, c6, l0, l1, l2⟩ := HBx.out.cells) | (go_at_call 45; go_must (refine (HDry.out _).mono ?_); rintro e w2 ⟨rfl, hb⟩; clear c0 c1 c2 c3 c4 c5 c6 l0 l1 l2; replace HBx := Lib.hid (HBx.out.past hb); clear hb; obtain ⟨c0, c1, c2, c3, c4, c5, c6, l0, l1, l2⟩ := HBx.out.cells; have k7 := Lib.hid (Blk.new w2 59 #[.int .i64 0, .int .i64 0])) | (go_at_call 46; go_must (refine (HSteps.out _).mono ?_); rintro e w3 ⟨rfl, hb⟩; clear c0 c1 c2 c3 c4 c5 c6 l0 l1 l2; replace HBx := Lib.hid (HBx.out.past (pt (pa pr) hb)); replace k7 := Lib.hid (k7.out.past hb); clear hb; obtain ⟨c0, c1, c2, c3, c4, c5, c6, l0, l1, l2⟩ := HBx.out.cells) | (go_at_call 47; go_must (refine (HOv.out _).mono ?_); rintro e w4 ⟨rfl, hb⟩; clear c0 c1 c2 c3 c4 c5 c6 l0 l1 l2; replace HBx := Lib.hid (HBx.out.past hb); replace k7 := Lib.hid (k7.out.past hb); clear hb; obtain ⟨c0, c1, c2, c3, c4, c5, c6, l0, l1, l2⟩ := HBx.out.cells) | (go_at_call 48; go_must (refine (HCk.out _).mono ?_); rintro e w5 ⟨rfl, hb⟩; clear c0 c1 c2 c3 c4 c5 c6 l0 l1 l2; replace HBx := Lib.hid (HBx.out.past hb); replace k7 := Lib.hid (k7.out.past hb); clear hb; obtain ⟨c0, c1, c2, c3, c4, c5, c6, l0, l1, l2⟩ := HBx.out.cells; have d0 : w5.cell? ⟨w2.heap.size, 0, none⟩ = some (.int .i64 0) := k7.out.cellAt 0 rfl; have d1 : w5.cell? ⟨w2.heap.size, 1, none⟩ = some (.int .i64 0) := k7.out.cellAt 1 rfl; have dl := k7.out.lt) | (go_at_call 49; go_must (refine (HWa.out _).mono ?_); rintro e w6 ⟨rfl, hb⟩; clear d0 d1 dl; clear c0 c1 c2 c3 c4 c5 c6 l0 l1 l2; replace HBx := Lib.hid (HBx.out.past hb); replace k7 := Lib.hid (k7.out.past hb); clear hb; obtain ⟨c0, c1, c2, c3, c4, c5, c6, l0, l1, l2⟩ := HBx.out.cells; have d0 : w6.cell? ⟨w2.heap.size, 0, none⟩ = some (.int .i64 0) := k7.out.cellAt 0 rfl; have d1 : w6.cell? ⟨w2.heap.size, 1, none⟩ = some (.int .i64 0) := k7.out.cellAt 1 rfl; have dl := k7.out.lt) | (go_at_call 32; refine (baseWithin_any _ _ _ _).mono ?_; rintro e w' ⟨rfl, rfl⟩))
      go_ret
      exact ⟨rfl, HBx.out.2.2.2⟩
    · have hx1' : withinB x1 0 1000000 = true := hx1
      rcases steps_cases (stepsO lo fl whi x1) with ⟨n, ho⟩ | ho
      all_goals
        rw [ho] at HRs hst
        unfold optN optE at hst
        unfold optN optB at HRs
        have HSteps := Lib.hid hst
        clear hst hx1 ho
        go_enter Try.func7, Try.ntmps7
        go_wp2_with (first | (go_at_call 15; refine (awake_any _).mono ?_; rintro e w1 ⟨rfl, hb⟩; replace HBx := Lib.hid (HBx.out.past hb); clear hb; obtain ⟨c0, c1, c2, c3, c4, c5, c6, l0, l1, l2⟩ := HBx.out.cells) | (go_at_call 45; go_must (refine (HDry.out _).mono ?_); rintro e w2 ⟨rfl, hb⟩; clear c0 c1 c2 c3 c4 c5 c6 l0 l1 l2; replace HBx := Lib.hid (HBx.out.past hb); clear hb; obtain ⟨c0, c1, c2, c3, c4, c5, c6, l0, l1, l2⟩ := HBx.out.cells; have k7 := Lib.hid (Blk.new w2 59 #[.int .i64 0, .int .i64 0])) | (go_at_call 46; go_must (refine (HSteps.out _).mono ?_); rintro e w3 ⟨rfl, hb⟩; clear c0 c1 c2 c3 c4 c5 c6 l0 l1 l2; replace HBx := Lib.hid (HBx.out.past (pt (pa pr) hb)); replace k7 := Lib.hid (k7.out.past hb); clear hb; obtain ⟨c0, c1, c2, c3, c4, c5, c6, l0, l1, l2⟩ := HBx.out.cells) | (go_at_call 47; go_must (refine (HOv.out _).mono ?_); rintro e w4 ⟨rfl, hb⟩; clear c0 c1 c2 c3 c4 c5 c6 l0 l1 l2; replace HBx := Lib.hid (HBx.out.past hb); replace k7 := Lib.hid (k7.out.past hb); clear hb; obtain ⟨c0, c1, c2, c3, c4, c5, c6, l0, l1, l2⟩ := HBx.out.cells) | (go_at_call 48; go_must (refine (HCk.out _).mono ?_); rintro e w5 ⟨rfl, hb⟩; clear c0 c1 c2 c3 c4 c5 c6 l0 l1 l2; replace HBx := Lib.hid (HBx.out.past hb); replace k7 := Lib.hid (k7.out.past hb); clear hb; obtain ⟨c0, c1, c2, c3, c4, c5, c6, l0, l1, l2⟩ := HBx.out.cells; have d0 : w5.cell? ⟨w2.heap.size, 0, none⟩ = some (.int .i64 0) := k7.out.cellAt 0 rfl; have d1 : w5.cell? ⟨w2.heap.size, 1, none⟩ = some (.int .i64 0) := k7.out.cellAt 1 rfl; have dl := k7.out.lt) | (go_at_call 49; go_must (refine (HWa.out _).mono ?_); rintro e w6 ⟨rfl, hb⟩; clear d0 d1 dl; clear c0 c1 c2 c3 c4 c5 c6 l0 l1 l2; replace HBx := Lib.hid (HBx.out.past hb); replace k7 := Lib.hid (k7.out.past hb); clear hb; obtain ⟨c0, c1, c2, c3, c4, c5, c6, l0, l1, l2⟩ := HBx.out.cells; have d0 : w6.cell? ⟨w2.heap.size, 0, none⟩ = some (.int .i64 0) := k7.out.cellAt 0 rfl; have d1 : w6.cell? ⟨w2.heap.size, 1, none⟩ = some (.int .i64 0) := k7.out.cellAt 1 rfl; have dl := k7.out.lt) | (go_at_call 32; refine (baseWithin_any _ _ _ _).mono ?_; rintro e w' ⟨rfl, rfl⟩) | (go_at_call 51; go_must (refine (HRs.out _).mono ?_); rintro e w7 ⟨rfl, hb⟩; clear d0 d1 dl; clear c0 c1 c2 c3 c4 c5 c6 l0 l1 l2; replace HBx := Lib.hid (HBx.out.past hb); replace k7 := Lib.hid (k7.out.past hb); clear hb; obtain ⟨c0, c1, c2, c3, c4, c5, c6, l0, l1, l2⟩ := HBx.out.cells))
        go_ret
        exact ⟨rfl, HBx.out.2.2.2⟩
  · have HRd := Lib.hid hrd
    clear hrd
    rcases hst with ⟨hx1, hst⟩ | ⟨hx1, hst⟩
    · have hx1' : withinB x1 0 1000000 = false := hx1
      have HSteps := Lib.hid hst
      clear hst hx1
      go_enter Try.func7, Try.ntmps7
      go_wp2_with (first | (go_at_call 15; refine (awake_any _).mono ?_; rintro e w1 ⟨rfl, hb⟩; replace HBx := Lib.hid (HBx.out.past hb); clear hb; obtain ⟨c0, c1, c2, c3, c4, c5, c6, l0, l1, l2⟩ := HBx.out.cells) | (go_at_call 45; go_must (refine (HDry.out _).mono ?_); rintro e w2 ⟨rfl, hb⟩; clear c0 c1 c2 c3 c4 c5 c6 l0 l1 l2; replace HBx := Lib.hid (HBx.out.past hb); clear hb; obtain ⟨c0, c1, c2, c3, c4, c5, c6, l0, l1, l2⟩ := HBx.out.cells; have k7 := Lib.hid (Blk.new w2 59 #[.int .i64 a, .int .i64 b])) | (go_at_call 46; go_must (refine (HSteps.out _).mono ?_); rintro e w3 ⟨rfl, hb⟩; clear c0 c1 c2 c3 c4 c5 c6 l0 l1 l2; replace HBx := Lib.hid (HBx.out.past (pt (pa pr) hb)); replace k7 := Lib.hid (k7.out.past hb); clear hb; obtain ⟨c0, c1, c2, c3, c4, c5, c6, l0, l1, l2⟩ := HBx.out.cells) | (go_at_call 47; go_must (refine (HOv.out _).mono ?_); rintro e w4 ⟨rfl, hb⟩; clear c0 c1 c2 c3 c4 c5 c6 l0 l1 l2; replace HBx := Lib.hid (HBx.out.past hb); replace k7 := Lib.hid (k7.out.past hb); clear hb; obtain ⟨c0, c1, c2, c3, c4, c5, c6, l0, l1, l2⟩ := HBx.out.cells) | (go_at_call 48; go_must (refine (HCk.out _).mono ?_); rintro e w5 ⟨rfl, hb⟩; clear c0 c1 c2 c3 c4 c5 c6 l0 l1 l2; replace HBx := Lib.hid (HBx.out.past hb); replace k7 := Lib.hid (k7.out.past hb); clear hb; obtain ⟨c0, c1, c2, c3, c4, c5, c6, l0, l1, l2⟩ := HBx.out.cells; have d0 : w5.cell? ⟨w2.heap.size, 0, none⟩ = some (.int .i64 a) := k7.out.cellAt 0 rfl; have d1 : w5.cell? ⟨w2.heap.size, 1, none⟩ = some (.int .i64 b) := k7.out.cellAt 1 rfl; have dl := k7.out.lt) | (go_at_call 49; go_must (refine (HWa.out _).mono ?_); rintro e w6 ⟨rfl, hb⟩; clear d0 d1 dl; clear c0 c1 c2 c3 c4 c5 c6 l0 l1 l2; replace HBx := Lib.hid (HBx.out.past hb); replace k7 := Lib.hid (k7.out.past hb); clear hb; obtain ⟨c0, c1, c2, c3, c4, c5, c6, l0, l1, l2⟩ := HBx.out.cells; have d0 : w6.cell? ⟨w2.heap.size, 0, none⟩ = some (.int .i64 a) := k7.out.cellAt 0 rfl; have d1 : w6.cell? ⟨w2.heap.size, 1, none⟩ = some (.int .i64 b) := k7.out.cellAt 1 rfl; have dl := k7.out.lt) | (go_at_call 32; refine (baseWithin_any _ _ _ _).mono ?_; rintro e w' ⟨rfl, rfl⟩))
      refine region_below 10 follows_mixed (by kernel_rfl) ?_
      intro C hC
      simp only [List.take_succ_cons, List.take_zero, List.drop_succ_cons, List.drop_zero]
      repeat (first
        | ((with_reducible refine quiet_plain rfl (fun K hK => ?_)); (focus (apply quiet_val; (focus (intro w' hw; obtain ⟨hcq, hfq⟩ := bcell ((hC.out _).1 hw); go_simp; (first | done | rfl | (with_reducible exact call_below hC hw (HRd.out _))))); (simp only [Act.put, List.setIfInBounds_toArray, List.set_cons_succ, List.set_cons_zero]); (with_reducible refine hK _ ?_); clear hK K)))
        | ((with_reducible refine quiet_skip ?_ ?_); (focus (simp [Region.wanted, yielded]; done)); simp only [Act.put, List.setIfInBounds_toArray, List.set_cons_succ, List.set_cons_zero])
        | ((with_reducible refine quiet_go ?_ (fun K hK => ?_)); (focus (simp [Region.wanted, yielded]; done)); (focus (apply quiet_val; (focus (intro w' hw; obtain ⟨hcq, hfq⟩ := bcell ((hC.out _).1 hw); go_simp; (first | done | rfl | (with_reducible exact call_below hC hw (HRd.out _))))); (simp only [Act.put, List.setIfInBounds_toArray, List.set_cons_succ, List.set_cons_zero]); (with_reducible refine hK _ ?_); clear hK K))))
      refine wpQuiet_nil ?_
      intro w1 hb1
      replace hb1 := (hC.out _).1 hb1
      clear hC C
      obtain ⟨hc1, hf1⟩ := bcell hb1
      clear d0 d1 dl c0 c1 c2 c3 c4 c5 c6 l0 l1 l2 hc1 hf1
      replace HBx := Lib.hid (HBx.out.past hb1)
      obtain ⟨c0, c1, c2, c3, c4, c5, c6, l0, l1, l2⟩ := HBx.out.cells
      go_wp2_with (go_at_call 32; refine (baseWithin_any _ _ _ _).mono ?_; rintro e w' ⟨rfl, rfl⟩)
      go_ret
      exact ⟨rfl, HBx.out.2.2.2⟩
    · have hx1' : withinB x1 0 1000000 = true := hx1
      rcases steps_cases (stepsO lo fl whi x1) with ⟨n, ho⟩ | ho
      all_goals
        rw [ho] at HRs hst
        unfold optN optE at hst
        unfold optN optB at HRs
        have HSteps := Lib.hid hst
        clear hst hx1 ho
        go_enter Try.func7, Try.ntmps7
        go_wp2_with (first | (go_at_call 15; refine (awake_any _).mono ?_; rintro e w1 ⟨rfl, hb⟩; replace HBx := Lib.hid (HBx.out.past hb); clear hb; obtain ⟨c0, c1, c2, c3, c4, c5, c6, l0, l1, l2⟩ := HBx.out.cells) | (go_at_call 45; go_must (refine (HDry.out _).mono ?_); rintro e w2 ⟨rfl, hb⟩; clear c0 c1 c2 c3 c4 c5 c6 l0 l1 l2; replace HBx := Lib.hid (HBx.out.past hb); clear hb; obtain ⟨c0, c1, c2, c3, c4, c5, c6, l0, l1, l2⟩ := HBx.out.cells; have k7 := Lib.hid (Blk.new w2 59 #[.int .i64 a, .int .i64 b])) | (go_at_call 46; go_must (refine (HSteps.out _).mono ?_); rintro e w3 ⟨rfl, hb⟩; clear c0 c1 c2 c3 c4 c5 c6 l0 l1 l2; replace HBx := Lib.hid (HBx.out.past (pt (pa pr) hb)); replace k7 := Lib.hid (k7.out.past hb); clear hb; obtain ⟨c0, c1, c2, c3, c4, c5, c6, l0, l1, l2⟩ := HBx.out.cells) | (go_at_call 47; go_must (refine (HOv.out _).mono ?_); rintro e w4 ⟨rfl, hb⟩; clear c0 c1 c2 c3 c4 c5 c6 l0 l1 l2; replace HBx := Lib.hid (HBx.out.past hb); replace k7 := Lib.hid (k7.out.past hb); clear hb; obtain ⟨c0, c1, c2, c3, c4, c5, c6, l0, l1, l2⟩ := HBx.out.cells) | (go_at_call 48; go_must (refine (HCk.out _).mono ?_); rintro e w5 ⟨rfl, hb⟩; clear c0 c1 c2 c3 c4 c5 c6 l0 l1 l2; replace HBx := Lib.hid (HBx.out.past hb); replace k7 := Lib.hid (k7.out.past hb); clear hb; obtain ⟨c0, c1, c2, c3, c4, c5, c6, l0, l1, l2⟩ := HBx.out.cells; have d0 : w5.cell? ⟨w2.heap.size, 0, none⟩ = some (.int .i64 a) := k7.out.cellAt 0 rfl; have d1 : w5.cell? ⟨w2.heap.size, 1, none⟩ = some (.int .i64 b) := k7.out.cellAt 1 rfl; have dl := k7.out.lt) | (go_at_call 49; go_must (refine (HWa.out _).mono ?_); rintro e w6 ⟨rfl, hb⟩; clear d0 d1 dl; clear c0 c1 c2 c3 c4 c5 c6 l0 l1 l2; replace HBx := Lib.hid (HBx.out.past hb); replace k7 := Lib.hid (k7.out.past hb); clear hb; obtain ⟨c0, c1, c2, c3, c4, c5, c6, l0, l1, l2⟩ := HBx.out.cells; have d0 : w6.cell? ⟨w2.heap.size, 0, none⟩ = some (.int .i64 a) := k7.out.cellAt 0 rfl; have d1 : w6.cell? ⟨w2.heap.size, 1, none⟩ = some (.int .i64 b) := k7.out.cellAt 1 rfl; have dl := k7.out.lt) | (go_at_call 32; refine (baseWithin_any _ _ _ _).mono ?_; rintro e w' ⟨rfl, rfl⟩))
        refine region_below 10 follows_mixed (by kernel_rfl) ?_
        intro C hC
        simp only [List.take_succ_cons, List.take_zero, List.drop_succ_cons, List.drop_zero]
        repeat (first
          | ((with_reducible refine quiet_plain rfl (fun K hK => ?_)); (focus (apply quiet_val; (focus (intro w' hw; obtain ⟨hcq, hfq⟩ := bcell ((hC.out _).1 hw); go_simp; (first | done | rfl | (with_reducible exact call_below hC hw (HRd.out _))))); (simp only [Act.put, List.setIfInBounds_toArray, List.set_cons_succ, List.set_cons_zero]); (with_reducible refine hK _ ?_); clear hK K)))
          | ((with_reducible refine quiet_skip ?_ ?_); (focus (simp [Region.wanted, yielded]; done)); simp only [Act.put, List.setIfInBounds_toArray, List.set_cons_succ, List.set_cons_zero])
          | ((with_reducible refine quiet_go ?_ (fun K hK => ?_)); (focus (simp [Region.wanted, yielded]; done)); (focus (apply quiet_val; (focus (intro w' hw; obtain ⟨hcq, hfq⟩ := bcell ((hC.out _).1 hw); go_simp; (first | done | rfl | (with_reducible exact call_below hC hw (HRd.out _))))); (simp only [Act.put, List.setIfInBounds_toArray, List.set_cons_succ, List.set_cons_zero]); (with_reducible refine hK _ ?_); clear hK K))))
        refine wpQuiet_nil ?_
        intro w1 hb1
        replace hb1 := (hC.out _).1 hb1
        clear hC C
        obtain ⟨hc1, hf1⟩ := bcell hb1
        clear d0 d1 dl c0 c1 c2 c3 c4 c5 c6 l0 l1 l2 hc1 hf1
        replace HBx := Lib.hid (HBx.out.past hb1)
        obtain ⟨c0, c1, c2, c3, c4, c5, c6, l0, l1, l2⟩ := HBx.out.cells
        go_wp2_with (first | (go_at_call 32; refine (baseWithin_any _ _ _ _).mono ?_; rintro e w' ⟨rfl, rfl⟩) | (go_at_call 51; go_must (refine (HRs.out _).mono ?_); rintro e w7 ⟨rfl, hb⟩; clear c0 c1 c2 c3 c4 c5 c6 l0 l1 l2; replace HBx := Lib.hid (HBx.out.past hb)))
        go_ret
        exact ⟨rfl, HBx.out.2.2.2⟩

theorem drying_walk (lo hi fl wlo whi x0 x1 : Int) (w : World) :
    Calls Try.prog 7 #[.agg #[.int .i64 lo, .int .i64 hi, .int .i64 fl], .agg #[.int .i64 wlo, .int .i64 whi], .agg #[.int .i64 x0, .int .i64 x1]] w fun e w' => e = .returned (.bool true) ∧ Below w.heap.size w w' := by
  by_cases h : ovenErrV lo hi fl wlo whi = 0
  · obtain ⟨h1, h2⟩ := firstV_zero.1 h
    exact drying_good lo hi fl wlo whi x0 x1 w h1 (firstV_zero.1 h2).1
  · exact drying_bad lo hi fl wlo whi x0 x1 w h

end Go.Proofs.Ytlgioldmjohhlaa
