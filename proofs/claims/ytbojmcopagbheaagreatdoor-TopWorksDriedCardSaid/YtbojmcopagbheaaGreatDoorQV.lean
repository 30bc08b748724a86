/- Contracts of the functions of package works that check an oven, and dry in it.
Contracts: the number of steps for a target; the specification's drying. -/
import Derived.Test.YtbojmcopagbheaaGreatDoorQ3
import Derived.Test.YtbojmcopagbheaaGreatDoorQ1

section
namespace Go.Proofs.YtbojmcopagbheaaGreatDoor
open Go.RowKit

def ovenE (lo hi fl : Int) : Int := firstV [rangeErrV rateB lo hi, unlessV (waterB fl) 2]
def ovenErrV (lo hi fl wlo whi : Int) : Int := firstV [ovenE lo hi fl, rangeErrV waterB wlo whi]

set_option maxHeartbeats 1000000 in
theorem checkOven_any (lo hi fl : Int) (w : World) :
    Calls Tryz.prog 84 #[.agg #[.int .i64 lo, .int .i64 hi, .int .i64 fl]] w fun r w' => r = .returned (.int .i64 (ovenE lo hi fl)) ∧ Below w.heap.size w w' := by
  go_enter Tryz.func84, Tryz.ntmps84
  go_wp2_with (first
    | (go_at_call 85; refine (rangeErr_rate _ _ _).mono ?_; rintro e w1 ⟨rfl, hb⟩; obtain ⟨hc, hf⟩ := bcell hb)
    | (go_at_call 48; refine (isWater_any _ _).mono ?_; rintro e w' ⟨rfl, rfl⟩)
    | (go_at_call 47; refine (unless_any _ _ _).mono ?_; rintro e w' ⟨rfl, rfl⟩)
    | (go_at_call 45; refine (first2 _ _ _ _ _ (by go_simp; rfl) (by go_simp; rfl)).mono ?_; rintro e w' ⟨rfl, rfl⟩))
  go_ret
  exact ⟨rfl, pa (pt (pa pr) hb)⟩

set_option maxHeartbeats 1000000 in
set_option maxRecDepth 100000 in
theorem ovenErr_any (lo hi fl wlo whi : Int) (w : World) :
    Calls Tryz.prog 46 #[.agg #[.int .i64 lo, .int .i64 hi, .int .i64 fl], .agg #[.int .i64 wlo, .int .i64 whi]] w fun r w' => r = .returned (.int .i64 (ovenErrV lo hi fl wlo whi)) ∧ Below w.heap.size w w' := by
  go_enter Tryz.func46, Tryz.ntmps46
  go_wp2
  refine region_below 4 follows_mixed (by kernel_rfl) ?_
  intro C hC
  simp only [List.take_succ_cons, List.take_zero, List.drop_succ_cons, List.drop_zero]
  repeat (first
    | ((with_reducible refine quiet_plain rfl (fun K hK => ?_)); (focus (apply quiet_val; (focus (intro w' hw; obtain ⟨hcq, hfq⟩ := bcell ((hC.out _).1 hw); go_simp; (first | done | rfl | (with_reducible exact call_below hC hw (checkOven_any _ _ _ _)) | (with_reducible exact call_below hC hw (rangeErr_water _ _ _))))); (simp only [Act.put, List.setIfInBounds_toArray, List.set_cons_succ, List.set_cons_zero]); (with_reducible refine hK _ ?_); clear hK K)))
    | ((with_reducible refine quiet_skip ?_ ?_); (focus (first | (simp [Region.wanted, yielded]; done) | (simp [Region.wanted, yielded, undef]; done))); simp only [Act.put, List.setIfInBounds_toArray, List.set_cons_succ, List.set_cons_zero])
    | ((with_reducible refine quiet_go ?_ (fun K hK => ?_)); (focus (first | (simp [Region.wanted, yielded]; done) | (simp [Region.wanted, yielded, undef]; done))); (focus (apply quiet_val; (focus (intro w' hw; obtain ⟨hcq, hfq⟩ := bcell ((hC.out _).1 hw); go_simp; (first | done | rfl | (with_reducible exact call_below hC hw (checkOven_any _ _ _ _)) | (with_reducible exact call_below hC hw (rangeErr_water _ _ _))))); (simp only [Act.put, List.setIfInBounds_toArray, List.set_cons_succ, List.set_cons_zero]); (with_reducible refine hK _ ?_); clear hK K))))
  refine wpQuiet_nil ?_
  intro w1 hb1
  replace hb1 := (hC.out _).1 hb1
  clear hC C
  obtain ⟨hc1, hf1⟩ := bcell hb1
  go_wp2_with (go_at_call 45; refine (first2 _ _ _ _ _ (by go_simp; rfl) (by go_simp; rfl)).mono ?_; rintro e w' ⟨rfl, rfl⟩)
  go_ret
  exact ⟨rfl, pa (pt (pa (pa pr)) hb1)⟩

def driedV (fl water rate : Int) : Int := water - max 0 (water - fl) * rate / 1000

theorem driedV_bd {fl water rate : Int} (h1 : 0 ≤ water) (h2 : water ≤ 1000000) (h3 : 0 ≤ fl) (h5 : 0 ≤ rate) (h6 : rate ≤ 1000) :
    0 ≤ driedV fl water rate ∧ driedV fl water rate ≤ water ∧ min water fl ≤ driedV fl water rate := by
  unfold driedV
  have hm : 0 ≤ max 0 (water - fl) := by omega
  have hb := mul_bd hm (Int.le_refl _) h5 h6
  have hM : max 0 (water - fl) = 0 ∨ max 0 (water - fl) = water - fl := by omega
  rcases hM with e | e <;> rw [e] at hb ⊢ <;> omega

theorem dried_hi {fl water rate : Int} (h1 : 0 ≤ water) (h2 : water ≤ 1000000) (h3 : 0 ≤ fl) (h5 : 0 ≤ rate) (h6 : rate ≤ 1000) (h : fl < water) :
    wrap64 (water - wrap64 ((wrap64 ((water - fl) * rate)).tdiv 1000)) = driedV fl water rate := by
  have hb := mul_bd (a := water - fl) (A := 1000000) (by omega) (by omega) h5 h6
  have e : max 0 (water - fl) = water - fl := by omega
  unfold driedV
  rw [e]
  generalize (water - fl) * rate = x at *
  rw [w64 (n := x) (by omega), Int.tdiv_eq_ediv_of_nonneg (by omega), w64 (n := x / 1000) (by omega), w64 (by omega)]

theorem dried_lo {fl water rate : Int} (h : water ≤ fl) : water = driedV fl water rate := by
  have e : max 0 (water - fl) = 0 := by omega
  unfold driedV
  rw [e, Int.zero_mul]
  omega

set_option maxHeartbeats 1000000 in
theorem dried_any (lo hi fl water rate : Int) (w : World) (h1 : 0 ≤ water) (h2 : water ≤ 1000000) (h3 : 0 ≤ fl) (h4 : fl ≤ 1000000) (h5 : 0 ≤ rate) (h6 : rate ≤ 1000) :
    Calls Tryz.prog 49 #[.agg #[.int .i64 lo, .int .i64 hi, .int .i64 fl], .int .i64 water, .int .i64 rate] w fun r w' => r = .returned (.int .i64 (driedV fl water rate)) ∧ Below w.heap.size w w' := by
  rcases Int.lt_or_le fl water with h | h
  · go_enter Tryz.func49, Tryz.ntmps49
    go_wp2
    go_ret
    exact ⟨ret_int (dried_hi h1 h2 h3 h5 h6 h), pa pr⟩
  · go_enter Tryz.func49, Tryz.ntmps49
    go_wp2
    go_ret
    exact ⟨ret_int (dried_lo h), pa pr⟩

/-- The water after so many steps. -/
def dryN (rlo rhi fl : Int) : Nat → Int × Int → Int × Int
  | 0, p => p
  | n + 1, p => (driedV fl (dryN rlo rhi fl n p).1 rhi, driedV fl (dryN rlo rhi fl n p).2 rlo)

theorem dryN_bd {rlo rhi fl : Int} {p : Int × Int} (h3 : 0 ≤ fl) (h5 : 0 ≤ rlo) (h6 : rlo ≤ 1000) (h7 : 0 ≤ rhi) (h8 : rhi ≤ 1000) (h1 : 0 ≤ p.1) (h2 : p.1 ≤ 1000000) (g1 : 0 ≤ p.2) (g2 : p.2 ≤ 1000000) :
    ∀ n, 0 ≤ (dryN rlo rhi fl n p).1 ∧ (dryN rlo rhi fl n p).1 ≤ 1000000 ∧ 0 ≤ (dryN rlo rhi fl n p).2 ∧ (dryN rlo rhi fl n p).2 ≤ 1000000
  | 0 => ⟨h1, h2, g1, g2⟩
  | n + 1 => by
    obtain ⟨a, b, c, d⟩ := dryN_bd h3 h5 h6 h7 h8 h1 h2 g1 g2 n
    have e := driedV_bd (rate := rhi) a b h3 h7 h8
    have f := driedV_bd (rate := rlo) c d h3 h5 h6
    simp only [dryN]
    omega

/-- What holds of memory when k steps are over. -/
def DryRel (w : World) (lo hi fl : Int) (p : Int × Int) (wr : World) : Prop :=
  Blk wr w.heap.size 31 #[.int .i64 lo, .int .i64 hi, .int .i64 fl] ∧ Blk wr (w.heap.size + 1) 29 #[.int .i64 p.1, .int .i64 p.2] ∧ Blk wr (w.heap.size + 1 + 1) 29 #[.int .i64 0, .int .i64 0] ∧ Below w.heap.size w wr

set_option maxHeartbeats 1000000 in
set_option maxRecDepth 100000 in
theorem dryAfter_ok (lo hi fl wlo whi : Int) (n : Nat) (w : World) (he : ovenErrV lo hi fl wlo whi = 0) (hn : n ≤ 1000)
    (h3 : 0 ≤ fl) (h4 : fl ≤ 1000000) (h5 : 0 ≤ lo) (h6 : lo ≤ 1000) (h7 : 0 ≤ hi) (h8 : hi ≤ 1000) (h1 : 0 ≤ wlo) (h2 : wlo ≤ 1000000) (g1 : 0 ≤ whi) (g2 : whi ≤ 1000000) :
    Calls Tryz.prog 42 #[.agg #[.int .i64 lo, .int .i64 hi, .int .i64 fl], .agg #[.int .i64 wlo, .int .i64 whi], .int .i64 (n : Int)] w fun r w' =>
      r = .returned (.tuple #[.agg #[.int .i64 (dryN lo hi fl n (wlo, whi)).1, .int .i64 (dryN lo hi fl n (wlo, whi)).2], .int .i64 0]) ∧ Below w.heap.size w w' := by
  have hbd := dryN_bd (p := (wlo, whi)) h3 h5 h6 h7 h8 h1 h2 g1 g2
  have hfirst : firstV [ovenErrV lo hi fl wlo whi, unlessV (withinB (n : Int) 0 1000) 2] = 0 := by
    have : withinB (n : Int) 0 1000 = true := by simp [withinB]; omega
    rw [he, this]; rfl
  have HF := Lib.hid hfirst
  have HB := Lib.hid hbd
  clear hfirst hbd he
  go_enter Tryz.func42, Tryz.ntmps42
  go_wp2_with (first
    | (go_at_call 46; refine (ovenErr_any _ _ _ _ _ _).mono ?_; rintro e w1 ⟨rfl, hb⟩; obtain ⟨hc, hf⟩ := bcell hb)
    | (go_at_call 61; refine (within_any _ _ _ _).mono ?_; rintro e w' ⟨rfl, rfl⟩)
    | (go_at_call 47; refine (unless_any _ _ _).mono ?_; rintro e w' ⟨rfl, rfl⟩)
    | (go_at_call 45; refine (first2 _ _ _ _ _ (by go_simp; rfl) (by go_simp; rfl)).mono ?_; rintro e w' ⟨rfl, rfl⟩; rw [HF.out]))
  have b0 : Blk w1 w.heap.size 31 #[.int .i64 lo, .int .i64 hi, .int .i64 fl] := (((Blk.newAt rfl).alloc).alloc).past hb
  have b1 : Blk w1 (w.heap.size + 1) 29 #[.int .i64 wlo, .int .i64 whi] := ((Blk.newAt (by simp)).alloc).past hb
  have b2 : Blk w1 (w.heap.size + 1 + 1) 29 #[.int .i64 0, .int .i64 0] := (Blk.newAt (by simp)).past hb
  have hB := pt (pa (pa (pa pr))) hb
  clear hb hc hf HF
  go_loopw [22] (fun i wr => ∃ k : Nat, k ≤ n ∧ i = .int .i64 (k : Int) ∧ DryRel w lo hi fl (dryN lo hi fl k (wlo, whi)) wr) (fun i _ => n - (intOf i).toNat)
  case atStart => exact ⟨0, Nat.zero_le _, rfl, b0.alloc, b1.alloc, b2.alloc, pa hB⟩
  case round =>
    obtain ⟨k, hk, rfl, r0, r1, r2, hr⟩ := hrel
    clear b0 b1 b2 hB
    have hbk := HB.out k
    have HS := Lib.hid (show dryN lo hi fl (k + 1) (wlo, whi) = (driedV fl (dryN lo hi fl k (wlo, whi)).1 hi, driedV fl (dryN lo hi fl k (wlo, whi)).2 lo) from rfl)
    have HN := Lib.hid (show n = k → dryN lo hi fl n (wlo, whi) = dryN lo hi fl k (wlo, whi) from fun e => by rw [e])
    generalize dryN lo hi fl k (wlo, whi) = p at *
    obtain ⟨a1, a2, a3, a4⟩ := hbk
    have c0 := r0.cellAt 0 rfl
    have c1 := r0.cellAt 1 rfl
    have c2 := r0.cellAt 2 rfl
    have c3 := r1.cellAt 0 rfl
    have c4 := r1.cellAt 1 rfl
    have c5 := r2.cellAt 0 rfl
    have c6 := r2.cellAt 1 rfl
    have f3 := r1.frozen 0
    have f4 := r1.frozen 1
    have f5 := r2.frozen 0
    have f6 := r2.frozen 1
    have z0 := r0.lt
    have z1 := r1.lt
    have z2 := r2.lt
    by_cases hlt : k < n
    · go_wp2
      refine region_below 15 follows_mixed (by kernel_rfl) ?_
      intro C hC
      simp only [List.take_succ_cons, List.take_zero, List.drop_succ_cons, List.drop_zero]
      repeat (first
        | ((with_reducible refine quiet_plain rfl (fun K hK => ?_)); (focus (apply quiet_val; (focus (intro w' hw; obtain ⟨hcq, hfq⟩ := bcell ((hC.out _).1 hw); go_simp; (first | done | rfl | (with_reducible exact call_below hC hw (dried_any _ _ _ _ _ _ a1 a2 h3 h4 h7 h8)) | (with_reducible exact call_below hC hw (dried_any _ _ _ _ _ _ a3 a4 h3 h4 h5 h6))))); (simp only [Act.put, List.setIfInBounds_toArray, List.set_cons_succ, List.set_cons_zero]); (with_reducible refine hK _ ?_); clear hK K)))
        | ((with_reducible refine quiet_skip ?_ ?_); (focus (first | (simp [Region.wanted, yielded]; done) | (simp [Region.wanted, yielded, undef]; done))); simp only [Act.put, List.setIfInBounds_toArray, List.set_cons_succ, List.set_cons_zero])
        | ((with_reducible refine quiet_go ?_ (fun K hK => ?_)); (focus (first | (simp [Region.wanted, yielded]; done) | (simp [Region.wanted, yielded, undef]; done))); (focus (apply quiet_val; (focus (intro w' hw; obtain ⟨hcq, hfq⟩ := bcell ((hC.out _).1 hw); go_simp; (first | done | rfl | (with_reducible exact call_below hC hw (dried_any _ _ _ _ _ _ a1 a2 h3 h4 h7 h8)) | (with_reducible exact call_below hC hw (dried_any _ _ _ _ _ _ a3 a4 h3 h4 h5 h6))))); (simp only [Act.put, List.setIfInBounds_toArray, List.set_cons_succ, List.set_cons_zero]); (with_reducible refine hK _ ?_); clear hK K))))
      refine wpQuiet_nil ?_
      intro w1 hb1
      replace hb1 := (hC.out _).1 hb1
      clear hC C
      obtain ⟨hc1, hf1⟩ := bcell hb1
      go_wp2
      go_roundw
      case rel =>
        refine ⟨k + 1, by omega, by go_num, ?_⟩
        rw [HS.out]
        exact ⟨((r0.past hb1).far (by simp)).far (by simp), by simpa using ((r1.past hb1).set_ 0 _).set_ 1 _, ((r2.past hb1).far (by simp)).far (by simp), ps (ps (pt hr hb1) (by simp)) (by simp)⟩
      case measure => simp [intOf]; omega
    · have hkn : n = k := by omega
      have HN' := Lib.hid (HN.out hkn)
      clear hkn
      go_wp2
      refine bodyPost_ret (v := .tuple #[.agg #[.int .i64 p.1, .int .i64 p.2], .int .i64 0]) (by simp [results, Tryz.results42, go_sem, c5, c6]) rfl ⟨by rw [HN'.out], ?_⟩
      exact ps (ps hr (by dsimp only; omega)) (by dsimp only; omega)

/-- Whatever is refused: the zero range, and the error. -/
def dryErrV (lo hi fl wlo whi n : Int) : Int := firstV [ovenErrV lo hi fl wlo whi, unlessV (withinB n 0 1000) 2]

set_option maxHeartbeats 1000000 in
theorem dryAfter_err (lo hi fl wlo whi n : Int) (w : World) (he : dryErrV lo hi fl wlo whi n ≠ 0) :
    Calls Tryz.prog 42 #[.agg #[.int .i64 lo, .int .i64 hi, .int .i64 fl], .agg #[.int .i64 wlo, .int .i64 whi], .int .i64 n] w fun r w' =>
      r = .returned (.tuple #[.agg #[.int .i64 0, .int .i64 0], .int .i64 (dryErrV lo hi fl wlo whi n)]) ∧ Below w.heap.size w w' := by
  have hne : (dryErrV lo hi fl wlo whi n == 0) = false := by simpa using he
  have HD := Lib.hid (show firstV [ovenErrV lo hi fl wlo whi, unlessV (withinB n 0 1000) 2] = dryErrV lo hi fl wlo whi n from rfl)
  clear he
  go_enter Tryz.func42, Tryz.ntmps42
  go_wp2_with (first
    | (go_at_call 46; refine (ovenErr_any _ _ _ _ _ _).mono ?_; rintro e w1 ⟨rfl, hb⟩; obtain ⟨hc, hf⟩ := bcell hb; have r2 : Blk w1 (w.heap.size + 1 + 1) 29 #[.int .i64 0, .int .i64 0] := (Blk.newAt (by simp)).past hb; have c5 := r2.cellAt 0 rfl; have c6 := r2.cellAt 1 rfl; have f5 := r2.frozen 0; have f6 := r2.frozen 1; have z2 := r2.lt)
    | (go_at_call 61; refine (within_any _ _ _ _).mono ?_; rintro e w' ⟨rfl, rfl⟩)
    | (go_at_call 47; refine (unless_any _ _ _).mono ?_; rintro e w' ⟨rfl, rfl⟩)
    | (go_at_call 45; refine (first2 _ _ _ _ _ (by go_simp; rfl) (by go_simp; rfl)).mono ?_; rintro e w' ⟨rfl, rfl⟩; rw [HD.out]))
  refine bodyPost_ret (v := .tuple #[.agg #[.int .i64 0, .int .i64 0], .int .i64 (dryErrV lo hi fl wlo whi n)]) (by simp [results, Tryz.results42, go_sem, c5, c6, z2]) rfl ⟨rfl, ?_⟩
  exact pa (ps (ps (pt (pa (pa (pa pr))) hb) (by dsimp only; omega)) (by dsimp only; omega))

end Go.Proofs.YtbojmcopagbheaaGreatDoor
end

section
namespace Go.Proofs.YtbojmcopagbheaaGreatDoor
open Go.RowKit

/-- The upper end after so many steps. -/
def hiN (rlo fl hi : Int) : Nat → Int
  | 0 => hi
  | n + 1 => driedV fl (hiN rlo fl hi n) rlo
theorem dryN_hi (rlo rhi fl wlo whi : Int) : ∀ n, (dryN rlo rhi fl n (wlo, whi)).2 = hiN rlo fl whi n
  | 0 => rfl
  | n + 1 => by show driedV fl (dryN rlo rhi fl n (wlo, whi)).2 rlo = _; rw [dryN_hi rlo rhi fl wlo whi n]; rfl
theorem hiN_bd {rlo fl hi : Int} (h3 : 0 ≤ fl) (h5 : 0 ≤ rlo) (h6 : rlo ≤ 1000) (g1 : 0 ≤ hi) (g2 : hi ≤ 1000000) : ∀ n, 0 ≤ hiN rlo fl hi n ∧ hiN rlo fl hi n ≤ 1000000
  | 0 => ⟨g1, g2⟩
  | n + 1 => by
    obtain ⟨a, b⟩ := hiN_bd h3 h5 h6 g1 g2 n
    have e := driedV_bd (rate := rlo) a b h3 h5 h6
    simp only [hiN]
    omega

/-- The first number from k on at which g is at most t, among m. -/
def stepsF (g : Nat → Int) (t : Int) : Nat → Nat → Option Nat
  | 0, _ => none
  | m + 1, k => if g k ≤ t then some k else stepsF g t m (k + 1)
def stepsO (rlo fl hi t : Int) : Option Nat := stepsF (hiN rlo fl hi) t 1001 0
def optN : Option Nat → Int
  | some n => (n : Int)
  | none => 0
def optE : Option Nat → Int
  | some _ => 0
  | none => 12
def optB : Option Nat → Bool
  | some _ => true
  | none => false

/-- What is refused. -/
def stepsErrV (lo hi fl wlo whi t : Int) : Int := firstV [ovenErrV lo hi fl wlo whi, unlessV (waterB t) 2]

set_option maxHeartbeats 1000000 in
theorem stepsFor_err (lo hi fl wlo whi t : Int) (w : World) (he : stepsErrV lo hi fl wlo whi t ≠ 0) :
    Calls Tryz.prog 11 #[.agg #[.int .i64 lo, .int .i64 hi, .int .i64 fl], .agg #[.int .i64 wlo, .int .i64 whi], .int .i64 t] w fun r w' =>
      r = .returned (.tuple #[.int .i64 0, .int .i64 (stepsErrV lo hi fl wlo whi t)]) ∧ Below w.heap.size w w' := by
  have hne : (stepsErrV lo hi fl wlo whi t == 0) = false := by simpa using he
  have HD := Lib.hid (show firstV [ovenErrV lo hi fl wlo whi, unlessV (waterB t) 2] = stepsErrV lo hi fl wlo whi t from rfl)
  clear he
  go_enter Tryz.func11, Tryz.ntmps11
  go_wp2_with (first
    | (go_at_call 46; refine (ovenErr_any _ _ _ _ _ _).mono ?_; rintro e w1 ⟨rfl, hb⟩; obtain ⟨hc, hf⟩ := bcell hb)
    | (go_at_call 48; refine (isWater_any _ _).mono ?_; rintro e w' ⟨rfl, rfl⟩)
    | (go_at_call 47; refine (unless_any _ _ _).mono ?_; rintro e w' ⟨rfl, rfl⟩)
    | (go_at_call 45; refine (first2 _ _ _ _ _ (by go_simp; rfl) (by go_simp; rfl)).mono ?_; rintro e w' ⟨rfl, rfl⟩; rw [HD.out]))
  go_ret2
  exact ⟨rfl, pa (pt (pa (pa pr)) hb)⟩

set_option maxHeartbeats 2000000 in
set_option maxRecDepth 100000 in
theorem stepsFor_ok (lo hi fl wlo whi t : Int) (w : World) (he : stepsErrV lo hi fl wlo whi t = 0) (h3 : 0 ≤ fl) (h4 : fl ≤ 1000000) (h5 : 0 ≤ lo) (h6 : lo ≤ 1000) (g1 : 0 ≤ whi) (g2 : whi ≤ 1000000) :
    Calls Tryz.prog 11 #[.agg #[.int .i64 lo, .int .i64 hi, .int .i64 fl], .agg #[.int .i64 wlo, .int .i64 whi], .int .i64 t] w fun r w' =>
      r = .returned (.tuple #[.int .i64 (optN (stepsO lo fl whi t)), .int .i64 (optE (stepsO lo fl whi t))]) ∧ Below w.heap.size w w' := by
  have hbd := hiN_bd (hi := whi) h3 h5 h6 g1 g2
  have HB := Lib.hid hbd
  have HF := Lib.hid (show firstV [ovenErrV lo hi fl wlo whi, unlessV (waterB t) 2] = 0 from he)
  have HO := Lib.hid (show stepsO lo fl whi t = stepsF (hiN lo fl whi) t (1001 - 0) 0 from rfl)
  clear he hbd
  go_enter Tryz.func11, Tryz.ntmps11
  go_wp2_with (first
    | (go_at_call 46; refine (ovenErr_any _ _ _ _ _ _).mono ?_; rintro e w1 ⟨rfl, hb⟩; obtain ⟨hc, hf⟩ := bcell hb; have b0 : Blk w1 w.heap.size 31 #[.int .i64 lo, .int .i64 hi, .int .i64 fl] := (Blk.newAt rfl).alloc.past hb; have b1 : Blk w1 (w.heap.size + 1) 29 #[.int .i64 wlo, .int .i64 whi] := (Blk.newAt (by simp)).past hb; have cw := b1.cellAt 1 rfl; have xw := b1.lt)
    | (go_at_call 48; refine (isWater_any _ _).mono ?_; rintro e w' ⟨rfl, rfl⟩)
    | (go_at_call 47; refine (unless_any _ _ _).mono ?_; rintro e w' ⟨rfl, rfl⟩)
    | (go_at_call 45; refine (first2 _ _ _ _ _ (by go_simp; rfl) (by go_simp; rfl)).mono ?_; rintro e w' ⟨rfl, rfl⟩; rw [HF.out]))
  have hB := pt (pa (pa pr)) hb
  clear hb hc hf HF cw xw b1
  go_loopw [9, 24] (fun hv i wr => ∃ k : Nat, k ≤ 1001 ∧ i = .int .i64 (k : Int) ∧ hv = .int .i64 (hiN lo fl whi k) ∧ stepsO lo fl whi t = stepsF (hiN lo fl whi) t (1001 - k) k ∧ Blk wr w.heap.size 31 #[.int .i64 lo, .int .i64 hi, .int .i64 fl] ∧ Below w.heap.size w wr) (fun _ i _ => 1001 - (intOf i).toNat)
  case atStart => exact ⟨0, by omega, rfl, rfl, HO.out, b0.alloc, pa hB⟩
  case round =>
    obtain ⟨k, hk, rfl, rfl, hst, r0, hr⟩ := hrel
    clear b0 hB
    have hbk := HB.out k
    have HS := Lib.hid (show hiN lo fl whi (k + 1) = driedV fl (hiN lo fl whi k) lo from rfl)
    have HStep := Lib.hid (show k < 1001 → stepsO lo fl whi t = if hiN lo fl whi k ≤ t then some k else stepsF (hiN lo fl whi) t (1001 - (k + 1)) (k + 1) from fun h => by
      rw [hst, show 1001 - k = 1001 - (k + 1) + 1 by omega, stepsF])
    have HSt := Lib.hid hst
    clear hst
    have c0 := r0.cellAt 0 rfl
    have c1 := r0.cellAt 1 rfl
    have c2 := r0.cellAt 2 rfl
    have z0 := r0.lt
    by_cases hlt : k < 1001
    · generalize hh : hiN lo fl whi k = h at *
      have HH := Lib.hid hh
      clear hh
      by_cases hle : h ≤ t
      · have HR := Lib.hid (show stepsO lo fl whi t = some k by rw [HStep.out hlt, if_pos hle])
        go_wp2
        go_ret2
        exact ⟨by rw [HR.out]; rfl, hr⟩
      · have HR := Lib.hid (show stepsO lo fl whi t = stepsF (hiN lo fl whi) t (1001 - (k + 1)) (k + 1) by rw [HStep.out hlt, if_neg hle])
        obtain ⟨q1, q2⟩ := hbk
        go_wp2_with (go_at_call 49; refine (dried_any _ _ _ _ _ _ q1 q2 h3 h4 h5 h6).mono ?_; rintro e w1 ⟨rfl, hb⟩)
        go_roundw
        case rel => exact ⟨k + 1, by omega, by go_num, by rw [HS.out], HR.out, r0.past hb, pt hr hb⟩
        case measure => simp [intOf]; omega
    · have hke : k = 1001 := by omega
      have HR := Lib.hid (show stepsO lo fl whi t = none by rw [HSt.out, hke]; rfl)
      clear hke
      go_wp2
      go_ret2
      exact ⟨by rw [HR.out]; rfl, hr⟩

theorem baseWithin_any (n lo hi : Int) (w : World) :
    Calls Tryz.prog 8 #[.int .i64 n, .int .i64 lo, .int .i64 hi] w fun r w' => r = .returned (.bool (withinB n lo hi)) ∧ w = w' := by
  by_cases h : lo ≤ n
  all_goals
    go_enter Tryz.func8, Tryz.ntmps8
    go_wp2
    all_goals
      go_ret
      exact ⟨ret_bool (by simp [withinB]; try omega), rfl⟩

theorem rangeErrV_cases (p : Int → Bool) (lo hi : Int) : (p lo = false ∧ rangeErrV p lo hi = 2) ∨ (p lo = true ∧ p hi = false ∧ rangeErrV p lo hi = 2) ∨ (p lo = true ∧ p hi = true ∧ hi < lo ∧ rangeErrV p lo hi = 9) ∨ (p lo = true ∧ p hi = true ∧ lo ≤ hi ∧ rangeErrV p lo hi = 0) := by
  unfold rangeErrV
  cases h1 : p lo <;> cases h2 : p hi <;> by_cases h3 : lo ≤ hi <;> simp [firstV, unlessV, h3] <;> omega

set_option maxHeartbeats 1000000 in
theorem refOvenErr_any (lo hi fl : Int) (w : World) :
    Calls Tryz.prog 9 #[.agg #[.int .i64 lo, .int .i64 hi, .int .i64 fl]] w fun r w' => r = .returned (.int .i64 (ovenE lo hi fl)) ∧ Below w.heap.size w w' := by
  have hE : ovenE lo hi fl = if rangeErrV rateB lo hi = 0 then (if waterB fl then 0 else 2) else rangeErrV rateB lo hi := by
    unfold ovenE
    simp only [firstV, unlessV]
    cases waterB fl <;> simp
  have hc := rangeErrV_cases rateB lo hi
  generalize ovenE lo hi fl = E at *
  generalize rangeErrV rateB lo hi = R at *
  unfold rateB at hc
  unfold waterB at hE
  have HE := Lib.hid hE
  clear hE
  rcases hc with ⟨h1, rfl⟩ | ⟨h1, h2, rfl⟩ | ⟨h1, h2, h3, rfl⟩ | ⟨h1, h2, h3, rfl⟩
  · go_enter Tryz.func9, Tryz.ntmps9
    go_wp2_with (go_at_call 8; refine (baseWithin_any _ _ _ _).mono ?_; rintro e w' ⟨rfl, rfl⟩)
    go_ret
    exact ⟨ret_int (by rw [HE.out]; rfl), pa pr⟩
  · go_enter Tryz.func9, Tryz.ntmps9
    go_wp2_with (go_at_call 8; refine (baseWithin_any _ _ _ _).mono ?_; rintro e w' ⟨rfl, rfl⟩)
    go_ret
    exact ⟨ret_int (by rw [HE.out]; rfl), pa pr⟩
  · go_enter Tryz.func9, Tryz.ntmps9
    go_wp2_with (go_at_call 8; refine (baseWithin_any _ _ _ _).mono ?_; rintro e w' ⟨rfl, rfl⟩)
    go_ret
    exact ⟨ret_int (by rw [HE.out]; rfl), pa pr⟩
  · cases hw : withinB fl 0 1000000
    all_goals
      go_enter Tryz.func9, Tryz.ntmps9
      go_wp2_with (go_at_call 8; refine (baseWithin_any _ _ _ _).mono ?_; rintro e w' ⟨rfl, rfl⟩)
      go_ret
      exact ⟨ret_int (by rw [HE.out, hw]; rfl), pa pr⟩

set_option maxHeartbeats 1000000 in
theorem refWaterErr_any (lo hi : Int) (w : World) :
    Calls Tryz.prog 10 #[.agg #[.int .i64 lo, .int .i64 hi]] w fun r w' => r = .returned (.int .i64 (rangeErrV waterB lo hi)) ∧ Below w.heap.size w w' := by
  have hc := rangeErrV_cases waterB lo hi
  generalize rangeErrV waterB lo hi = R at *
  unfold waterB at hc
  rcases hc with ⟨h1, rfl⟩ | ⟨h1, h2, rfl⟩ | ⟨h1, h2, h3, rfl⟩ | ⟨h1, h2, h3, rfl⟩
  all_goals
    go_enter Tryz.func10, Tryz.ntmps10
    go_wp2_with (go_at_call 8; refine (baseWithin_any _ _ _ _).mono ?_; rintro e w' ⟨rfl, rfl⟩)
    go_ret
    exact ⟨rfl, pa pr⟩

end Go.Proofs.YtbojmcopagbheaaGreatDoor
end
