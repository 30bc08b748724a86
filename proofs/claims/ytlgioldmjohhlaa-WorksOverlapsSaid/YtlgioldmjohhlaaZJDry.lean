/- Contracts: the number of steps for a target; the specification's drying. -/
import Derived.Test.YtlgioldmjohhlaaDOven
import Derived.Test.YtlgioldmjohhlaaARegion
namespace Go.Proofs.Ytlgioldmjohhlaa
open Go.RowKit

/-- The upper end after so many steps. -/
def hiN (rlo fl hi : Int) : Nat → Int
  | 0 => hi
  | n + 1 => driedV fl (hiN rlo fl hi n) rlo
theorem dryN_hi (rlo rhi fl wlo whi : Int) : ∀ n, (dryN rlo rhi fl n (wlo, whi)).2 = hiN rlo fl whi n
  | 0 => rfl
  | n + 1 => by show driedV fl (dryN rlo rhi fl n (wlo, whi)).2 rlo = _; rw [dryN_hi rlo rhi fl wlo whi n]; rfl
theorem hiN_bd {rlo fl hi : Int} (h3 : 0 ≤ fl) (h5 : 0 ≤ rlo) (h6 : rlo ≤ 1000) (g1 : 0 ≤ hi) (g2 : hi ≤ 1000000) : ∀ n, 0 ≤ hiN rlo fl hi n ∧ hiN rlo fl hi n ≤ 1000000
  | 0 => ⟨g1, g2⟩
  | n + 1 => by
    obtain ⟨a, b⟩ := hiN_bd h3 h5 h6 g1 g2 n
    have e := driedV_bd (rate := rlo) a b h3 h5 h6
    simp only [hiN]
    omega

/-- The first number from k on at which g is at most t, among m. -/
def stepsF (g : Nat → Int) (t : Int) : Nat → Nat → Option Nat
  | 0, _ => none
  | m + 1, k => if g k ≤ t then some k else stepsF g t m (k + 1)
def stepsO (rlo fl hi t : Int) : Option Nat := stepsF (hiN rlo fl hi) t 1001 0
def optN : Option Nat → Int
  | some n => (n : Int)
  | none => 0
def optE : Option Nat → Int
  | some _ => 0
  | none => 12
def optB : Option Nat → Bool
  | some _ => true
  | none => false

/-- What is refused. -/
def stepsErrV (lo hi fl wlo whi t : Int) : Int := firstV [ovenErrV lo hi fl wlo whi, unlessV (waterB t) 2]

set_option maxHeartbeats 1000000 in
theorem stepsFor_err (lo hi fl wlo whi t : Int) (w : World) (he : stepsErrV lo hi fl wlo whi t ≠ 0) :
    Calls Try.prog 46 #[.agg #[.int .i64 lo, .int .i64 hi, .int .i64 fl], .agg #[.int .i64 wlo, .int .i64 whi], .int .i64 t] w fun r w' =>
      r = .returned (.tuple #[.int .i64 0, .int .i64 (stepsErrV lo hi fl wlo whi t)]) ∧ Below w.heap.size w w' := by
  have hne : (stepsErrV lo hi fl wlo whi t == 0) = false := by simpa using he
  have HD := Lib.hid (show firstV [ovenErrV lo hi fl wlo whi, unlessV (waterB t) 2] = stepsErrV lo hi fl wlo whi t from rfl)
  clear he
  go_enter Try.func46, Try.ntmps46
  go_wp2_with (first
    | (go_at_call 106; refine (ovenErr_any _ _ _ _ _ _).mono ?_; rintro e w1 ⟨rfl, hb⟩; obtain ⟨hc, hf⟩ := bcell hb)
    | (go_at_call 108; refine (isWater_any _ _).mono ?_; rintro e w' ⟨rfl, rfl⟩)
    | (go_at_call 87; refine (unless_any _ _ _).mono ?_; rintro e w' ⟨rfl, rfl⟩)
    | (go_at_call 86; refine (first2 _ _ _ _ _ (by go_simp; rfl) (by go_simp; rfl)).mono ?_; rintro e w' ⟨rfl, rfl⟩; rw [HD.out]))
  go_ret2
  exact ⟨rfl, pa (pt (pa (pa pr)) hb)⟩

set_option maxHeartbeats 2000000 in
set_option maxRecDepth 100000 in
theorem stepsFor_ok (lo hi fl wlo whi t : Int) (w : World) (he : stepsErrV lo hi fl wlo whi t = 0) (h3 : 0 ≤ fl) (h4 : fl ≤ 1000000) (h5 : 0 ≤ lo) (h6 : lo ≤ 1000) (g1 : 0 ≤ whi) (g2 : whi ≤ 1000000) :
    Calls Try.prog 46 #[.agg #[.int .i64 lo, .int .i64 hi, .int .i64 fl], .agg #[.int .i64 wlo, .int .i64 whi], .int .i64 t] w fun r w' =>
      r = .returned (.tuple #[.int .i64 (optN (stepsO lo fl whi t)), .int .i64 (optE (stepsO lo fl whi t))]) ∧ Below w.heap.size w w' := by
  have hbd := hiN_bd (hi := whi) h3 h5 h6 g1 g2
  have HB := Lib.hid hbd
  have HF := Lib.hid (show firstV [ovenErrV lo hi fl wlo whi, unlessV (waterB t) 2] = 0 from he)
  have HO := Lib.hid (show stepsO lo fl whi t = stepsF (hiN lo fl whi) t (1001 - 0) 0 from rfl)
  clear he hbd
  go_enter Try.func46, Try.ntmps46
  go_wp2_with (first
    | (go_at_call 106; refine (ovenErr_any _ _ _ _ _ _).mono ?_; rintro e w1 ⟨rfl, hb⟩; obtain ⟨hc, hf⟩ := bcell hb; have b0 : Blk w1 w.heap.size 67 #[.int .i64 lo, .int .i64 hi, .int .i64 fl] := (Blk.newAt rfl).alloc.past hb; have b1 : Blk w1 (w.heap.size + 1) 59 #[.int .i64 wlo, .int .i64 whi] := (Blk.newAt (by simp)).past hb; have cw := b1.cellAt 1 rfl; have xw := b1.lt)
    | (go_at_call 108; refine (isWater_any _ _).mono ?_; rintro e w' ⟨rfl, rfl⟩)
    | (go_at_call 87; refine (unless_any _ _ _).mono ?_; rintro e w' ⟨rfl, rfl⟩)
    | (go_at_call 86; refine (first2 _ _ _ _ _ (by go_simp; rfl) (by go_simp; rfl)).mono ?_; rintro e w' ⟨rfl, rfl⟩; rw [HF.out]))
  have hB := pt (pa (pa pr)) hb
  clear hb hc hf HF cw xw b1
  go_loopw [9, 24] (fun hv i wr => ∃ k : Nat, k ≤ 1001 ∧ i = .int .i64 (k : Int) ∧ hv = .int .i64 (hiN lo fl whi k) ∧ stepsO lo fl whi t = stepsF (hiN lo fl whi) t (1001 - k) k ∧ Blk wr w.heap.size 67 #[.int .i64 lo, .int .i64 hi, .int .i64 fl] ∧ Below w.heap.size w wr) (fun _ i _ => 1001 - (intOf i).toNat)
  case atStart => exact ⟨0, by omega, rfl, rfl, HO.out, b0.alloc, pa hB⟩
  case round =>
    obtain ⟨k, hk, rfl, rfl, hst, r0, hr⟩ := hrel
    clear b0 hB
    have hbk := HB.out k
    have HS := Lib.hid (show hiN lo fl whi (k + 1) = driedV fl (hiN lo fl whi k) lo from rfl)
    have HStep := Lib.hid (show k < 1001 → stepsO lo fl whi t = if hiN lo fl whi k ≤ t then some k else stepsF (hiN lo fl whi) t (1001 - (k + 1)) (k + 1) from fun h => by
      rw [hst, show 1001 - k = 1001 - (k + 1) + 1 by omega, stepsF])
    have HSt := Lib.hid hst
    clear hst
    have c0 := r0.cellAt 0 rfl
    have c1 := r0.cellAt 1 rfl
    have c2 := r0.cellAt 2 rfl
    have z0 := r0.lt
    by_cases hlt : k < 1001
    · generalize hh : hiN lo fl whi k = h at *
      have HH := Lib.hid hh
      clear hh
      by_cases hle : h ≤ t
      · have HR := Lib.hid (show stepsO lo fl whi t = some k by rw [HStep.out hlt, if_pos hle])
        go_wp2
        go_ret2
        exact ⟨by rw [HR.out]; rfl, hr⟩
      · have HR := Lib.hid (show stepsO lo fl whi t = stepsF (hiN lo fl whi) t (1001 - (k + 1)) (k + 1) by rw [HStep.out hlt, if_neg hle])
        obtain ⟨q1, q2⟩ := hbk
        go_wp2_with (go_at_call 107; refine (dried_any _ _ _ _ _ _ q1 q2 h3 h4 h5 h6).mono ?_; rintro e w1 ⟨rfl, hb⟩)
        go_roundw
        case rel => exact ⟨k + 1, by omega, by go_num, by rw [HS.out], HR.out, r0.past hb, pt hr hb⟩
        case measure => simp [intOf]; omega
    · have hke : k = 1001 := by omega
      have HR := Lib.hid (show stepsO lo fl whi t = none by rw [HSt.out, hke]; rfl)
      clear hke
      go_wp2
      go_ret2
      exact ⟨by rw [HR.out]; rfl, hr⟩

theorem baseWithin_any (n lo hi : Int) (w : World) :
    Calls Try.prog 32 #[.int .i64 n, .int .i64 lo, .int .i64 hi] w fun r w' => r = .returned (.bool (withinB n lo hi)) ∧ w = w' := by
  by_cases h : lo ≤ n
  all_goals
    go_enter Try.func32, Try.ntmps32
    go_wp2
    all_goals
      go_ret
      exact ⟨ret_bool (by simp [withinB]; try omega), rfl⟩

theorem rangeErrV_cases (p : Int → Bool) (lo hi : Int) : (p lo = false ∧ rangeErrV p lo hi = 2) ∨ (p lo = true ∧ p hi = false ∧ rangeErrV p lo hi = 2) ∨ (p lo = true ∧ p hi = true ∧ hi < lo ∧ rangeErrV p lo hi = 9) ∨ (p lo = true ∧ p hi = true ∧ lo ≤ hi ∧ rangeErrV p lo hi = 0) := by
  unfold rangeErrV
  cases h1 : p lo <;> cases h2 : p hi <;> by_cases h3 : lo ≤ hi <;> simp [firstV, unlessV, h3] <;> omega

set_option maxHeartbeats 1000000 in
theorem refOvenErr_any (lo hi fl : Int) (w : World) :
    Calls Try.prog 47 #[.agg #[.int .i64 lo, .int .i64 hi, .int .i64 fl]] w fun r w' => r = .returned (.int .i64 (ovenE lo hi fl)) ∧ Below w.heap.size w w' := by
  have hE : ovenE lo hi fl = if rangeErrV rateB lo hi = 0 then (if waterB fl then 0 else 2) else rangeErrV rateB lo hi := by
    unfold ovenE
    simp only [firstV, unlessV]
    cases waterB fl <;> simp
  have hc := rangeErrV_cases rateB lo hi
  generalize ovenE lo hi fl = E at *
  generalize rangeErrV rateB lo hi = R at *
  unfold rateB at hc
  unfold waterB at hE
  have HE := Lib.hid hE
  clear hE
  rcases hc with ⟨h1, rfl⟩ | ⟨h1, h2, rfl⟩ | ⟨h1, h2, h3, rfl⟩ | ⟨h1, h2, h3, rfl⟩
  · go_enter Try.func47, Try.ntmps47
    go_wp2_with (go_at_call 32; refine (baseWithin_any _ _ _ _).mono ?_; rintro e w' ⟨rfl, rfl⟩)
    go_ret
    exact ⟨ret_int (by rw [HE.out]; rfl), pa pr⟩
  · go_enter Try.func47, Try.ntmps47
    go_wp2_with (go_at_call 32; refine (baseWithin_any _ _ _ _).mono ?_; rintro e w' ⟨rfl, rfl⟩)
    go_ret
    exact ⟨ret_int (by rw [HE.out]; rfl), pa pr⟩
  · go_enter Try.func47, Try.ntmps47
    go_wp2_with (go_at_call 32; refine (baseWithin_any _ _ _ _).mono ?_; rintro e w' ⟨rfl, rfl⟩)
    go_ret
    exact ⟨ret_int (by rw [HE.out]; rfl), pa pr⟩
  · cases hw : withinB fl 0 1000000
    all_goals
      go_enter Try.func47, Try.ntmps47
      go_wp2_with (go_at_call 32; refine (baseWithin_any _ _ _ _).mono ?_; rintro e w' ⟨rfl, rfl⟩)
      go_ret
      exact ⟨ret_int (by rw [HE.out, hw]; rfl), pa pr⟩

set_option maxHeartbeats 1000000 in
theorem refWaterErr_any (lo hi : Int) (w : World) :
    Calls Try.prog 49 #[.agg #[.int .i64 lo, .int .i64 hi]] w fun r w' => r = .returned (.int .i64 (rangeErrV waterB lo hi)) ∧ Below w.heap.size w w' := by
  have hc := rangeErrV_cases waterB lo hi
  generalize rangeErrV waterB lo hi = R at *
  unfold waterB at hc
  rcases hc with ⟨h1, rfl⟩ | ⟨h1, h2, rfl⟩ | ⟨h1, h2, h3, rfl⟩ | ⟨h1, h2, h3, rfl⟩
  all_goals
    go_enter Try.func49, Try.ntmps49
    go_wp2_with (go_at_call 32; refine (baseWithin_any _ _ _ _).mono ?_; rintro e w' ⟨rfl, rfl⟩)
    go_ret
    exact ⟨rfl, pa pr⟩

set_option maxHeartbeats 1000000 in
theorem refStep_any (lo hi fl water rate : Int) (w : World) (h1 : 0 ≤ water) (h2 : water ≤ 1000000) (h3 : 0 ≤ fl) (h4 : fl ≤ 1000000) (h5 : 0 ≤ rate) (h6 : rate ≤ 1000) :
    Calls Try.prog 111 #[.agg #[.int .i64 lo, .int .i64 hi, .int .i64 fl], .int .i64 water, .int .i64 rate] w fun r w' => r = .returned (.int .i64 (driedV fl water rate)) ∧ Below w.heap.size w w' := by
  rcases Int.lt_or_le fl water with h | h
  · go_enter Try.func111, Try.ntmps111
    go_wp2
    go_ret
    exact ⟨ret_int (dried_hi h1 h2 h3 h5 h6 h), pa pr⟩
  · go_enter Try.func111, Try.ntmps111
    go_wp2
    go_ret
    exact ⟨ret_int (dried_lo h), pa pr⟩

set_option maxHeartbeats 2000000 in
set_option maxRecDepth 100000 in
theorem refStepsFor_any (lo hi fl wlo whi t : Int) (w : World) (h3 : 0 ≤ fl) (h4 : fl ≤ 1000000) (h5 : 0 ≤ lo) (h6 : lo ≤ 1000) (g1 : 0 ≤ whi) (g2 : whi ≤ 1000000) :
    Calls Try.prog 51 #[.agg #[.int .i64 lo, .int .i64 hi, .int .i64 fl], .agg #[.int .i64 wlo, .int .i64 whi], .int .i64 t] w fun r w' =>
      r = .returned (.tuple #[.int .i64 (optN (stepsO lo fl whi t)), .bool (optB (stepsO lo fl whi t))]) ∧ Below w.heap.size w w' := by
  have hbd := hiN_bd (hi := whi) h3 h5 h6 g1 g2
  have HB := Lib.hid hbd
  have HO := Lib.hid (show stepsO lo fl whi t = stepsF (hiN lo fl whi) t (1001 - 0) 0 from rfl)
  clear hbd
  go_enter Try.func51, Try.ntmps51
  go_wp2
  go_loopw [8, 9] (fun hv i wr => ∃ k : Nat, k ≤ 1001 ∧ i = .int .i64 (k : Int) ∧ hv = .int .i64 (hiN lo fl whi k) ∧ stepsO lo fl whi t = stepsF (hiN lo fl whi) t (1001 - k) k ∧ Blk wr w.heap.size 67 #[.int .i64 lo, .int .i64 hi, .int .i64 fl] ∧ Below w.heap.size w wr) (fun _ i _ => 1001 - (intOf i).toNat)
  case atStart => exact ⟨0, by omega, rfl, rfl, HO.out, (Blk.newAt rfl).alloc, pa (pa pr)⟩
  case round =>
    obtain ⟨k, hk, rfl, rfl, hst, r0, hr⟩ := hrel
    have hbk := HB.out k
    have HS := Lib.hid (show hiN lo fl whi (k + 1) = driedV fl (hiN lo fl whi k) lo from rfl)
    have HStep := Lib.hid (show k < 1001 → stepsO lo fl whi t = if hiN lo fl whi k ≤ t then some k else stepsF (hiN lo fl whi) t (1001 - (k + 1)) (k + 1) from fun h => by
      rw [hst, show 1001 - k = 1001 - (k + 1) + 1 by omega, stepsF])
    have HSt := Lib.hid hst
    clear hst
    have c0 := r0.cellAt 0 rfl
    have c1 := r0.cellAt 1 rfl
    have c2 := r0.cellAt 2 rfl
    have z0 := r0.lt
    by_cases hlt : k < 1001
    · have hlt' : (k : Int) ≤ 1000 := by omega
      generalize hh : hiN lo fl whi k = h at *
      have HH := Lib.hid hh
      clear hh
      by_cases hle : h ≤ t
      · have HR := Lib.hid (show stepsO lo fl whi t = some k by rw [HStep.out hlt, if_pos hle])
        go_wp2
        go_ret2
        exact ⟨by rw [HR.out]; rfl, hr⟩
      · have HR := Lib.hid (show stepsO lo fl whi t = stepsF (hiN lo fl whi) t (1001 - (k + 1)) (k + 1) by rw [HStep.out hlt, if_neg hle])
        obtain ⟨q1, q2⟩ := hbk
        go_wp2_with (go_at_call 111; refine (refStep_any _ _ _ _ _ _ q1 q2 h3 h4 h5 h6).mono ?_; rintro e w1 ⟨rfl, hb⟩)
        go_roundw
        case rel => exact ⟨k + 1, by omega, by go_num, by rw [HS.out], HR.out, r0.past hb, pt hr hb⟩
        case measure => simp [intOf]; omega
    · have hke : k = 1001 := by omega
      have hge : ¬ (k : Int) ≤ 1000 := by omega
      have HR := Lib.hid (show stepsO lo fl whi t = none by rw [HSt.out, hke]; rfl)
      clear hke
      go_wp2
      go_ret2
      exact ⟨by rw [HR.out]; rfl, hr⟩

set_option maxHeartbeats 2000000 in
set_option maxRecDepth 100000 in
theorem refDryAfter_any (lo hi fl wlo whi : Int) (n : Nat) (w : World) (hn : n ≤ 1000) (h3 : 0 ≤ fl) (h4 : fl ≤ 1000000) (h5 : 0 ≤ lo) (h6 : lo ≤ 1000) (h7 : 0 ≤ hi) (h8 : hi ≤ 1000) (h1 : 0 ≤ wlo) (h2 : wlo ≤ 1000000) (g1 : 0 ≤ whi) (g2 : whi ≤ 1000000) :
    Calls Try.prog 50 #[.agg #[.int .i64 lo, .int .i64 hi, .int .i64 fl], .agg #[.int .i64 wlo, .int .i64 whi], .int .i64 (n : Int)] w fun r w' =>
      r = .returned (.agg #[.int .i64 (dryN lo hi fl n (wlo, whi)).1, .int .i64 (dryN lo hi fl n (wlo, whi)).2]) ∧ Below w.heap.size w w' := by
  have HB := Lib.hid (dryN_bd (p := (wlo, whi)) h3 h5 h6 h7 h8 h1 h2 g1 g2)
  go_enter Try.func50, Try.ntmps50
  go_wp2
  go_loopw [7] (fun i wr => ∃ k : Nat, k ≤ n ∧ i = .int .i64 (k : Int) ∧ DryRel w lo hi fl (dryN lo hi fl k (wlo, whi)) wr) (fun i _ => n - (intOf i).toNat)
  case atStart => exact ⟨0, Nat.zero_le _, rfl, (Blk.newAt rfl).alloc.alloc, (Blk.newAt (by simp)).alloc, Blk.newAt (by simp), pa (pa (pa pr))⟩
  case round =>
    obtain ⟨k, hk, rfl, r0, r1, r2, hr⟩ := hrel
    have hbk := HB.out k
    have HS := Lib.hid (show dryN lo hi fl (k + 1) (wlo, whi) = (driedV fl (dryN lo hi fl k (wlo, whi)).1 hi, driedV fl (dryN lo hi fl k (wlo, whi)).2 lo) from rfl)
    have HN := Lib.hid (show n = k → dryN lo hi fl n (wlo, whi) = dryN lo hi fl k (wlo, whi) from fun e => by rw [e])
    generalize dryN lo hi fl k (wlo, whi) = p at *
    obtain ⟨a1, a2, a3, a4⟩ := hbk
    have c0 := r0.cellAt 0 rfl
    have c1 := r0.cellAt 1 rfl
    have c2 := r0.cellAt 2 rfl
    have c3 := r1.cellAt 0 rfl
    have c4 := r1.cellAt 1 rfl
    have c5 := r2.cellAt 0 rfl
    have c6 := r2.cellAt 1 rfl
    have z0 := r0.lt
    have z1 := r1.lt
    have z2 := r2.lt
    by_cases hlt : k < n
    · go_wp2
      refine region_below 15 follows_mixed (by kernel_rfl) ?_
      intro C hC
      simp only [List.take_succ_cons, List.take_zero, List.drop_succ_cons, List.drop_zero]
      repeat (first
        | ((with_reducible refine quiet_plain rfl (fun K hK => ?_)); (focus (apply quiet_val; (focus (intro w' hw; obtain ⟨hcq, hfq⟩ := bcell ((hC.out _).1 hw); go_simp; (first | done | rfl | (with_reducible exact call_below hC hw (refStep_any _ _ _ _ _ _ a1 a2 h3 h4 h7 h8)) | (with_reducible exact call_below hC hw (refStep_any _ _ _ _ _ _ a3 a4 h3 h4 h5 h6))))); (simp only [Act.put, List.setIfInBounds_toArray, List.set_cons_succ, List.set_cons_zero]); (with_reducible refine hK _ ?_); clear hK K)))
        | ((with_reducible refine quiet_skip ?_ ?_); (focus (simp [Region.wanted, yielded]; done)); simp only [Act.put, List.setIfInBounds_toArray, List.set_cons_succ, List.set_cons_zero])
        | ((with_reducible refine quiet_go ?_ (fun K hK => ?_)); (focus (simp [Region.wanted, yielded]; done)); (focus (apply quiet_val; (focus (intro w' hw; obtain ⟨hcq, hfq⟩ := bcell ((hC.out _).1 hw); go_simp; (first | done | rfl | (with_reducible exact call_below hC hw (refStep_any _ _ _ _ _ _ a1 a2 h3 h4 h7 h8)) | (with_reducible exact call_below hC hw (refStep_any _ _ _ _ _ _ a3 a4 h3 h4 h5 h6))))); (simp only [Act.put, List.setIfInBounds_toArray, List.set_cons_succ, List.set_cons_zero]); (with_reducible refine hK _ ?_); clear hK K))))
      refine wpQuiet_nil ?_
      intro w1 hb1
      replace hb1 := (hC.out _).1 hb1
      clear hC C
      obtain ⟨hc1, hf1⟩ := bcell hb1
      have s0 := r0.past hb1
      have s1 := r1.past hb1
      have s2 := r2.past hb1
      have d3 := s1.cellAt 0 rfl
      have d4 := s1.cellAt 1 rfl
      have f3 := s1.frozen 0
      have f4 := s1.frozen 1
      have y1 := s1.lt
      have hz := hr.size
      clear hc1 hf1 c0 c1 c2 c3 c4 c5 c6
      go_wp2
      go_roundw
      case rel => exact ⟨k + 1, by omega, by go_num, by rw [HS.out]; exact ⟨(s0.far (by dsimp only; omega)).far (by dsimp only; omega), by have := (s1.set_ 0 (.int .i64 (driedV fl p.1 hi))).set_ 1 (.int .i64 (driedV fl p.2 lo)); simpa using this, (s2.far (by dsimp only; omega)).far (by dsimp only; omega), ps (ps (pt hr hb1) (by dsimp only; omega)) (by dsimp only; omega)⟩⟩
      case measure => simp [intOf]; omega
    · have HP := Lib.hid (HN.out (by omega))
      have f5 := r2.frozen 0
      have f6 := r2.frozen 1
      have hz := hr.size
      go_wp2
      refine bodyPost_ret (v := .agg #[.int .i64 p.1, .int .i64 p.2]) (by simp [results, Try.results50, go_sem, c5, c6]) rfl ⟨by rw [HP.out], ?_⟩
      exact ps (ps hr (by dsimp only; omega)) (by dsimp only; omega)

end Go.Proofs.Ytlgioldmjohhlaa
