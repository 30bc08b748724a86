/- Contracts: the number of steps for a target; the specification's drying.
Plain facts on drying: more water dries to more, a higher rate to less; the first number of steps; a number modulo another one (contract).
Contract: the number of all stacks that overlap (works.StacksOf).
Contracts: base.Has, base.Size, base.CopyInts; the specification's StackErr and CheckStack, over the same values as the program's. -/
import Derived.Test.YtlgioldmjohhlaaM2
import Derived.Test.YtlgioldmjohhlaaM1

section
namespace Go.Proofs.Ytlgioldmjohhlaa
open Go.RowKit

/-- The upper end after so many steps. -/
def hiN (rlo fl hi : Int) : Nat → Int
  | 0 => hi
  | n + 1 => driedV fl (hiN rlo fl hi n) rlo
theorem dryN_hi (rlo rhi fl wlo whi : Int) : ∀ n, (dryN rlo rhi fl n (wlo, whi)).2 = hiN rlo fl whi n
  | 0 => rfl
  | n + 1 => by show driedV fl (dryN rlo rhi fl n (wlo, whi)).2 rlo = _; rw [dryN_hi rlo rhi fl wlo whi n]; rfl
theorem hiN_bd {rlo fl hi : Int} (h3 : 0 ≤ fl) (h5 : 0 ≤ rlo) (h6 : rlo ≤ 1000) (g1 : 0 ≤ hi) (g2 : hi ≤ 1000000) : ∀ n, 0 ≤ hiN rlo fl hi n ∧ hiN rlo fl hi n ≤ 1000000
  | 0 => ⟨g1, g2⟩
  | n + 1 => by
    obtain ⟨a, b⟩ := hiN_bd h3 h5 h6 g1 g2 n
    have e := driedV_bd (rate := rlo) a b h3 h5 h6
    simp only [hiN]
    omega

/-- The first number from k on at which g is at most t, among m. -/
def stepsF (g : Nat → Int) (t : Int) : Nat → Nat → Option Nat
  | 0, _ => none
  | m + 1, k => if g k ≤ t then some k else stepsF g t m (k + 1)
def stepsO (rlo fl hi t : Int) : Option Nat := stepsF (hiN rlo fl hi) t 1001 0
def optN : Option Nat → Int
  | some n => (n : Int)
  | none => 0
def optE : Option Nat → Int
  | some _ => 0
  | none => 12
def optB : Option Nat → Bool
  | some _ => true
  | none => false

/-- What is refused. -/
def stepsErrV (lo hi fl wlo whi t : Int) : Int := firstV [ovenErrV lo hi fl wlo whi, unlessV (waterB t) 2]

set_option maxHeartbeats 1000000 in
theorem stepsFor_err (lo hi fl wlo whi t : Int) (w : World) (he : stepsErrV lo hi fl wlo whi t ≠ 0) :
    Calls Try.prog 46 #[.agg #[.int .i64 lo, .int .i64 hi, .int .i64 fl], .agg #[.int .i64 wlo, .int .i64 whi], .int .i64 t] w fun r w' =>
      r = .returned (.tuple #[.int .i64 0, .int .i64 (stepsErrV lo hi fl wlo whi t)]) ∧ Below w.heap.size w w' := by
  have hne : (stepsErrV lo hi fl wlo whi t == 0) = false := by simpa using he
  have HD := Lib.hid (show firstV [ovenErrV lo hi fl wlo whi, unlessV (waterB t) 2] = stepsErrV lo hi fl wlo whi t from rfl)
  clear he
  go_enter Try.func46, Try.ntmps46
  go_wp2_with (first
    | (go_at_call 106; refine (ovenErr_any _ _ _ _ _ _).mono ?_; rintro e w1 ⟨rfl, hb⟩; obtain ⟨hc, hf⟩ := bcell hb)
    | (go_at_call 108; refine (isWater_any _ _).mono ?_; rintro e w' ⟨rfl, rfl⟩)
    | (go_at_call 87; refine (unless_any _ _ _).mono ?_; rintro e w' ⟨rfl, rfl⟩)
    | (go_at_call 86; refine (first2 _ _ _ _ _ (by go_simp; rfl) (by go_simp; rfl)).mono ?_; rintro e w' ⟨rfl, rfl⟩; rw [HD.out]))
  go_ret2
  exact ⟨rfl, pa (pt (pa (pa pr)) hb)⟩

set_option maxHeartbeats 2000000 in
set_option maxRecDepth 100000 in
theorem stepsFor_ok (lo hi fl wlo whi t : Int) (w : World) (he : stepsErrV lo hi fl wlo whi t = 0) (h3 : 0 ≤ fl) (h4 : fl ≤ 1000000) (h5 : 0 ≤ lo) (h6 : lo ≤ 1000) (g1 : 0 ≤ whi) (g2 : whi ≤ 1000000) :
    Calls Try.prog 46 #[.agg #[.int .i64 lo, .int .i64 hi, .int .i64 fl], .agg #[.int .i64 wlo, .int .i64 whi], .int .i64 t] w fun r w' =>
      r = .returned (.tuple #[.int .i64 (optN (stepsO lo fl whi t)), .int .i64 (optE (stepsO lo fl whi t))]) ∧ Below w.heap.size w w' := by
  have hbd := hiN_bd (hi := whi) h3 h5 h6 g1 g2
  have HB := Lib.hid hbd
  have HF := Lib.hid (show firstV [ovenErrV lo hi fl wlo whi, unlessV (waterB t) 2] = 0 from he)
  have HO := Lib.hid (show stepsO lo fl whi t = stepsF (hiN lo fl whi) t (1001 - 0) 0 from rfl)
  clear he hbd
  go_enter Try.func46, Try.ntmps46
  go_wp2_with (first
    | (go_at_call 106; refine (ovenErr_any _ _ _ _ _ _).mono ?_; rintro e w1 ⟨rfl, hb⟩; obtain ⟨hc, hf⟩ := bcell hb; have b0 : Blk w1 w.heap.size 67 #[.int .i64 lo, .int .i64 hi, .int .i64 fl] := (Blk.newAt rfl).alloc.past hb; have b1 : Blk w1 (w.heap.size + 1) 59 #[.int .i64 wlo, .int .i64 whi] := (Blk.newAt (by simp)).past hb; have cw := b1.cellAt 1 rfl; have xw := b1.lt)
    | (go_at_call 108; refine (isWater_any _ _).mono ?_; rintro e w' ⟨rfl, rfl⟩)
    | (go_at_call 87; refine (unless_any _ _ _).mono ?_; rintro e w' ⟨rfl, rfl⟩)
    | (go_at_call 86; refine (first2 _ _ _ _ _ (by go_simp; rfl) (by go_simp; rfl)).mono ?_; rintro e w' ⟨rfl, rfl⟩; rw [HF.out]))
  have hB := pt (pa (pa pr)) hb
  clear hb hc hf HF cw xw b1
  go_loopw [9, 24] (fun hv i wr => ∃ k : Nat, k ≤ 1001 ∧ i = .int .i64 (k : Int) ∧ hv = .int .i64 (hiN lo fl whi k) ∧ stepsO lo fl whi t = stepsF (hiN lo fl whi) t (1001 - k) k ∧ Blk wr w.heap.size 67 #[.int .i64 lo, .int .i64 hi, .int .i64 fl] ∧ Below w.heap.size w wr) (fun _ i _ => 1001 - (intOf i).toNat)
  case atStart => exact ⟨0, by omega, rfl, rfl, HO.out, b0.alloc, pa hB⟩
  case round =>
    obtain ⟨k, hk, rfl, rfl, hst, r0, hr⟩ := hrel
    clear b0 hB
    have hbk := HB.out k
    have HS := Lib.hid (show hiN lo fl whi (k + 1) = driedV fl (hiN lo fl whi k) lo from rfl)
    have HStep := Lib.hid (show k < 1001 → stepsO lo fl whi t = if hiN lo fl whi k ≤ t then some k else stepsF (hiN lo fl whi) t (1001 - (k + 1)) (k + 1) from fun h => by
      rw [hst, show 1001 - k = 1001 - (k + 1) + 1 by omega, stepsF])
    have HSt := Lib.hid hst
    clear hst
    have c0 := r0.cellAt 0 rfl
    have c1 := r0.cellAt 1 rfl
    have c2 := r0.cellAt 2 rfl
    have z0 := r0.lt
    by_cases hlt : k < 1001
    · generalize hh : hiN lo fl whi k = h at *
      have HH := Lib.hid hh
      clear hh
      by_cases hle : h ≤ t
      · have HR := Lib.hid (show stepsO lo fl whi t = some k by rw [HStep.out hlt, if_pos hle])
        go_wp2
        go_ret2
        exact ⟨by rw [HR.out]; rfl, hr⟩
      · have HR := Lib.hid (show stepsO lo fl whi t = stepsF (hiN lo fl whi) t (1001 - (k + 1)) (k + 1) by rw [HStep.out hlt, if_neg hle])
        obtain ⟨q1, q2⟩ := hbk
        go_wp2_with (go_at_call 107; refine (dried_any _ _ _ _ _ _ q1 q2 h3 h4 h5 h6).mono ?_; rintro e w1 ⟨rfl, hb⟩)
        go_roundw
        case rel => exact ⟨k + 1, by omega, by go_num, by rw [HS.out], HR.out, r0.past hb, pt hr hb⟩
        case measure => simp [intOf]; omega
    · have hke : k = 1001 := by omega
      have HR := Lib.hid (show stepsO lo fl whi t = none by rw [HSt.out, hke]; rfl)
      clear hke
      go_wp2
      go_ret2
      exact ⟨by rw [HR.out]; rfl, hr⟩

theorem baseWithin_any (n lo hi : Int) (w : World) :
    Calls Try.prog 32 #[.int .i64 n, .int .i64 lo, .int .i64 hi] w fun r w' => r = .returned (.bool (withinB n lo hi)) ∧ w = w' := by
  by_cases h : lo ≤ n
  all_goals
    go_enter Try.func32, Try.ntmps32
    go_wp2
    all_goals
      go_ret
      exact ⟨ret_bool (by simp [withinB]; try omega), rfl⟩

theorem rangeErrV_cases (p : Int → Bool) (lo hi : Int) : (p lo = false ∧ rangeErrV p lo hi = 2) ∨ (p lo = true ∧ p hi = false ∧ rangeErrV p lo hi = 2) ∨ (p lo = true ∧ p hi = true ∧ hi < lo ∧ rangeErrV p lo hi = 9) ∨ (p lo = true ∧ p hi = true ∧ lo ≤ hi ∧ rangeErrV p lo hi = 0) := by
  unfold rangeErrV
  cases h1 : p lo <;> cases h2 : p hi <;> by_cases h3 : lo ≤ hi <;> simp [firstV, unlessV, h3] <;> omega

set_option maxHeartbeats 1000000 in
theorem refOvenErr_any (lo hi fl : Int) (w : World) :
    Calls Try.prog 47 #[.agg #[.int .i64 lo, .int .i64 hi, .int .i64 fl]] w fun r w' => r = .returned (.int .i64 (ovenE lo hi fl)) ∧ Below w.heap.size w w' := by
  have hE : ovenE lo hi fl = if rangeErrV rateB lo hi = 0 then (if waterB fl then 0 else 2) else rangeErrV rateB lo hi := by
    unfold ovenE
    simp only [firstV, unlessV]
    cases waterB fl <;> simp
  have hc := rangeErrV_cases rateB lo hi
  generalize ovenE lo hi fl = E at *
  generalize rangeErrV rateB lo hi = R at *
  unfold rateB at hc
  unfold waterB at hE
  have HE := Lib.hid hE
  clear hE
  rcases hc with ⟨h1, rfl⟩ | ⟨h1, h2, rfl⟩ | ⟨h1, h2, h3, rfl⟩ | ⟨h1, h2, h3, rfl⟩
  · go_enter Try.func47, Try.ntmps47
    go_wp2_with (go_at_call 32; refine (baseWithin_any _ _ _ _).mono ?_; rintro e w' ⟨rfl, rfl⟩)
    go_ret
    exact ⟨ret_int (by rw [HE.out]; rfl), pa pr⟩
  · go_enter Try.func47, Try.ntmps47
    go_wp2_with (go_at_call 32; refine (baseWithin_any _ _ _ _).mono ?_; rintro e w' ⟨rfl, rfl⟩)
    go_ret
    exact ⟨ret_int (by rw [HE.out]; rfl), pa pr⟩
  · go_enter Try.func47, Try.ntmps47
    go_wp2_with (go_at_call 32; refine (baseWithin_any _ _ _ _).mono ?_; rintro e w' ⟨rfl, rfl⟩)
    go_ret
    exact ⟨ret_int (by rw [HE.out]; rfl), pa pr⟩
  · cases hw : withinB fl 0 1000000
    all_goals
      go_enter Try.func47, Try.ntmps47
      go_wp2_with (go_at_call 32; refine (baseWithin_any _ _ _ _).mono ?_; rintro e w' ⟨rfl, rfl⟩)
      go_ret
      exact ⟨ret_int (by rw [HE.out, hw]; rfl), pa pr⟩

set_option maxHeartbeats 1000000 in
theorem refWaterErr_any (lo hi : Int) (w : World) :
    Calls Try.prog 49 #[.agg #[.int .i64 lo, .int .i64 hi]] w fun r w' => r = .returned (.int .i64 (rangeErrV waterB lo hi)) ∧ Below w.heap.size w w' := by
  have hc := rangeErrV_cases waterB lo hi
  generalize rangeErrV waterB lo hi = R at *
  unfold waterB at hc
  rcases hc with ⟨h1, rfl⟩ | ⟨h1, h2, rfl⟩ | ⟨h1, h2, h3, rfl⟩ | ⟨h1, h2, h3, rfl⟩
  all_goals
    go_enter Try.func49, Try.ntmps49
    go_wp2_with (go_at_call 32; refine (baseWithin_any _ _ _ _).mono ?_; rintro e w' ⟨rfl, rfl⟩)
    go_ret
    exact ⟨rfl, pa pr⟩

set_option maxHeartbeats 1000000 in
theorem refStep_any (lo hi fl water rate : Int) (w : World) (h1 : 0 ≤ water) (h2 : water ≤ 1000000) (h3 : 0 ≤ fl) (h4 : fl ≤ 1000000) (h5 : 0 ≤ rate) (h6 : rate ≤ 1000) :
    Calls Try.prog 111 #[.agg #[.int .i64 lo, .int .i64 hi, .int .i64 fl], .int .i64 water, .int .i64 rate] w fun r w' => r = .returned (.int .i64 (driedV fl water rate)) ∧ Below w.heap.size w w' := by
  rcases Int.lt_or_le fl water with h | h
  · go_enter Try.func111, Try.ntmps111
    go_wp2
    go_ret
    exact ⟨ret_int (dried_hi h1 h2 h3 h5 h6 h), pa pr⟩
  · go_enter Try.func111, Try.ntmps111
    go_wp2
    go_ret
    exact ⟨ret_int (dried_lo h), pa pr⟩

set_option maxHeartbeats 2000000 in
set_option maxRecDepth 100000 in
theorem refStepsFor_any (lo hi fl wlo whi t : Int) (w : World) (h3 : 0 ≤ fl) (h4 : fl ≤ 1000000) (h5 : 0 ≤ lo) (h6 : lo ≤ 1000) (g1 : 0 ≤ whi) (g2 : whi ≤ 1000000) :
    Calls Try.prog 51 #[.agg #[.int .i64 lo, .int .i64 hi, .int .i64 fl], .agg #[.int .i64 wlo, .int .i64 whi], .int .i64 t] w fun r w' =>
      r = .returned (.tuple #[.int .i64 (optN (stepsO lo fl whi t)), .bool (optB (stepsO lo fl whi t))]) ∧ Below w.heap.size w w' := by
  have hbd := hiN_bd (hi := whi) h3 h5 h6 g1 g2
  have HB := Lib.hid hbd
  have HO := Lib.hid (show stepsO lo fl whi t = stepsF (hiN lo fl whi) t (1001 - 0) 0 from rfl)
  clear hbd
  go_enter Try.func51, Try.ntmps51
  go_wp2
  go_loopw [8, 9] (fun hv i wr => ∃ k : Nat, k ≤ 1001 ∧ i = .int .i64 (k : Int) ∧ hv = .int .i64 (hiN lo fl whi k) ∧ stepsO lo fl whi t = stepsF (hiN lo fl whi) t (1001 - k) k ∧ Blk wr w.heap.size 67 #[.int .i64 lo, .int .i64 hi, .int .i64 fl] ∧ Below w.heap.size w wr) (fun _ i _ => 1001 - (intOf i).toNat)
  case atStart => exact ⟨0, by omega, rfl, rfl, HO.out, (Blk.newAt rfl).alloc, pa (pa pr)⟩
  case round =>
    obtain ⟨k, hk, rfl, rfl, hst, r0, hr⟩ := hrel
    have hbk := HB.out k
    have HS := Lib.hid (show hiN lo fl whi (k + 1) = driedV fl (hiN lo fl whi k) lo from rfl)
    have HStep := Lib.hid (show k < 1001 → stepsO lo fl whi t = if hiN lo fl whi k ≤ t then some k else stepsF (hiN lo fl whi) t (1001 - (k + 1)) (k + 1) from fun h => by
      rw [hst, show 1001 - k = 1001 - (k + 1) + 1 by omega, stepsF])
    have HSt := Lib.hid hst
    clear hst
    have c0 := r0.cellAt 0 rfl
    have c1 := r0.cellAt 1 rfl
    have c2 := r0.cellAt 2 rfl
    have z0 := r0.lt
    by_cases hlt : k < 1001
    · have hlt' : (k : Int) ≤ 1000 := by omega
      generalize hh : hiN lo fl whi k = h at *
      have HH := Lib.hid hh
      clear hh
      by_cases hle : h ≤ t
      · have HR := Lib.hid (show stepsO lo fl whi t = some k by rw [HStep.out hlt, if_pos hle])
        go_wp2
        go_ret2
        exact ⟨by rw [HR.out]; rfl, hr⟩
      · have HR := Lib.hid (show stepsO lo fl whi t = stepsF (hiN lo fl whi) t (1001 - (k + 1)) (k + 1) by rw [HStep.out hlt, if_neg hle])
        obtain ⟨q1, q2⟩ := hbk
        go_wp2_with (go_at_call 111; refine (refStep_any _ _ _ _ _ _ q1 q2 h3 h4 h5 h6).mono ?_; rintro e w1 ⟨rfl, hb⟩)
        go_roundw
        case rel => exact ⟨k + 1, by omega, by go_num, by rw [HS.out], HR.out, r0.past hb, pt hr hb⟩
        case measure => simp [intOf]; omega
    · have hke : k = 1001 := by omega
      have hge : ¬ (k : Int) ≤ 1000 := by omega
      have HR := Lib.hid (show stepsO lo fl whi t = none by rw [HSt.out, hke]; rfl)
      clear hke
      go_wp2
      go_ret2
      exact ⟨by rw [HR.out]; rfl, hr⟩

set_option maxHeartbeats 2000000 in
set_option maxRecDepth 100000 in
theorem refDryAfter_any (lo hi fl wlo whi : Int) (n : Nat) (w : World) (hn : n ≤ 1000) (h3 : 0 ≤ fl) (h4 : fl ≤ 1000000) (h5 : 0 ≤ lo) (h6 : lo ≤ 1000) (h7 : 0 ≤ hi) (h8 : hi ≤ 1000) (h1 : 0 ≤ wlo) (h2 : wlo ≤ 1000000) (g1 : 0 ≤ whi) (g2 : whi ≤ 1000000) :
    Calls Try.prog 50 #[.agg #[.int .i64 lo, .int .i64 hi, .int .i64 fl], .agg #[.int .i64 wlo, .int .i64 whi], .int .i64 (n : Int)] w fun r w' =>
      r = .returned (.agg #[.int .i64 (dryN lo hi fl n (wlo, whi)).1, .int .i64 (dryN lo hi fl n (wlo, whi)).2]) ∧ Below w.heap.size w w' := by
  have HB := Lib.hid (dryN_bd (p := (wlo, whi)) h3 h5 h6 h7 h8 h1 h2 g1 g2)
  go_enter Try.func50, Try.ntmps50
  go_wp2
  go_loopw [7] (fun i wr => ∃ k : Nat, k ≤ n ∧ i = .int .i64 (k : Int) ∧ DryRel w lo hi fl (dryN lo hi fl k (wlo, whi)) wr) (fun i _ => n - (intOf i).toNat)
  case atStart => exact ⟨0, Nat.zero_le _, rfl, (Blk.newAt rfl).alloc.alloc, (Blk.newAt (by simp)).alloc, Blk.newAt (by simp), pa (pa (pa pr))⟩
  case round =>
    obtain ⟨k, hk, rfl, r0, r1, r2, hr⟩ := hrel
    have hbk := HB.out k
    have HS := Lib.hid (show dryN lo hi fl (k + 1) (wlo, whi) = (driedV fl (dryN lo hi fl k (wlo, whi)).1 hi, driedV fl (dryN lo hi fl k (wlo, whi)).2 lo) from rfl)
    have HN := Lib.hid (show n = k → dryN lo hi fl n (wlo, whi) = dryN lo hi fl k (wlo, whi) from fun e => by rw [e])
    generalize dryN lo hi fl k (wlo, whi) = p at *
    obtain ⟨a1, a2, a3, a4⟩ := hbk
    have c0 := r0.cellAt 0 rfl
    have c1 := r0.cellAt 1 rfl
    have c2 := r0.cellAt 2 rfl
    have c3 := r1.cellAt 0 rfl
    have c4 := r1.cellAt 1 rfl
    have c5 := r2.cellAt 0 rfl
    have c6 := r2.cellAt 1 rfl
    have z0 := r0.lt
    have z1 := r1.lt
    have z2 := r2.lt
    by_cases hlt : k < n
    · go_wp2
      refine region_below 15 follows_mixed (by kernel_rfl) ?_
      intro C hC
      simp only [List.take_succ_cons, List.take_zero, List.drop_succ_cons, List.drop_zero]
      repeat (first
        | ((with_reducible refine quiet_plain rfl (fun K hK => ?_)); (focus (apply quiet_val; (focus (intro w' hw; obtain ⟨hcq, hfq⟩ := bcell ((hC.out _).1 hw); go_simp; (first | done | rfl | (with_reducible exact call_below hC hw (refStep_any _ _ _ _ _ _ a1 a2 h3 h4 h7 h8)) | (with_reducible exact call_below hC hw (refStep_any _ _ _ _ _ _ a3 a4 h3 h4 h5 h6))))); (simp only [Act.put, List.setIfInBounds_toArray, List.set_cons_succ, List.set_cons_zero]); (with_reducible refine hK _ ?_); clear hK K)))
        | ((with_reducible refine quiet_skip ?_ ?_); (focus (simp [Region.wanted, yielded]; done)); simp only [Act.put, List.setIfInBounds_toArray, List.set_cons_succ, List.set_cons_zero])
        | ((with_reducible refine quiet_go ?_ (fun K hK => ?_)); (focus (simp [Region.wanted, yielded]; done)); (focus (apply quiet_val; (focus (intro w' hw; obtain ⟨hcq, hfq⟩ := bcell ((hC.out _).1 hw); go_simp; (first | done | rfl | (with_reducible exact call_below hC hw (refStep_any _ _ _ _ _ _ a1 a2 h3 h4 h7 h8)) | (with_reducible exact call_below hC hw (refStep_any _ _ _ _ _ _ a3 a4 h3 h4 h5 h6))))); (simp only [Act.put, List.setIfInBounds_toArray, List.set_cons_succ, List.set_cons_zero]); (with_reducible refine hK _ ?_); clear hK K))))
      refine wpQuiet_nil ?_
      intro w1 hb1
      replace hb1 := (hC.out _).1 hb1
      clear hC C
      obtain ⟨hc1, hf1⟩ := bcell hb1
      have s0 := r0.past hb1
      have s1 := r1.past hb1
      have s2 := r2.past hb1
      have d3 := s1.cellAt 0 rfl
      have d4 := s1.cellAt 1 rfl
      have f3 := s1.frozen 0
      have f4 := s1.frozen 1
      have y1 := s1.lt
      have hz := hr.size
      clear hc1 hf1 c0 c1 c2 c3 c4 c5 c6
      go_wp2
      go_roundw
      case rel => exact ⟨k + 1, by omega, by go_num, by rw [HS.out]; exact ⟨(s0.far (by dsimp only; omega)).far (by dsimp only; omega), by have := (s1.set_ 0 (.int .i64 (driedV fl p.1 hi))).set_ 1 (.int .i64 (driedV fl p.2 lo)); simpa using this, (s2.far (by dsimp only; omega)).far (by dsimp only; omega), ps (ps (pt hr hb1) (by dsimp only; omega)) (by dsimp only; omega)⟩⟩
      case measure => simp [intOf]; omega
    · have HP := Lib.hid (HN.out (by omega))
      have f5 := r2.frozen 0
      have f6 := r2.frozen 1
      have hz := hr.size
      go_wp2
      refine bodyPost_ret (v := .agg #[.int .i64 p.1, .int .i64 p.2]) (by simp [results, Try.results50, go_sem, c5, c6]) rfl ⟨by rw [HP.out], ?_⟩
      exact ps (ps hr (by dsimp only; omega)) (by dsimp only; omega)

end Go.Proofs.Ytlgioldmjohhlaa
end

section
namespace Go.Proofs.Ytlgioldmjohhlaa
open Go.RowKit

theorem dried_mono {fl w w' r : Int} (h : w ≤ w') (h5 : 0 ≤ r) (h6 : r ≤ 1000) : driedV fl w r ≤ driedV fl w' r := by
  unfold driedV
  obtain ⟨m, hm⟩ : ∃ m, m = max 0 (w - fl) := ⟨_, rfl⟩
  obtain ⟨m', hm'⟩ : ∃ m', m' = max 0 (w' - fl) := ⟨_, rfl⟩
  rw [← hm, ← hm']
  have h1 : m ≤ m' := by omega
  have h2 : m' - m ≤ w' - w := by omega
  have h3 : m * r ≤ m' * r := Int.mul_le_mul_of_nonneg_right h1 h5
  have h4 : (m' - m) * r ≤ (m' - m) * 1000 := Int.mul_le_mul_of_nonneg_left h6 (by omega)
  rw [Int.sub_mul] at h4
  generalize m * r = x at *
  generalize m' * r = y at *
  omega
theorem dried_anti {fl w r r' : Int} (h : r ≤ r') : driedV fl w r' ≤ driedV fl w r := by
  unfold driedV
  have h3 : max 0 (w - fl) * r ≤ max 0 (w - fl) * r' := Int.mul_le_mul_of_nonneg_left h (by omega)
  generalize max 0 (w - fl) * r = x at *
  generalize max 0 (w - fl) * r' = y at *
  omega

theorem stepsF_some {g : Nat → Int} {t : Int} : ∀ (m k n : Nat), stepsF g t m k = some n → k ≤ n ∧ n < k + m ∧ g n ≤ t ∧ ∀ j, k ≤ j → j < n → t < g j
  | 0, k, n, h => by cases h
  | m + 1, k, n, h => by
    unfold stepsF at h
    by_cases hk : g k ≤ t
    · rw [if_pos hk] at h
      injection h with h
      subst h
      exact ⟨Nat.le_refl _, by omega, hk, fun j h1 h2 => by omega⟩
    · rw [if_neg hk] at h
      obtain ⟨h1, h2, h3, h4⟩ := stepsF_some m (k + 1) n h
      refine ⟨by omega, by omega, h3, fun j h5 h6 => ?_⟩
      by_cases hj : j = k
      · subst hj; omega
      · exact h4 j (by omega) h6

theorem baseMod_any (n b : Int) (w : World) (h1 : 1 ≤ b) (h2 : b ≤ 4611686018427387904) :
    Calls Try.prog 52 #[.int .i64 n, .int .i64 b] w fun e w' => e = .returned (.int .i64 (n % b)) ∧ w = w' := by
  have hbne : (b == 0) = false := by rw [beq_eq_false_iff_ne]; omega
  have ht := Int.tmod_lt_of_pos n (show 0 < b by omega)
  have ht2 : -b < n.tmod b := by
    have := Int.lt_tmod_of_pos n (show 0 < b by omega)
    omega
  have he := Int.emod_nonneg n (show b ≠ 0 by omega)
  have hcase : (n.tmod b < 0 ∧ n.tmod b + b = n % b) ∨ (0 ≤ n.tmod b ∧ n.tmod b = n % b) := by
    rw [Int.tmod_eq_emod] at ht2 ⊢
    have h3 := Int.emod_lt_of_pos n (show 0 < b by omega)
    split <;> rename_i hc
    · omega
    · have h4 : 0 < n % b := by
        have : n % b ≠ 0 := fun e => hc (.inr (Int.dvd_of_emod_eq_zero e))
        omega
      omega
  clear he
  rcases hcase with ⟨h0, hr⟩ | ⟨h0, hr⟩
  all_goals
    have HR := Lib.hid hr
    clear hr
    go_enter Try.func52, Try.ntmps52
    go_wp2
    go_ret
    exact ⟨ret_int HR.out, rfl⟩

end Go.Proofs.Ytlgioldmjohhlaa
end

section
namespace Go.Proofs.Ytlgioldmjohhlaa
open Go.RowKit Go.Shelf
attribute [local go_sem] Oper.semAt_some

theorem heap_setCell_far {w : World} {p : Addr} {u : Value} {k : Nat} (h : p.block < k) : (w.setCell p u).heap[k]? = w.heap[k]? := by
  have : k ≠ p.block := by omega
  simp [World.setCell, Array.getElem?_modify, Ne.symm this]

theorem stacksUpto_length {count : Nat} {overlap : Int} {d M : Nat} (h : ∀ xs, (stacksV count overlap d xs).length ≤ M) (xs : List Int) : ∀ k, (stacksUpto count overlap d xs k).length ≤ k * M
  | 0 => by simp [stacksUpto]
  | k + 1 => by
    rw [stacksUpto_succ, List.length_append, Nat.succ_mul]
    have h1 := stacksUpto_length h xs k
    have h2 : (if hasB xs (k : Int) || nearB xs overlap k then [] else stacksV count overlap d (xs ++ [(k : Int)])).length ≤ M := by
      split
      · exact Nat.zero_le _
      · exact h _
    omega
theorem stacksV_length (count : Nat) (overlap : Int) : ∀ (d : Nat) (xs : List Int), (stacksV count overlap d xs).length ≤ count ^ d
  | 0, xs => by
    simp only [stacksV]
    split <;> simp
  | d + 1, xs => by
    have h := stacksUpto_length (stacksV_length count overlap d) xs count
    rw [Nat.pow_succ, Nat.mul_comm]
    exact h
theorem stacksV_few {count : Nat} (overlap : Int) (h : count ≤ 8) (d : Nat) (hd : d ≤ 8) (xs : List Int) : (stacksV count overlap d xs).length ≤ 16777216 := by
  refine Nat.le_trans (stacksV_length count overlap d xs) (Nat.le_trans (Nat.pow_le_pow_left h d) ?_)
  exact Nat.le_trans (Nat.pow_le_pow_right (by omega) hd) (by decide)

set_option maxRecDepth 100000 in
set_option maxHeartbeats 2000000 in
theorem stacksOf_in (n count : Nat) (overlap : Int) (w : World) (h1 : 1 ≤ n) (h0 : stackE count overlap = 0) (hcount : count ≤ 8) :
    CallsIn Fence.wide n Try.prog 26 #[.int .i64 (count : Int), .int .i64 overlap] w fun e w' =>
      e = .returned (.tuple #[.int .i64 ((stacksV count overlap count []).length : Int), .int .i64 0]) ∧ Below w.heap.size w w' := by
  have h00 : stackE (count : Int) overlap = 0 := h0
  have hlen := stacksV_few overlap hcount count hcount []
  clear h0
  refine callsIn_of_wp_marks Try.func26 rfl trivial ?_ rfl
  simp only [Try.ntmps26, List.size_toArray, List.length_cons, List.length_nil, Nat.reduceAdd, Nat.reduceSub, Array.replicate_succ, Array.replicate_zero, List.push_toArray, List.append_toArray, List.nil_append, List.cons_append]
  gi_wp2_with (first | (refine ⟨trivial, ?_⟩; gi_at_call 85; refine (callsIn_wide.2 (stackErr_any _ _ _)).mono ?_; rintro e w1 ⟨rfl, rfl⟩) | (refine ⟨trivial, ?_⟩; gi_at_call 91; refine (callsIn_wide.2 (stacks_any _ _ _)).mono ?_; rintro e w1 ⟨rfl, rfl⟩))
  have r0 : Blk (((w.alloc (.cells #[.int .i64 0] 3)).alloc (.cells #[.int .i64 (count : Int)] 3)).alloc (.cells #[.int .i64 overlap] 3)) w.heap.size 3 #[.int .i64 ((([] : List Stk).length : Nat) : Int)] := ((Blk.newAt rfl).alloc).alloc
  have r2 : Blk (((w.alloc (.cells #[.int .i64 0] 3)).alloc (.cells #[.int .i64 (count : Int)] 3)).alloc (.cells #[.int .i64 overlap] 3)) (w.heap.size + 1) 3 #[.int .i64 (count : Int)] := (Blk.newAt (by simp)).alloc
  have r3 : Blk (((w.alloc (.cells #[.int .i64 0] 3)).alloc (.cells #[.int .i64 (count : Int)] 3)).alloc (.cells #[.int .i64 overlap] 3)) (w.heap.size + 1 + 1) 3 #[.int .i64 overlap] := Blk.newAt (by simp)
  have hb : Below w.heap.size w (((w.alloc (.cells #[.int .i64 0] 3)).alloc (.cells #[.int .i64 (count : Int)] 3)).alloc (.cells #[.int .i64 overlap] 3)) := pa (pa (pa pr))
  generalize (((w.alloc (.cells #[.int .i64 0] 3)).alloc (.cells #[.int .i64 (count : Int)] 3)).alloc (.cells #[.int .i64 overlap] 3)) = W0 at *
  have hsz : w.heap.size + 1 + 1 < W0.heap.size := r3.lt
  refine rangeFunc_law h1 (gf := 134) (fb := #[]) (lb := #[.pointer (some ⟨w.heap.size + 1, 0, none⟩), .pointer (some ⟨w.heap.size + 1 + 1, 0, none⟩)]) rfl (enters_of Try.func134 (by kernel_rfl) rfl)
    (stacks_seq (n - 1) count overlap hcount (w.heap.size + 1) (w.heap.size + 1 + 1) W0 (by omega) (by omega) (r2.cellAt 0 rfl) (r3.cellAt 0 rfl)) (Below.refl _ _)
    (fun h k => h.trans k) (fun W A l o o' hl hl2 ho hc => ⟨by simp, fun k hk _ => World.putObj_heap_other (by omega)⟩)
    (fun x A l o o' ho hc hp => ⟨own_ints (β := Unit) 0 W0.heap.size x.1.1 x.2 () A _ (some l) hp.1 (grownBy_putObj' A l o') (fun r e => by cases e; exact ⟨Nat.zero_le _, o, ho, hc⟩), hp.2⟩) (fun x => rfl)
    (fun pre W => Blk W w.heap.size 3 #[.int .i64 ((pre.length : Nat) : Int)] ∧ Below w.heap.size w W)
    (fun _ _ _ => False)
    (fun s A B row hs hg hr => ⟨own_blk _ _ _ _ s A B row hs.1 hg hr, ownFrom_below (Nat.le_refl _) hb.size s A B row hs.2 hg hr⟩)
    (fun _ _ _ _ _ hs _ _ => hs)
    ⟨r0, hb⟩
    (fun x => { tmps := #[.int .i64 (count : Int), .int .i64 overlap, undef, undef, .int .i64 0, .int .i64 0, .int .i64 0, .pointer (some ⟨w.heap.size, 0, none⟩), .int .i64 (count : Int), .int .i64 overlap, .int .i64 0, .int .i64 0, .bool false, undef, .int .i64 (count : Int), .int .i64 overlap,
      .func (.func 134) #[] #[.pointer (some ⟨w.heap.size + 1, 0, none⟩), .pointer (some ⟨w.heap.size + 1 + 1, 0, none⟩)], .slice x.1.1 count x.1.2, undef, undef, undef], defers := [] }) ?assign ?body ?done ?stop
  case assign =>
    intro l x W K hK
    unfold stackEnc
    gi_wp2
    simpa using hK
  case body =>
    rintro l pre x Wb W hWb ⟨q0, hq⟩ ⟨hp1, hp2, hp3⟩ hlt
    have c0 := q0.cellAt 0 rfl
    have f0 := q0.frozen 0
    have hl : pre.length < 16777216 := Nat.lt_of_lt_of_le hlt hlen
    clear hlen hlt
    gi_wp2
    refine ⟨(KeepsOthers.setCell _ _ _).from _, ⟨by simp, fun k hk _ => heap_setCell_far (by dsimp only; omega)⟩, ?_, ps hq (by dsimp only; omega)⟩
    have e : ((pre.length : Nat) : Int) + 1 = (((pre ++ [x]).length : Nat) : Int) := by simp
    rw [← e]
    simpa using q0.set_ 0 (.int .i64 (((pre.length : Nat) : Int) + 1))
  case done =>
    rintro D xs W hD hS ⟨q0, hq⟩ hK
    have c0 := q0.cellAt 0 rfl
    have f0 := q0.frozen 0
    have hl : xs.length = (stacksV count overlap count []).length := by rw [← hS]; simp
    have HL := Lib.hid hl
    clear hl hS hlen
    gi_wp2
    refine ⟨by simp, .inl ⟨_, _, rfl, run_takeDeferred hK, ?_⟩⟩
    refine ⟨.tuple #[.int .i64 ((xs.length : Nat) : Int), .int .i64 0], by simp [results, Try.results26, go_sem], ?_⟩
    rw [HL.out]
    exact ⟨rfl, hq.trans ⟨rfl, rfl, rfl, by simp, fun k hk => World.putObj_heap_other (by omega)⟩⟩
  case stop =>
    rintro D c pre W hD hSp hf hK
    exact hf.elim

end Go.Proofs.Ytlgioldmjohhlaa
end

section
namespace Go.Proofs.Ytlgioldmjohhlaa
open Go.RowKit

theorem refStackErr_any (count overlap : Int) (w : World) :
    Calls Try.prog 28 #[.int .i64 count, .int .i64 overlap] w fun e w' => e = .returned (.int .i64 (stackE count overlap)) ∧ w = w' := by
  cases h : withinB count 1 8 <;> cases h2 : withinB overlap 0 8
  all_goals
    go_enter Try.func28, Try.ntmps28
    go_wp2_with (go_at_call 32; refine (baseWithin_any _ _ _ _).mono ?_; rintro e w' ⟨rfl, rfl⟩)
    go_ret
    exact ⟨ret_int (by simp [stackE, h, h2, unlessV]), rfl⟩

theorem has_step (xs : List Int) (x : Int) (k : Nat) (h : k < xs.length) : hasB (xs.drop k) x = if xs.getD k 0 = x then true else hasB (xs.drop (k + 1)) x := by
  have e : xs.getD k 0 = xs[k] := by simp [List.getD, h]
  rw [List.drop_eq_getElem_cons h, e]
  unfold hasB
  rw [List.contains_cons]
  by_cases hx : xs[k] = x
  · simp [hx]
  · have : (x == xs[k]) = false := by simpa using fun e => hx e.symm
    simp [this, hx]

set_option maxHeartbeats 400000 in
theorem baseHas_any (B : Nat) (A : Option Addr) (c : Nat) (xs : List Int) (x : Int) (w : World) (hr : IntsIn B w A xs) (hm : xs.length ≤ 1000) :
    Calls Try.prog 33 #[.slice A xs.length c, .int .i64 x] w fun e w' => e = .returned (.bool (hasB xs x)) ∧ w = w' := by
  go_enter Try.func33, Try.ntmps33
  go_wp2
  go_loop [5] (fun i => ∃ k : Nat, k ≤ xs.length ∧ i = .int .i64 k ∧ hasB xs x = hasB (xs.drop k) x) (fun i => xs.length - (intOf i).toNat)
  case atStart => exact ⟨0, Nat.zero_le _, rfl, rfl⟩
  case round =>
    obtain ⟨k, hk, rfl, hf⟩ := hrel
    by_cases hlt : k < xs.length
    · obtain ⟨b, off, rfl, hb, hc⟩ := hr.at_ hlt
      have hcell := hc k hlt
      have HF := Lib.hid (hf.trans (has_step xs x k hlt))
      clear hc hf hr
      generalize xs.getD k 0 = y at *
      by_cases hxy : y = x
      · subst hxy
        go_wp2
        go_ret
        exact ⟨ret_bool (by rw [HF.out]; simp), rfl⟩
      · have hne : (y == x) = false := by simpa using hxy
        have HN := Lib.hid hxy
        clear hxy
        go_wp2
        go_round
        case rel => exact ⟨k + 1, by omega, by go_num, by rw [HF.out, if_neg HN.out]⟩
        case measure => simp [intOf]; omega
    · have HF := Lib.hid (show hasB xs x = false by
        rw [hf, List.drop_eq_nil_of_le (by omega)]
        rfl)
      clear hf
      go_wp2
      go_ret
      exact ⟨ret_bool HF.out.symm, rfl⟩

theorem baseHas_n (n : Nat) (B : Nat) (A : Option Addr) (c : Nat) (xs : List Int) (x : Int) (w : World) (hr : IntsIn B w A xs) (hn : xs.length = n) (hm : n ≤ 1000) :
    Calls Try.prog 33 #[.slice A n c, .int .i64 x] w fun e w' => e = .returned (.bool (hasB xs x)) ∧ w = w' := by
  subst hn
  exact baseHas_any B A c xs x w hr hm

theorem baseSize_any (n : Int) (w : World) (h : -1000000000000000000 ≤ n) (h2 : n ≤ 1000000000000000000) :
    Calls Try.prog 92 #[.int .i64 n] w fun e w' => e = .returned (.int .i64 (sizeV n)) ∧ w = w' := by
  rcases Int.lt_or_le n 0 with hn | hn
  all_goals
    go_enter Try.func92, Try.ntmps92
    go_wp2
    all_goals
      go_ret
      exact ⟨ret_int (by unfold sizeV; omega), rfl⟩

set_option maxRecDepth 100000 in
set_option maxHeartbeats 400000 in
theorem copyInts_any (B : Nat) (A : Option Addr) (n c : Nat) (xs : List Int) (w : World) (hr : IntsIn B w A xs) (hn : xs.length = n) (hB : B ≤ w.heap.size) (hm : n ≤ 1000) :
    Calls Try.prog 24 #[.slice A n c] w (RowRet w xs) := by
  obtain ⟨i0, hi0, hz0, hz1, hz2⟩ := info_parts int_info
  have HR := Lib.hid hr.cells
  have HN := Lib.hid hn
  clear hr hn
  go_enter Try.func24, Try.ntmps24
  have own0 : (w.alloc (.cells #[] 3)).ownsRow w.heap.size 3 1 (.slice (some ⟨w.heap.size, 0, none⟩) 0 0) 0 [] := World.ownsRow_lit w #[] 0 (Nat.le_refl _) (Nat.zero_le _) rfl
  have hcl : CellsIn B (w.alloc (.cells #[] 3)) A (List.map (Value.int IntKind.i64) xs) := HR.out.below ((pa (Below.refl _ w)).mono hB)
  have hone : ∀ u ∈ List.map (Value.int IntKind.i64) xs, u.oneCell' = true := by simp [Value.oneCell']
  have hlen : (List.map (Value.int IntKind.i64) xs).length = n * 1 := by simp [HN.out]
  have hmx : 0 + n ≤ maxLen := by simp only [maxLen]; omega
  have HO := Lib.hid own0
  have HC := Lib.hid hcl
  have H1 := Lib.hid hone
  have HL := Lib.hid hlen
  have HM := Lib.hid hmx
  clear own0 hcl hone hlen hmx
  go_wp2_with (at_builtin; go_must (refine wpList_append_cells _ rfl (.tmp 3) (.tmp 4) _ rfl w.heap.size 3 i0 _ 1 8 Try.underlying28 hi0 hz0 hz1 hz2 rfl (by omega) (.slice (some ⟨w.heap.size, 0, none⟩) 0 0) 0 [] rfl HO.out B A n c _ rfl HC.out HL.out H1.out HM.out (by omega) (by simp) ?_); intro v1 w1 hown1 hg1 hat1)
  go_ret
  refine ⟨v1, rfl, ?_, pg (pa pr) HO.out (Nat.le_refl _) hg1⟩
  rw [HN.out]
  simpa using hown1

end Go.Proofs.Ytlgioldmjohhlaa
end
