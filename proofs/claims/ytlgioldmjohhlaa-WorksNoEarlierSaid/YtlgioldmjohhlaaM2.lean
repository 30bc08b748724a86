/- Contracts of the functions of package works that check an oven, and dry in it.
Contracts: a number's index in a slice, whether a slice has a number, a slice's copy, the size of a number; which stacks overlap.
Contract: a slice's copy (slices.Clone at numbers) is a row of the call's own with the same numbers.
A range over a function whose iterator hands over memory of its own: the round is told what holds of what it is handed (Pr) in the world in which it begins. Turned from the library's law for a range over a function, at the wide fence. No condition.
Contract: the recursive iterator over all stacks that overlap.
Contracts: the iterator over all stacks that overlap; the first one; the number of all. -/
import Derived.Test.YtlgioldmjohhlaaM1
import Derived.RangeFuncNested
import Derived.RangeFuncBound
import Derived.RangeFuncCalls
import Derived.RangeFuncLeaves
import Derived.Shelf.Abstract
import Derived.Shelf.RegionOpen
import Derived.OwnWalkIn
import Derived.TacticsInMore
import Derived.LoopNIn
import Derived.LoopIn
import Derived.Maps.OwnIn

section
namespace Go.Proofs.Ytlgioldmjohhlaa
open Go.RowKit

def ovenE (lo hi fl : Int) : Int := firstV [rangeErrV rateB lo hi, unlessV (waterB fl) 2]
def ovenErrV (lo hi fl wlo whi : Int) : Int := firstV [ovenE lo hi fl, rangeErrV waterB wlo whi]

set_option maxHeartbeats 1000000 in
theorem checkOven_any (lo hi fl : Int) (w : World) :
    Calls Try.prog 48 #[.agg #[.int .i64 lo, .int .i64 hi, .int .i64 fl]] w fun r w' => r = .returned (.int .i64 (ovenE lo hi fl)) ∧ Below w.heap.size w w' := by
  go_enter Try.func48, Try.ntmps48
  go_wp2_with (first
    | (go_at_call 109; refine (rangeErr_rate _ _ _).mono ?_; rintro e w1 ⟨rfl, hb⟩; obtain ⟨hc, hf⟩ := bcell hb)
    | (go_at_call 108; refine (isWater_any _ _).mono ?_; rintro e w' ⟨rfl, rfl⟩)
    | (go_at_call 87; refine (unless_any _ _ _).mono ?_; rintro e w' ⟨rfl, rfl⟩)
    | (go_at_call 86; refine (first2 _ _ _ _ _ (by go_simp; rfl) (by go_simp; rfl)).mono ?_; rintro e w' ⟨rfl, rfl⟩))
  go_ret
  exact ⟨rfl, pa (pt (pa pr) hb)⟩

set_option maxHeartbeats 1000000 in
set_option maxRecDepth 100000 in
theorem ovenErr_any (lo hi fl wlo whi : Int) (w : World) :
    Calls Try.prog 106 #[.agg #[.int .i64 lo, .int .i64 hi, .int .i64 fl], .agg #[.int .i64 wlo, .int .i64 whi]] w fun r w' => r = .returned (.int .i64 (ovenErrV lo hi fl wlo whi)) ∧ Below w.heap.size w w' := by
  go_enter Try.func106, Try.ntmps106
  go_wp2
  refine region_below 4 follows_mixed (by kernel_rfl) ?_
  intro C hC
  simp only [List.take_succ_cons, List.take_zero, List.drop_succ_cons, List.drop_zero]
  repeat (first
    | ((with_reducible refine quiet_plain rfl (fun K hK => ?_)); (focus (apply quiet_val; (focus (intro w' hw; obtain ⟨hcq, hfq⟩ := bcell ((hC.out _).1 hw); go_simp; (first | done | rfl | (with_reducible exact call_below hC hw (checkOven_any _ _ _ _)) | (with_reducible exact call_below hC hw (rangeErr_water _ _ _))))); (simp only [Act.put, List.setIfInBounds_toArray, List.set_cons_succ, List.set_cons_zero]); (with_reducible refine hK _ ?_); clear hK K)))
    | ((with_reducible refine quiet_skip ?_ ?_); (focus (simp [Region.wanted, yielded]; done)); simp only [Act.put, List.setIfInBounds_toArray, List.set_cons_succ, List.set_cons_zero])
    | ((with_reducible refine quiet_go ?_ (fun K hK => ?_)); (focus (simp [Region.wanted, yielded]; done)); (focus (apply quiet_val; (focus (intro w' hw; obtain ⟨hcq, hfq⟩ := bcell ((hC.out _).1 hw); go_simp; (first | done | rfl | (with_reducible exact call_below hC hw (checkOven_any _ _ _ _)) | (with_reducible exact call_below hC hw (rangeErr_water _ _ _))))); (simp only [Act.put, List.setIfInBounds_toArray, List.set_cons_succ, List.set_cons_zero]); (with_reducible refine hK _ ?_); clear hK K))))
  refine wpQuiet_nil ?_
  intro w1 hb1
  replace hb1 := (hC.out _).1 hb1
  clear hC C
  obtain ⟨hc1, hf1⟩ := bcell hb1
  go_wp2_with (go_at_call 86; refine (first2 _ _ _ _ _ (by go_simp; rfl) (by go_simp; rfl)).mono ?_; rintro e w' ⟨rfl, rfl⟩)
  go_ret
  exact ⟨rfl, pa (pt (pa (pa pr)) hb1)⟩

def driedV (fl water rate : Int) : Int := water - max 0 (water - fl) * rate / 1000

theorem driedV_bd {fl water rate : Int} (h1 : 0 ≤ water) (h2 : water ≤ 1000000) (h3 : 0 ≤ fl) (h5 : 0 ≤ rate) (h6 : rate ≤ 1000) :
    0 ≤ driedV fl water rate ∧ driedV fl water rate ≤ water ∧ min water fl ≤ driedV fl water rate := by
  unfold driedV
  have hm : 0 ≤ max 0 (water - fl) := by omega
  have hb := mul_bd hm (Int.le_refl _) h5 h6
  have hM : max 0 (water - fl) = 0 ∨ max 0 (water - fl) = water - fl := by omega
  rcases hM with e | e <;> rw [e] at hb ⊢ <;> omega

theorem dried_hi {fl water rate : Int} (h1 : 0 ≤ water) (h2 : water ≤ 1000000) (h3 : 0 ≤ fl) (h5 : 0 ≤ rate) (h6 : rate ≤ 1000) (h : fl < water) :
    wrap64 (water - wrap64 ((wrap64 ((water - fl) * rate)).tdiv 1000)) = driedV fl water rate := by
  have hb := mul_bd (a := water - fl) (A := 1000000) (by omega) (by omega) h5 h6
  have e : max 0 (water - fl) = water - fl := by omega
  unfold driedV
  rw [e]
  generalize (water - fl) * rate = x at *
  rw [w64 (n := x) (by omega), Int.tdiv_eq_ediv_of_nonneg (by omega), w64 (n := x / 1000) (by omega), w64 (by omega)]

theorem dried_lo {fl water rate : Int} (h : water ≤ fl) : water = driedV fl water rate := by
  have e : max 0 (water - fl) = 0 := by omega
  unfold driedV
  rw [e, Int.zero_mul]
  omega

set_option maxHeartbeats 1000000 in
theorem dried_any (lo hi fl water rate : Int) (w : World) (h1 : 0 ≤ water) (h2 : water ≤ 1000000) (h3 : 0 ≤ fl) (h4 : fl ≤ 1000000) (h5 : 0 ≤ rate) (h6 : rate ≤ 1000) :
    Calls Try.prog 107 #[.agg #[.int .i64 lo, .int .i64 hi, .int .i64 fl], .int .i64 water, .int .i64 rate] w fun r w' => r = .returned (.int .i64 (driedV fl water rate)) ∧ Below w.heap.size w w' := by
  rcases Int.lt_or_le fl water with h | h
  · go_enter Try.func107, Try.ntmps107
    go_wp2
    go_ret
    exact ⟨ret_int (dried_hi h1 h2 h3 h5 h6 h), pa pr⟩
  · go_enter Try.func107, Try.ntmps107
    go_wp2
    go_ret
    exact ⟨ret_int (dried_lo h), pa pr⟩

/-- The water after so many steps. -/
def dryN (rlo rhi fl : Int) : Nat → Int × Int → Int × Int
  | 0, p => p
  | n + 1, p => (driedV fl (dryN rlo rhi fl n p).1 rhi, driedV fl (dryN rlo rhi fl n p).2 rlo)

theorem dryN_bd {rlo rhi fl : Int} {p : Int × Int} (h3 : 0 ≤ fl) (h5 : 0 ≤ rlo) (h6 : rlo ≤ 1000) (h7 : 0 ≤ rhi) (h8 : rhi ≤ 1000) (h1 : 0 ≤ p.1) (h2 : p.1 ≤ 1000000) (g1 : 0 ≤ p.2) (g2 : p.2 ≤ 1000000) :
    ∀ n, 0 ≤ (dryN rlo rhi fl n p).1 ∧ (dryN rlo rhi fl n p).1 ≤ 1000000 ∧ 0 ≤ (dryN rlo rhi fl n p).2 ∧ (dryN rlo rhi fl n p).2 ≤ 1000000
  | 0 => ⟨h1, h2, g1, g2⟩
  | n + 1 => by
    obtain ⟨a, b, c, d⟩ := dryN_bd h3 h5 h6 h7 h8 h1 h2 g1 g2 n
    have e := driedV_bd (rate := rhi) a b h3 h7 h8
    have f := driedV_bd (rate := rlo) c d h3 h5 h6
    simp only [dryN]
    omega

/-- What holds of memory when k steps are over. -/
def DryRel (w : World) (lo hi fl : Int) (p : Int × Int) (wr : World) : Prop :=
  Blk wr w.heap.size 67 #[.int .i64 lo, .int .i64 hi, .int .i64 fl] ∧ Blk wr (w.heap.size + 1) 59 #[.int .i64 p.1, .int .i64 p.2] ∧ Blk wr (w.heap.size + 1 + 1) 59 #[.int .i64 0, .int .i64 0] ∧ Below w.heap.size w wr

set_option maxHeartbeats 1000000 in
set_option maxRecDepth 100000 in
theorem dryAfter_ok (lo hi fl wlo whi : Int) (n : Nat) (w : World) (he : ovenErrV lo hi fl wlo whi = 0) (hn : n ≤ 1000)
    (h3 : 0 ≤ fl) (h4 : fl ≤ 1000000) (h5 : 0 ≤ lo) (h6 : lo ≤ 1000) (h7 : 0 ≤ hi) (h8 : hi ≤ 1000) (h1 : 0 ≤ wlo) (h2 : wlo ≤ 1000000) (g1 : 0 ≤ whi) (g2 : whi ≤ 1000000) :
    Calls Try.prog 45 #[.agg #[.int .i64 lo, .int .i64 hi, .int .i64 fl], .agg #[.int .i64 wlo, .int .i64 whi], .int .i64 (n : Int)] w fun r w' =>
      r = .returned (.tuple #[.agg #[.int .i64 (dryN lo hi fl n (wlo, whi)).1, .int .i64 (dryN lo hi fl n (wlo, whi)).2], .int .i64 0]) ∧ Below w.heap.size w w' := by
  have hbd := dryN_bd (p := (wlo, whi)) h3 h5 h6 h7 h8 h1 h2 g1 g2
  have hfirst : firstV [ovenErrV lo hi fl wlo whi, unlessV (withinB (n : Int) 0 1000) 2] = 0 := by
    have : withinB (n : Int) 0 1000 = true := by simp [withinB]; omega
    rw [he, this]; rfl
  have HF := Lib.hid hfirst
  have HB := Lib.hid hbd
  clear hfirst hbd he
  go_enter Try.func45, Try.ntmps45
  go_wp2_with (first
    | (go_at_call 106; refine (ovenErr_any _ _ _ _ _ _).mono ?_; rintro e w1 ⟨rfl, hb⟩; obtain ⟨hc, hf⟩ := bcell hb)
    | (go_at_call 88; refine (within_any _ _ _ _).mono ?_; rintro e w' ⟨rfl, rfl⟩)
    | (go_at_call 87; refine (unless_any _ _ _).mono ?_; rintro e w' ⟨rfl, rfl⟩)
    | (go_at_call 86; refine (first2 _ _ _ _ _ (by go_simp; rfl) (by go_simp; rfl)).mono ?_; rintro e w' ⟨rfl, rfl⟩; rw [HF.out]))
  have b0 : Blk w1 w.heap.size 67 #[.int .i64 lo, .int .i64 hi, .int .i64 fl] := (((Blk.newAt rfl).alloc).alloc).past hb
  have b1 : Blk w1 (w.heap.size + 1) 59 #[.int .i64 wlo, .int .i64 whi] := ((Blk.newAt (by simp)).alloc).past hb
  have b2 : Blk w1 (w.heap.size + 1 + 1) 59 #[.int .i64 0, .int .i64 0] := (Blk.newAt (by simp)).past hb
  have hB := pt (pa (pa (pa pr))) hb
  clear hb hc hf HF
  go_loopw [22] (fun i wr => ∃ k : Nat, k ≤ n ∧ i = .int .i64 (k : Int) ∧ DryRel w lo hi fl (dryN lo hi fl k (wlo, whi)) wr) (fun i _ => n - (intOf i).toNat)
  case atStart => exact ⟨0, Nat.zero_le _, rfl, b0.alloc, b1.alloc, b2.alloc, pa hB⟩
  case round =>
    obtain ⟨k, hk, rfl, r0, r1, r2, hr⟩ := hrel
    clear b0 b1 b2 hB
    have hbk := HB.out k
    have HS := Lib.hid (show dryN lo hi fl (k + 1) (wlo, whi) = (driedV fl (dryN lo hi fl k (wlo, whi)).1 hi, driedV fl (dryN lo hi fl k (wlo, whi)).2 lo) from rfl)
    have HN := Lib.hid (show n = k → dryN lo hi fl n (wlo, whi) = dryN lo hi fl k (wlo, whi) from fun e => by rw [e])
    generalize dryN lo hi fl k (wlo, whi) = p at *
    obtain ⟨a1, a2, a3, a4⟩ := hbk
    have c0 := r0.cellAt 0 rfl
    have c1 := r0.cellAt 1 rfl
    have c2 := r0.cellAt 2 rfl
    have c3 := r1.cellAt 0 rfl
    have c4 := r1.cellAt 1 rfl
    have c5 := r2.cellAt 0 rfl
    have c6 := r2.cellAt 1 rfl
    have f3 := r1.frozen 0
    have f4 := r1.frozen 1
    have f5 := r2.frozen 0
    have f6 := r2.frozen 1
    have z0 := r0.lt
    have z1 := r1.lt
    have z2 := r2.lt
    by_cases hlt : k < n
    · go_wp2
      refine region_below 15 follows_mixed (by kernel_rfl) ?_
      intro C hC
      simp only [List.take_succ_cons, List.take_zero, List.drop_succ_cons, List.drop_zero]
      repeat (first
        | ((with_reducible refine quiet_plain rfl (fun K hK => ?_)); (focus (apply quiet_val; (focus (intro w' hw; obtain ⟨hcq, hfq⟩ := bcell ((hC.out _).1 hw); go_simp; (first | done | rfl | (with_reducible exact call_below hC hw (dried_any _ _ _ _ _ _ a1 a2 h3 h4 h7 h8)) | (with_reducible exact call_below hC hw (dried_any _ _ _ _ _ _ a3 a4 h3 h4 h5 h6))))); (simp only [Act.put, List.setIfInBounds_toArray, List.set_cons_succ, List.set_cons_zero]); (with_reducible refine hK _ ?_); clear hK K)))
        | ((with_reducible refine quiet_skip ?_ ?_); (focus (simp [Region.wanted, yielded]; done)); simp only [Act.put, List.setIfInBounds_toArray, List.set_cons_succ, List.set_cons_zero])
        | ((with_reducible refine quiet_go ?_ (fun K hK => ?_)); (focus (simp [Region.wanted, yielded]; done)); (focus (apply quiet_val; (focus (intro w' hw; obtain ⟨hcq, hfq⟩ := bcell ((hC.out _).1 hw); go_simp; (first | done | rfl | (with_reducible exact call_below hC hw (dried_any _ _ _ _ _ _ a1 a2 h3 h4 h7 h8)) | (with_reducible exact call_below hC hw (dried_any _ _ _ _ _ _ a3 a4 h3 h4 h5 h6))))); (simp only [Act.put, List.setIfInBounds_toArray, List.set_cons_succ, List.set_cons_zero]); (with_reducible refine hK _ ?_); clear hK K))))
      refine wpQuiet_nil ?_
      intro w1 hb1
      replace hb1 := (hC.out _).1 hb1
      clear hC C
      obtain ⟨hc1, hf1⟩ := bcell hb1
      go_wp2
      go_roundw
      case rel =>
        refine ⟨k + 1, by omega, by go_num, ?_⟩
        rw [HS.out]
        exact ⟨((r0.past hb1).far (by simp)).far (by simp), by simpa using ((r1.past hb1).set_ 0 _).set_ 1 _, ((r2.past hb1).far (by simp)).far (by simp), ps (ps (pt hr hb1) (by simp)) (by simp)⟩
      case measure => simp [intOf]; omega
    · have hkn : n = k := by omega
      have HN' := Lib.hid (HN.out hkn)
      clear hkn
      go_wp2
      refine bodyPost_ret (v := .tuple #[.agg #[.int .i64 p.1, .int .i64 p.2], .int .i64 0]) (by simp [results, Try.results45, go_sem, c5, c6]) rfl ⟨by rw [HN'.out], ?_⟩
      exact ps (ps hr (by dsimp only; omega)) (by dsimp only; omega)

/-- Whatever is refused: the zero range, and the error. -/
def dryErrV (lo hi fl wlo whi n : Int) : Int := firstV [ovenErrV lo hi fl wlo whi, unlessV (withinB n 0 1000) 2]

set_option maxHeartbeats 1000000 in
theorem dryAfter_err (lo hi fl wlo whi n : Int) (w : World) (he : dryErrV lo hi fl wlo whi n ≠ 0) :
    Calls Try.prog 45 #[.agg #[.int .i64 lo, .int .i64 hi, .int .i64 fl], .agg #[.int .i64 wlo, .int .i64 whi], .int .i64 n] w fun r w' =>
      r = .returned (.tuple #[.agg #[.int .i64 0, .int .i64 0], .int .i64 (dryErrV lo hi fl wlo whi n)]) ∧ Below w.heap.size w w' := by
  have hne : (dryErrV lo hi fl wlo whi n == 0) = false := by simpa using he
  have HD := Lib.hid (show firstV [ovenErrV lo hi fl wlo whi, unlessV (withinB n 0 1000) 2] = dryErrV lo hi fl wlo whi n from rfl)
  clear he
  go_enter Try.func45, Try.ntmps45
  go_wp2_with (first
    | (go_at_call 106; refine (ovenErr_any _ _ _ _ _ _).mono ?_; rintro e w1 ⟨rfl, hb⟩; obtain ⟨hc, hf⟩ := bcell hb; have r2 : Blk w1 (w.heap.size + 1 + 1) 59 #[.int .i64 0, .int .i64 0] := (Blk.newAt (by simp)).past hb; have c5 := r2.cellAt 0 rfl; have c6 := r2.cellAt 1 rfl; have f5 := r2.frozen 0; have f6 := r2.frozen 1; have z2 := r2.lt)
    | (go_at_call 88; refine (within_any _ _ _ _).mono ?_; rintro e w' ⟨rfl, rfl⟩)
    | (go_at_call 87; refine (unless_any _ _ _).mono ?_; rintro e w' ⟨rfl, rfl⟩)
    | (go_at_call 86; refine (first2 _ _ _ _ _ (by go_simp; rfl) (by go_simp; rfl)).mono ?_; rintro e w' ⟨rfl, rfl⟩; rw [HD.out]))
  refine bodyPost_ret (v := .tuple #[.agg #[.int .i64 0, .int .i64 0], .int .i64 (dryErrV lo hi fl wlo whi n)]) (by simp [results, Try.results45, go_sem, c5, c6, z2]) rfl ⟨rfl, ?_⟩
  exact pa (ps (ps (pt (pa (pa (pa pr))) hb) (by dsimp only; omega)) (by dsimp only; omega))

end Go.Proofs.Ytlgioldmjohhlaa
end

section
namespace Go.Proofs.Ytlgioldmjohhlaa
open Go.RowKit

/-- The first place of a number, or -1. -/
def idxFrom (xs : List Int) (x : Int) (k : Nat) : Int :=
  match (xs.drop k).findIdx? (· == x) with
  | some i => ((k + i : Nat) : Int)
  | none => -1

theorem idxFrom_step (xs : List Int) (x : Int) (k : Nat) (h : k < xs.length) : idxFrom xs x k = if xs.getD k 0 = x then (k : Int) else idxFrom xs x (k + 1) := by
  unfold idxFrom
  rw [List.drop_eq_getElem_cons h, List.findIdx?_cons]
  have e : xs.getD k 0 = xs[k] := by simp [List.getD, h]
  rw [e]
  by_cases hx : xs[k] = x
  · simp [hx]
  · simp only [beq_iff_eq, hx, if_false]
    cases (List.drop (k + 1) xs).findIdx? (· == x) with
    | none => rfl
    | some i => simp; omega

theorem idxFrom_end (xs : List Int) (x : Int) (k : Nat) (h : xs.length ≤ k) : idxFrom xs x k = -1 := by
  unfold idxFrom
  rw [List.drop_eq_nil_of_le h]
  rfl

set_option maxHeartbeats 400000 in
theorem index_any (B : Nat) (A : Option Addr) (c : Nat) (xs : List Int) (x : Int) (w : World) (hr : IntsIn B w A xs) (hm : xs.length ≤ 1000) :
    Calls Try.prog 133 #[.slice A xs.length c, .int .i64 x] w fun e w' => e = .returned (.int .i64 (idxFrom xs x 0)) ∧ w = w' := by
  go_enter Try.func133, Try.ntmps133
  go_wp2
  go_loop [8] (fun i => ∃ k : Nat, k ≤ xs.length ∧ i = .int .i64 k ∧ idxFrom xs x 0 = idxFrom xs x k) (fun i => xs.length - (intOf i).toNat)
  case atStart => exact ⟨0, Nat.zero_le _, rfl, rfl⟩
  case round =>
    obtain ⟨k, hk, rfl, hf⟩ := hrel
    by_cases hlt : k < xs.length
    · obtain ⟨b, off, rfl, hb, hc⟩ := hr.at_ hlt
      have hcell := hc k hlt
      have HF := Lib.hid (hf.trans (idxFrom_step xs x k hlt))
      clear hc hf hr
      generalize xs.getD k 0 = y at *
      by_cases hxy : y = x
      · subst hxy
        go_wp2
        go_ret
        exact ⟨ret_int (by rw [HF.out]; simp), rfl⟩
      · have hne : (x == y) = false := by simpa using fun e : x = y => hxy e.symm
        have HN := Lib.hid hxy
        clear hxy
        go_wp2
        go_round
        case rel => exact ⟨k + 1, by omega, by go_num, by rw [HF.out, if_neg HN.out]⟩
        case measure => simp [intOf]; omega
    · have HF := Lib.hid (show idxFrom xs x 0 = -1 by rw [hf]; exact idxFrom_end _ _ _ (by omega))
      clear hf
      go_wp2
      go_ret
      exact ⟨ret_int HF.out.symm, rfl⟩

/-- Whether a slice has a number. -/
def hasB (xs : List Int) (x : Int) : Bool := xs.contains x

theorem idxFrom_has (xs : List Int) (x : Int) : decide (0 ≤ idxFrom xs x 0) = hasB xs x := by
  unfold idxFrom hasB
  simp only [List.drop_zero]
  cases h : xs.findIdx? (· == x) with
  | none =>
    have h2 := List.findIdx?_eq_none_iff.1 h
    have h3 : ¬ x ∈ xs := fun hm => by simpa using h2 x hm
    simp [h3]
  | some i =>
    obtain ⟨h1, h2, _⟩ := List.findIdx?_eq_some_iff_getElem.1 h
    have h3 : x ∈ xs := by
      have : xs[i] = x := by simpa using h2
      exact this ▸ List.getElem_mem h1
    simp [h3]

theorem contains_any (B : Nat) (A : Option Addr) (c : Nat) (xs : List Int) (x : Int) (w : World) (hr : IntsIn B w A xs) (hm : xs.length ≤ 1000) :
    Calls Try.prog 89 #[.slice A xs.length c, .int .i64 x] w fun e w' => e = .returned (.bool (hasB xs x)) ∧ w = w' := by
  have H := Lib.hid (idxFrom_has xs x)
  go_enter Try.func89, Try.ntmps89
  go_wp2_with (go_at_call 133; refine (index_any _ _ _ _ _ _ hr hm).mono ?_; rintro e w' ⟨rfl, rfl⟩)
  go_ret
  exact ⟨ret_bool H.out, rfl⟩

def sizeV (n : Int) : Int := max n (-n)
theorem size_any (n : Int) (w : World) (h : -1000000000000000000 ≤ n) (h2 : n ≤ 1000000000000000000) :
    Calls Try.prog 90 #[.int .i64 n] w fun e w' => e = .returned (.int .i64 (sizeV n)) ∧ w = w' := by
  rcases Int.lt_or_le n 0 with hn | hn
  all_goals
    go_enter Try.func90, Try.ntmps90
    go_wp2
    all_goals
      go_ret
      exact ⟨ret_int (by unfold sizeV; omega), rfl⟩

def stackE (count overlap : Int) : Int := unlessV (withinB count 1 8 && withinB overlap 0 8) 2

theorem stackErr_any (count overlap : Int) (w : World) :
    Calls Try.prog 85 #[.int .i64 count, .int .i64 overlap] w fun e w' => e = .returned (.int .i64 (stackE count overlap)) ∧ w = w' := by
  cases h : withinB count 1 8
  all_goals
    go_enter Try.func85, Try.ntmps85
    go_wp2_with (first
      | (go_at_call 88; refine (within_any _ _ _ _).mono ?_; rintro e w' ⟨rfl, rfl⟩)
      | (go_at_call 87; refine (unless_any _ _ _).mono ?_; rintro e w' ⟨rfl, rfl⟩))
    go_ret
    exact ⟨ret_int (by simp [stackE, h]), rfl⟩

theorem contains_n (n : Nat) (B : Nat) (A : Option Addr) (c : Nat) (xs : List Int) (x : Int) (w : World) (hr : IntsIn B w A xs) (hn : xs.length = n) (hm : n ≤ 1000) :
    Calls Try.prog 89 #[.slice A n c, .int .i64 x] w fun e w' => e = .returned (.bool (hasB xs x)) ∧ w = w' := by
  subst hn
  exact contains_any B A c xs x w hr hm

theorem IntsIn.take {B : Nat} {w : World} {A : Option Addr} {xs : List Int} (h : IntsIn B w A xs) (k : Nat) : IntsIn B w A (xs.take k) := by
  rcases h with h | ⟨b, off, hA, hb, hc⟩
  · exact .inl (by rw [h]; simp)
  · exact .inr ⟨b, off, hA, hb, fun j hj => by
      have hj1 : j < k := by simp at hj; omega
      have hj2 : j < xs.length := by simp at hj; omega
      rw [hc j hj2]
      simp [List.getD, hj1]⟩

/-- The first index from k on (below n) at which f is not 0, with its value; (0, 0) if there is none. -/
def scanF (f : Nat → Int) : Nat → Nat → Nat × Int
  | 0, _ => (0, 0)
  | m + 1, k => if f k = 0 then scanF f m (k + 1) else (k, f k)
def scan (f : Nat → Int) (n k : Nat) : Nat × Int := scanF f (n - k) k
theorem scan_step {f : Nat → Int} {n k : Nat} (h : k < n) : scan f n k = if f k = 0 then scan f n (k + 1) else (k, f k) := by
  unfold scan
  rw [show n - k = (n - (k + 1)) + 1 by omega, scanF]
theorem scan_end {f : Nat → Int} {n k : Nat} (h : n ≤ k) : scan f n k = (0, 0) := by
  unfold scan
  rw [show n - k = 0 by omega, scanF]

def offErr (xs : List Int) (i : Nat) : Int := firstV [unlessV (withinB (xs.getD i 0) 0 (xs.length - 1)) 2, unlessV (!(hasB (xs.take i) (xs.getD i 0))) 23]
def gapErr (xs : List Int) (overlap : Int) (i : Nat) : Int :=
  if (decide (1 < xs.length) && decide (sizeV (xs.getD i 0 - xs.getD ((i + xs.length - 1) % xs.length) 0) < overlap)) = true then 14 else 0
def checkStackV (xs : List Int) (overlap : Int) : Nat × Int :=
  if stackE xs.length overlap ≠ 0 then (0, stackE xs.length overlap)
  else if (scan (offErr xs) xs.length 0).2 ≠ 0 then scan (offErr xs) xs.length 0
  else scan (gapErr xs overlap) xs.length 0

theorem unless_ne {b : Bool} {e : Int} (he : e ≠ 0) : unlessV b e = 0 ↔ b = true := by cases b <;> simp [unlessV, he]
theorem firstV_zero {x : Int} {l : List Int} : firstV (x :: l) = 0 ↔ x = 0 ∧ firstV l = 0 := by
  simp only [firstV]
  by_cases h : x = 0 <;> simp [h]
theorem offErr_in {xs : List Int} {k : Nat} (h : offErr xs k = 0) : 0 ≤ xs.getD k 0 ∧ xs.getD k 0 ≤ xs.length - 1 := by
  have h1 := (unless_ne (by decide)).1 (firstV_zero.1 h).1
  simp only [withinB, Bool.and_eq_true, decide_eq_true_eq] at h1
  exact h1

set_option maxHeartbeats 1000000 in
set_option maxRecDepth 100000 in
theorem checkStack_any (B : Nat) (A : Option Addr) (c : Nat) (xs : List Int) (overlap : Int) (w : World) (hr : IntsIn B w A xs) (hB : B ≤ w.heap.size) (hm : xs.length ≤ 1000) (hcap : xs.length ≤ c) :
    Calls Try.prog 23 #[.slice A xs.length c, .int .i64 overlap] w fun e w' =>
      e = .returned (.tuple #[.int .i64 ((checkStackV xs overlap).1 : Int), .int .i64 (checkStackV xs overlap).2]) ∧ Below w.heap.size w w' := by
  by_cases h0 : stackE xs.length overlap = 0
  · have H0 := Lib.hid h0
    clear h0
    have h00 : stackE xs.length overlap = 0 := H0.out
    go_enter Try.func23, Try.ntmps23
    go_wp2_with (go_at_call 85; refine (stackErr_any _ _ _).mono ?_; rintro e w' ⟨rfl, rfl⟩)
    clear h00
    go_loopw [23] (fun i wr => ∃ k : Nat, k ≤ xs.length ∧ i = .int .i64 k ∧ scan (offErr xs) xs.length 0 = scan (offErr xs) xs.length k ∧ (∀ j, j < k → 0 ≤ xs.getD j 0 ∧ xs.getD j 0 ≤ xs.length - 1) ∧ Below w.heap.size w wr) (fun i _ => xs.length - (intOf i).toNat)
    case atStart => exact ⟨0, Nat.zero_le _, rfl, rfl, fun j hj => by omega, pr⟩
    case round =>
      obtain ⟨k, hk, rfl, hf, hin, hb⟩ := hrel
      by_cases hlt : k < xs.length
      · have hrw := hr.below (hb.mono hB)
        obtain ⟨b, off, rfl, hbB, hc⟩ := hrw.at_ hlt
        have hcell := hc k hlt
        have hbw := Nat.lt_of_lt_of_le hbB (Nat.le_trans hB hb.size)
        have HR := Lib.hid (hrw.more (Nat.le_trans hB hb.size))
        have HF := Lib.hid (hf.trans (scan_step hlt))
        have HI := Lib.hid (show offErr xs k = 0 → ∀ j, j < k + 1 → 0 ≤ xs.getD j 0 ∧ xs.getD j 0 ≤ xs.length - 1 from fun h j hj => by
          rcases Nat.lt_or_ge j k with h' | h'
          · exact hin j h'
          · obtain rfl : j = k := by omega
            exact offErr_in h)
        have HE := Lib.hid (show offErr xs k = firstV [unlessV (withinB (xs.getD k 0) 0 (xs.length - 1)) 2, unlessV (!(hasB (xs.take k) (xs.getD k 0))) 23] from rfl)
        have i0 : (0 : Int) ≤ (k : Int) := by omega
        have i1 : (k : Int) ≤ (c : Int) := by omega
        have hk1000 : k ≤ 1000 := by omega
        have HT := Lib.hid (show (xs.take k).length = k by simp; omega)
        clear hf hc hin hr hrw
        generalize xs.getD k 0 = x at *
        have hw1 : IntKind.i64.wrap ((xs.length : Int) - 1) = (xs.length : Int) - 1 := IntWalk.i64_in _ (by omega)
        go_wp2
        refine region_below 12 follows_mixed (by kernel_rfl) ?_
        intro C hC
        simp only [List.take_succ_cons, List.take_zero, List.drop_succ_cons, List.drop_zero]
        repeat (first
          | ((with_reducible refine quiet_plain rfl (fun K hK => ?_)); (focus (apply quiet_val; (focus (intro w' hw; obtain ⟨hcq, hfq⟩ := bcell ((hC.out _).1 hw); go_simp; (first | done | rfl | (with_reducible exact call_same hw (within_any _ _ _ _)) | (with_reducible exact call_same hw (unless_any _ _ _)) | (with_reducible exact call_same hw (contains_n k _ _ c (xs.take k) _ _ ((HR.out.below ((hC.out _).1 hw)).take k) HT.out hk1000))))); (simp only [Act.put, List.setIfInBounds_toArray, List.set_cons_succ, List.set_cons_zero]); (with_reducible refine hK _ ?_); clear hK K)))
          | ((with_reducible refine quiet_skip ?_ ?_); (focus (simp [Region.wanted, yielded]; done)); simp only [Act.put, List.setIfInBounds_toArray, List.set_cons_succ, List.set_cons_zero])
          | ((with_reducible refine quiet_go ?_ (fun K hK => ?_)); (focus (simp [Region.wanted, yielded]; done)); (focus (apply quiet_val; (focus (intro w' hw; obtain ⟨hcq, hfq⟩ := bcell ((hC.out _).1 hw); go_simp; (first | done | rfl | (with_reducible exact call_same hw (within_any _ _ _ _)) | (with_reducible exact call_same hw (unless_any _ _ _)) | (with_reducible exact call_same hw (contains_n k _ _ c (xs.take k) _ _ ((HR.out.below ((hC.out _).1 hw)).take k) HT.out hk1000))))); (simp only [Act.put, List.setIfInBounds_toArray, List.set_cons_succ, List.set_cons_zero]); (with_reducible refine hK _ ?_); clear hK K))))
        refine wpQuiet_nil ?_
        intro w1 hb1
        replace hb1 := (hC.out _).1 hb1
        clear hC C
        obtain ⟨hc1, hf1⟩ := bcell hb1
        by_cases hz : offErr xs k = 0
        · have HZ := Lib.hid hz
          clear hz
          go_wp2_with (go_at_call 86; refine (first2 _ _ _ _ _ (by go_simp; rfl) (by go_simp; rfl)).mono ?_; rintro e w' ⟨rfl, rfl⟩; rw [← HE.out, HZ.out])
          go_roundw
          case rel =>
            exact ⟨k + 1, by omega, by go_num, by rw [HF.out, if_pos HZ.out], HI.out HZ.out, pa (pt hb hb1)⟩
          case measure => simp [intOf]; omega
        · have hz1 : (offErr xs k == 0) = false := by simpa using hz
          have HZ := Lib.hid hz
          clear hz
          have HV := Lib.hid (show checkStackV xs overlap = (k, offErr xs k) by
            have e : scan (offErr xs) xs.length 0 = (k, offErr xs k) := by rw [HF.out, if_neg HZ.out]
            simp only [checkStackV, e, H0.out]
            rw [if_neg (by simp), if_pos HZ.out])
          go_wp2_with (go_at_call 86; refine (first2 _ _ _ _ _ (by go_simp; rfl) (by go_simp; rfl)).mono ?_; rintro e w' ⟨rfl, rfl⟩; rw [← HE.out])
          go_ret2
          exact ⟨ret_ii (by rw [HV.out]) (by rw [HV.out]), pa (pt hb hb1)⟩
      · have hkn : k = xs.length := by omega
        subst hkn
        have HF := Lib.hid (show scan (offErr xs) xs.length 0 = (0, 0) by rw [hf]; exact scan_end (Nat.le_refl _))
        have HI := Lib.hid hin
        have HR := Lib.hid hr
        clear hf hin hr
        go_wp2
        go_loopw [49] (fun i wr2 => ∃ k : Nat, k ≤ xs.length ∧ i = .int .i64 k ∧ scan (gapErr xs overlap) xs.length 0 = scan (gapErr xs overlap) xs.length k ∧ Below w.heap.size w wr2) (fun i _ => xs.length - (intOf i).toNat)
        case atStart => exact ⟨0, Nat.zero_le _, rfl, rfl, hb⟩
        case round =>
          obtain ⟨k, hk, rfl, hf, hb2⟩ := hrel
          by_cases hlt2 : k < xs.length
          · obtain ⟨b, off, rfl, hbB, hc⟩ := (HR.out.below (hb2.mono hB)).at_ hlt2
            have hcell := hc k hlt2
            have hcell2 := hc ((k + xs.length - 1) % xs.length) (Nat.mod_lt _ (by omega))
            have hb1 := HI.out k hlt2
            have hb3 := HI.out ((k + xs.length - 1) % xs.length) (Nat.mod_lt _ (by omega))
            have HF2 := Lib.hid (hf.trans (scan_step hlt2))
            have HG := Lib.hid (show gapErr xs overlap k = if (decide (1 < xs.length) && decide (sizeV (xs.getD k 0 - xs.getD ((k + xs.length - 1) % xs.length) 0) < overlap)) = true then 14 else 0 from rfl)
            clear hf hc
            generalize xs.getD k 0 = x at *
            generalize xs.getD ((k + xs.length - 1) % xs.length) 0 = y at *
            by_cases h1 : 1 < xs.length
            · have e0 : ((k : Int) + (xs.length : Int) - 1) % (xs.length : Int) = (((k + xs.length - 1) % xs.length : Nat) : Int) := by
                rw [show (k : Int) + (xs.length : Int) - 1 = ((k + xs.length - 1 : Nat) : Int) by omega]
                exact (Int.natCast_emod _ _).symm
              have q0 : (0 : Int) ≤ ((k : Int) + (xs.length : Int) - 1) % (xs.length : Int) := by rw [e0]; exact Int.natCast_nonneg _
              have q1 : ((k : Int) + (xs.length : Int) - 1) % (xs.length : Int) < (xs.length : Int) := by rw [e0]; exact Int.ofNat_lt.2 (Nat.mod_lt _ (by omega))
              have q2 : (((k : Int) + (xs.length : Int) - 1) % (xs.length : Int)).toNat = (k + xs.length - 1) % xs.length := by rw [e0]; exact Int.toNat_natCast _
              clear e0
              go_wp2_with (go_at_call 90; refine (size_any _ _ (by omega) (by omega)).mono ?_; rintro e w' ⟨rfl, rfl⟩)
              · go_ret2
                have hg : gapErr xs overlap k = 14 := by rw [HG.out, if_pos (by simp; omega)]
                have hv : checkStackV xs overlap = (k, 14) := by
                  simp only [checkStackV, H0.out, HF.out, HF2.out, hg]
                  simp
                exact ⟨ret_ii (by rw [hv]) (by rw [hv]), hb2⟩
              · go_roundw
                case rel => exact ⟨k + 1, by omega, by go_num, by rw [HF2.out, if_pos (by rw [HG.out, if_neg (by simp; omega)])], hb2⟩
                case measure => simp [intOf]; omega
            · have h1' : decide (1 < xs.length) = false := by simpa using h1
              have h1'' : decide ((1 : Int) < (xs.length : Int)) = false := by simp; omega
              go_wp2
              go_roundw
              case rel => exact ⟨k + 1, by omega, by go_num, by rw [HF2.out, if_pos (by rw [HG.out, if_neg (by simp; omega)])], hb2⟩
              case measure => simp [intOf]; omega
          · have hv : checkStackV xs overlap = (0, 0) := by
              have e : scan (gapErr xs overlap) xs.length 0 = (0, 0) := by rw [hf]; exact scan_end (by omega)
              simp only [checkStackV, H0.out, HF.out, e]
              simp
            have HV := Lib.hid hv
            clear hv hf
            go_wp2
            go_ret2
            exact ⟨ret_ii (by rw [HV.out]; rfl) (by rw [HV.out]), hb2⟩
  · have h00 : (stackE xs.length overlap == 0) = false := by simpa using h0
    have hv : checkStackV xs overlap = (0, stackE xs.length overlap) := by simp [checkStackV, h0]
    have HV := Lib.hid hv
    clear hv h0
    go_enter Try.func23, Try.ntmps23
    go_wp2_with (go_at_call 85; refine (stackErr_any _ _ _).mono ?_; rintro e w' ⟨rfl, rfl⟩)
    go_ret2
    exact ⟨ret_ii (by rw [HV.out]; rfl) (by rw [HV.out]), pr⟩

end Go.Proofs.Ytlgioldmjohhlaa
end

section
namespace Go.Proofs.Ytlgioldmjohhlaa
open Go.RowKit

/-- A result that is a new row of numbers. -/
def RowRet (w : World) (xs : List Int) (e : Ending) (w' : World) : Prop :=
  ∃ v, e = .returned v ∧ w'.ownsRow w.heap.size 3 1 v xs.length (xs.map (Value.int .i64)) ∧ Below w.heap.size w w'

set_option maxRecDepth 100000 in
set_option maxHeartbeats 400000 in
theorem clone_any (B : Nat) (A : Option Addr) (n c : Nat) (xs : List Int) (w : World) (hr : IntsIn B w A xs) (hn : xs.length = n) (hB : B ≤ w.heap.size) (hm : n ≤ 1000) :
    Calls Try.prog 129 #[.slice A n c] w (RowRet w xs) := by
  obtain ⟨i0, hi0, hz0, hz1, hz2⟩ := info_parts int_info
  have hnil := fun (w : World) (A : Option Addr) => Lib.run_eql_slice_nil (P := Try.prog) w 28 3 A n c 0 0 Try.underlying28
  have HR := Lib.hid hr.cells
  have HN := Lib.hid hn
  clear hr hn
  rcases A with _ | ad
  · have hx : xs = [] := by
      rcases HR.out with h | ⟨_, _, h, _⟩
      · simpa using h
      · cases h
    subst hx
    go_enter Try.func129, Try.ntmps129
    go_wp2
    go_ret
    exact ⟨_, rfl, World.ownsRow_nil _ _ _ _, pr⟩
  · go_enter Try.func129, Try.ntmps129
    have own0 : (w.alloc (.cells #[] 3)).ownsRow w.heap.size 3 1 (.slice (some ⟨w.heap.size, 0, none⟩) 0 0) 0 [] := World.ownsRow_lit w #[] 0 (Nat.le_refl _) (Nat.zero_le _) rfl
    have hcl : CellsIn B (w.alloc (.cells #[] 3)) (some ad) (List.map (Value.int IntKind.i64) xs) := HR.out.below ((pa (Below.refl _ w)).mono hB)
    have hone : ∀ u ∈ List.map (Value.int IntKind.i64) xs, u.oneCell' = true := by simp [Value.oneCell']
    have hlen : (List.map (Value.int IntKind.i64) xs).length = n * 1 := by simp [HN.out]
    have hmx : 0 + n ≤ maxLen := by simp only [maxLen]; omega
    have HO := Lib.hid own0
    have HC := Lib.hid hcl
    have H1 := Lib.hid hone
    have HL := Lib.hid hlen
    have HM := Lib.hid hmx
    clear own0 hcl hone hlen hmx
    go_wp2_with (at_builtin; go_must (refine wpList_append_cells _ rfl (.tmp 5) (.tmp 6) _ rfl w.heap.size 3 i0 _ 1 8 Try.underlying28 hi0 hz0 hz1 hz2 rfl (by omega) (.slice (some ⟨w.heap.size, 0, none⟩) 0 0) 0 [] rfl HO.out B (some ad) n c _ rfl HC.out HL.out H1.out HM.out (by omega) (by simp) ?_); intro v1 w1 hown1 hg1 hat1)
    go_ret
    refine ⟨v1, rfl, ?_, pg (pa pr) HO.out (Nat.le_refl _) hg1⟩
    rw [HN.out]
    simpa using hown1

end Go.Proofs.Ytlgioldmjohhlaa
end

section
namespace Go.Proofs.Ytlgioldmjohhlaa
open Go.RowKit Go.Shelf
variable {P : Program}

/-- The iterator's word: J holds between two rounds, what has come being pre; Pr of what a round is handed, in the world in which the round begins; Kp of a round that goes on (the world in which the loop began first). -/
def SeqP {α : Type} (n : Nat) (P : Program) (g : Nat) (fb lb : Array Value) (encs : α → Array Value) (Pr : α → World → Prop) (Kp : World → World → World → Prop) (S Sp : List α → Prop) (N : Nat) (w : World) : Prop :=
  ∀ (l : Nat) (J Jx : List α → World → Prop) (W : World), Below w.heap.size w W → AbidesFrom W.heap.size J → AbidesFrom W.heap.size Jx →
    (∀ pre x W1, J pre W1 → Pr x W1 → pre.length < N → YieldAt Fence.wide (n - 1) P l (encs x) W1 fun e W' =>
      (e = .returned (.bool true) ∧ J (pre ++ [x]) W' ∧ Kp W W1 W') ∨ (e = .returned (.bool false) ∧ Jx (pre ++ [x]) W')) →
    J [] W →
    CallsIn Fence.wide n P g (fb ++ #[.func (.yield l) #[] #[]] ++ lb) W fun e W' => (∃ v, e = .returned v) ∧ ((∃ xs, S xs ∧ J xs W') ∨ (∃ pre, Sp pre ∧ Jx pre W'))

theorem rangeFunc_law {α : Type} {g : Operand} {ps : Array Tmp} {assign body : Code} {Q : Exit → Act → World → Prop} {a : Act} {w : World} {n : Nat}
    (h1 : 1 ≤ n) {gf : Nat} {fb lb : Array Value} (hg : a.eval g = .func (.func gf) fb lb) (eg : ∀ args w, (callFunc gf args).run P w = .ok (.enter gf args) w)
    {encs : α → Array Value} {Pr : α → World → Prop} {Kp : World → World → World → Prop} {S Sp : List α → Prop} {N : Nat} {w0 : World} (hseq : SeqP (n - 1) P gf fb lb encs Pr Kp S Sp N w0) (hb0 : Below w0.heap.size w0 w)
    (hKt : ∀ {W A B C : World}, Kp W A B → Kp W B C → Kp W A C) (hKr : ∀ (W A : World) (l : Nat) (o o' : Obj), w.heap.size ≤ l → l < W.heap.size → A.heap[l]? = some o → o.isCells = false → Kp W A (A.putObj l o'))
    (hPr : ∀ x (A : World) (l : Nat) (o o' : Obj), A.heap[l]? = some o → o.isCells = false → Pr x A → Pr x (A.putObj l o')) (hps : ∀ x, (encs x).size = ps.size)
    (I : List α → World → Prop) (Ix : Code → List α → World → Prop) (hI : OwnFrom w.heap.size I) (hIx : ∀ c, OwnFrom w.heap.size (Ix c)) (h0 : I [] w) (a₁ : α → Act)
    (hassign : ∀ (l : Nat) (x : α) (W : World) (K : Act → World → Prop), K (a₁ x) W →
      assign.wpIn (Fence.wide.inRound l) (n - 1 - 1) P (Exit.then K (fun _ _ _ => False)) { tmps := (ps.zip (encs x)).foldl (fun t (p, v) => t.setIfInBounds p v) a.tmps, defers := [] } W)
    (hbody : ∀ (l : Nat) (pre : List α) (x : α) (Wb W : World), Wb.heap.size = w.heap.size + 1 + 1 → I pre W → Pr x W → pre.length < N → body.wpIn (Fence.wide.inRound l) (n - 1 - 1) P (ownPostG w.heap.size (Kp Wb) I Ix (pre ++ [x]) W) (a₁ x) W)
    (hdone : ∀ (D : Nat) (xs : List α) (W : World), w.heap.size ≤ D → S xs → I xs W → W.heap[D]? = some (.deferred (some [])) → Q .normal { a with defers := { target := .collected D, args := #[] } :: a.defers } W)
    (hstop : ∀ (D : Nat) (c : Code) (pre : List α) (W : World), w.heap.size ≤ D → Sp pre → Ix c pre W → W.heap[D]? = some (.deferred (some [])) → c.wpIn Fence.wide n P Q { a with defers := { target := .collected D, args := #[] } :: a.defers } W) :
    (Code.rangeFunc g ps assign body).wpIn Fence.wide n P Q a w := by
  refine wpIn_rangeFunc ?_
  intro fn hfn
  rw [show Fence.wide.round = none from rfl]
  obtain ⟨rec, hrec⟩ : ∃ rec : LoopState → Option Code → Loop, rec = fun st pe => { state := st, pending := pe, fn, tmps := a.tmps, params := ps, assign, body, defers := w.heap.size } := ⟨_, rfl⟩
  obtain ⟨W1, hW1⟩ : ∃ W1, (w.alloc (.deferred (some []))).alloc (.loop (rec .ready none)) = W1 := ⟨_, rfl⟩
  have hS1 : W1.heap.size = w.heap.size + 1 + 1 := by rw [← hW1]; simp
  have hL1 : W1.heap[w.heap.size + 1]? = some (.loop (rec .ready none)) := by
    rw [← hW1]; have := World.alloc_heap_new (w.alloc (.deferred (some []))) (.loop (rec .ready none)); rwa [World.size_alloc] at this
  have hK1 : W1.heap[w.heap.size]? = some (.deferred (some [])) := by
    rw [← hW1]; exact (Below.heap_alloc _ _ _ (by simp)).trans (World.alloc_heap_new w _)
  have hI1 : I [] W1 := by rw [← hW1]; exact hI.alloc _ (hI.alloc _ h0)
  have hb1 : Below w0.heap.size w0 W1 := by
    rw [← hW1]; exact hb0.trans ((((Below.refl _ w).alloc (Nat.le_refl _) _).alloc (by simp) _).mono hb0.size)
  refine ⟨w.heap.size + 1, [{ target := .collected w.heap.size, args := #[] }], W1, { target := .fn (.func gf) lb, args := fb ++ #[.func (.yield (w.heap.size + 1)) #[] #[]] }, W1, gf,
    fb ++ #[.func (.yield (w.heap.size + 1)) #[] #[]] ++ lb, W1, ?_, ?_, ?_, ?_, fun _ => h1, ?_⟩
  · rw [← hW1, hrec]; exact run_enterLoop_outer _ _ _ _ _
  · simp only [resolve, hg]
    simp [go_sem]
  · intro f' hf'; trivial
  · simp [invoke, go_sem, eg]
  · have hnw : ∀ {A : World} {row : Option Nat}, (∀ r, row = some r → W1.heap.size ≤ r ∧ ∃ o : Obj, A.heap[r]? = some o ∧ o.isWalk = true) → (∀ r, row = some r → w.heap.size ≤ r ∧ ∃ o : Obj, A.heap[r]? = some o ∧ o.isCells = false) :=
      fun hr r e => by obtain ⟨hB, o, ho, hw⟩ := hr r e; exact ⟨by omega, o, ho, Obj.not_cells_of_walk hw⟩
    refine (hseq (w.heap.size + 1)
      (fun pre W => I pre W ∧ W.heap[w.heap.size + 1]? = some (.loop (rec .ready none)) ∧ W.heap[w.heap.size]? = some (.deferred (some [])))
      (fun pre W => ∃ c, Ix c pre W ∧ W.heap[w.heap.size + 1]? = some (.loop (rec .done (some c))) ∧ W.heap[w.heap.size]? = some (.deferred (some [])))
      W1 hb1
      (fun s A B row hs hg' hr => ⟨hI s A B row hs.1 hg' (hnw hr), (grownBy_keeps hg' (fun r e => (hr r e).2) hs.2.1 rfl).trans hs.2.1, (grownBy_keeps hg' (fun r e => (hr r e).2) hs.2.2 rfl).trans hs.2.2⟩)
      (fun s A B row hs hg' hr => by
        obtain ⟨c, hc, hl, hk⟩ := hs
        exact ⟨c, hIx c s A B row hc hg' (hnw hr), (grownBy_keeps hg' (fun r e => (hr r e).2) hl rfl).trans hl, (grownBy_keeps hg' (fun r e => (hr r e).2) hk rfl).trans hk⟩)
      ?_ ⟨hI1, hL1, hK1⟩).mono ?_
    · rintro pre x W ⟨hi, hl, hk⟩ hpr hlen
      have hlt : w.heap.size + 1 < W.heap.size := (Array.getElem?_eq_some_iff.1 hl).1
      have hy := run_yield (P := P) (args := encs x) hl (by rw [hrec]; exact hps x)
      rw [hrec] at hy
      refine ⟨fn, _, assign, body, hy, roundIn_of_wpIn hfn (hassign _ x W _ ?_)⟩
      clear hy
      refine ⟨_, run_beginRound hl (by rw [hrec]), ?_⟩
      have hl2 : (W.putObj (w.heap.size + 1) (.loop { rec .ready none with state := .busy })).heap[w.heap.size + 1]? = some (.loop { rec .ready none with state := .busy }) := World.putObj_heap_same hlt
      have hk2 : (W.putObj (w.heap.size + 1) (.loop { rec .ready none with state := .busy })).heap[w.heap.size]? = some (.deferred (some [])) := (World.putObj_heap_other (by omega)).trans hk
      have hw2 : Kp W1 W (W.putObj (w.heap.size + 1) (.loop { rec .ready none with state := .busy })) := hKr _ _ _ _ _ (by omega) (by omega) hl rfl
      refine wpIn_mono (hbody _ pre x W1 _ hS1 (hI.putObj _ hi (by omega) hl rfl) (hPr _ _ _ _ _ hl rfl hpr) hlen) ?_
      have fin : ∀ (jump : Option Code) (W3 : World), KeepsFrom w.heap.size (W.putObj (w.heap.size + 1) (.loop { rec .ready none with state := .busy })) W3 →
          (Instr.endRound (w.heap.size + 1) jump).run P W3 = .ok (.bool jump.isNone) (W3.putObj (w.heap.size + 1) (.loop (rec (if jump.isNone then .ready else .done) jump))) ∧
          W3.heap[w.heap.size + 1]? = some (.loop { rec .ready none with state := .busy }) ∧
          (W3.putObj (w.heap.size + 1) (.loop (rec (if jump.isNone then .ready else .done) jump))).heap[w.heap.size + 1]? = some (.loop (rec (if jump.isNone then .ready else .done) jump)) ∧
          (W3.putObj (w.heap.size + 1) (.loop (rec (if jump.isNone then .ready else .done) jump))).heap[w.heap.size]? = some (.deferred (some [])) := fun jump W3 hk3 => by
        have hl3 := hk3.same _ _ (by omega) hl2 rfl
        have := run_endRound (P := P) jump hl3
        rw [hrec] at this ⊢
        exact ⟨this, by rw [hrec] at hl3; exact hl3, World.putObj_heap_same (Array.getElem?_eq_some_iff.1 hl3).1, (World.putObj_heap_other (by omega)).trans (hk3.same _ _ (Nat.le_refl _) hk2 rfl)⟩
      rintro e a3 W3 hp
      cases e with
      | normal =>
        obtain ⟨hk3, hkp3, hi3⟩ := hp
        obtain ⟨hr, hl3, hl4, hk4⟩ := fin none W3 hk3
        exact ⟨_, _, hr, .inl ⟨rfl, ⟨hI.putObj _ hi3 (by omega) hl3 rfl, hl4, hk4⟩, hKt (hKt hw2 hkp3) (hKr _ _ _ _ _ (by omega) (by omega) hl3 rfl)⟩⟩
      | ret =>
        obtain ⟨hk3, hi3⟩ := hp
        obtain ⟨hr, hl3, hl4, hk4⟩ := fin (some .ret) W3 hk3
        exact ⟨_, _, hr, .inr ⟨rfl, .ret, (hIx _).putObj _ hi3 (by omega) hl3 rfl, hl4, hk4⟩⟩
      | exit id =>
        obtain ⟨hk3, hi3⟩ := hp
        obtain ⟨hr, hl3, hl4, hk4⟩ := fin (some (.exit id)) W3 hk3
        exact ⟨_, _, hr, .inr ⟨rfl, .exit id, (hIx _).putObj _ hi3 (by omega) hl3 rfl, hl4, hk4⟩⟩
      | goto t =>
        obtain ⟨hk3, hi3⟩ := hp
        obtain ⟨hr, hl3, hl4, hk4⟩ := fin (some (.goto t)) W3 hk3
        exact ⟨_, _, hr, .inr ⟨rfl, .goto t, (hIx _).putObj _ hi3 (by omega) hl3 rfl, hl4, hk4⟩⟩
      | panic ch => exact hp.elim
      | outgrown => exact hp.elim
    · rintro e W2 ⟨⟨v, rfl⟩, (⟨xs, hS, hi, hl, hk⟩ | ⟨pre, hSp, c, hi, hl, hk⟩)⟩
      · exact ⟨none, _, by have := run_endLoop (P := P) hl (by rw [hrec]; simp); rw [hrec] at this; exact this, hdone _ xs _ (Nat.le_refl _) hS (hI.putObj _ hi (by omega) hl rfl) ((World.putObj_heap_other (by omega)).trans hk)⟩
      · exact ⟨some c, _, by have := run_endLoop (P := P) hl (by rw [hrec]; simp); rw [hrec] at this; exact this, hstop _ c pre _ (Nat.le_refl _) hSp ((hIx c).putObj _ hi (by omega) hl rfl) ((World.putObj_heap_other (by omega)).trans hk)⟩

end Go.Proofs.Ytlgioldmjohhlaa
end

section
namespace Go.Proofs.Ytlgioldmjohhlaa
open Go.RowKit Go.Shelf
attribute [local go_sem] Oper.semAt_some undef

theorem roundIn_any {m m' : Nat} {P : Program} {l : Nat} {f : FuncId} {tmps : Array Value} {assign body : Code} {w : World} {R : Ending → World → Prop}
    (h : RoundIn Fence.wide m P l f tmps assign body w R) : RoundIn Fence.wide m' P l f tmps assign body w R := ⟨h.1, fun c cs _ => h.2 c cs (room_wide _)⟩

/-- From block B on, what was there is as it was. -/
structure Above (B : Nat) (w w' : World) : Prop where
  size : w.heap.size ≤ w'.heap.size
  block : ∀ k, B ≤ k → k < w.heap.size → w'.heap[k]? = w.heap[k]?
theorem Above.refl (B : Nat) (w : World) : Above B w w := ⟨Nat.le_refl _, fun _ _ _ => rfl⟩
theorem Above.trans {B : Nat} {a b c : World} (h : Above B a b) (k : Above B b c) : Above B a c :=
  ⟨Nat.le_trans h.size k.size, fun i hi h2 => (k.block i hi (Nat.lt_of_lt_of_le h2 h.size)).trans (h.block i hi h2)⟩
theorem Above.of_below {B : Nat} {a b : World} (h : Below a.heap.size a b) : Above B a b := ⟨h.size, fun k _ hk => h.block k hk⟩

/-- A slice at A reads as xs; its cells lie in blocks from B on. -/
def IntsAb (B : Nat) (w : World) (A : Option Addr) (xs : List Int) : Prop :=
  xs = [] ∨ ∃ b off, A = some ⟨b, off, none⟩ ∧ B ≤ b ∧ b < w.heap.size ∧ ∀ j, j < xs.length → w.cell? ⟨b, off + j, none⟩ = some (.int .i64 (xs.getD j 0))
theorem IntsAb.ints {B : Nat} {w : World} {A : Option Addr} {xs : List Int} (h : IntsAb B w A xs) : IntsIn w.heap.size w A xs := by
  rcases h with h | ⟨b, off, hA, _, hb, hc⟩
  · exact .inl h
  · exact .inr ⟨b, off, hA, hb, hc⟩
theorem IntsAb.above {B : Nat} {w w' : World} {A : Option Addr} {xs : List Int} (h : IntsAb B w A xs) (hk : Above B w w') : IntsAb B w' A xs := by
  rcases h with h | ⟨b, off, hA, hB, hb, hc⟩
  · exact .inl h
  · exact .inr ⟨b, off, hA, hB, Nat.lt_of_lt_of_le hb hk.size, fun j hj => (World.cell?_of_block (w := w) (hk.block b hB hb)).trans (hc j hj)⟩
theorem intsAb_of_own {w : World} {base : Nat} {e : TypeId} {n c : Nat} {A : Option Addr} {xs : List Int} (h : w.ownsRow base e 1 (.slice A n c) n (xs.map (Value.int .i64))) : IntsAb base w A xs := by
  rcases intsIn_of_own h with h1 | ⟨b, off, hA, hb, hc⟩
  · exact .inl h1
  · exact .inr ⟨b, off, hA, by have := h.lt b (by rw [hA]; rfl); exact this.1, hb, hc⟩

/-- The number that stands last is nearer to i than the overlap. -/
def nearB (xs : List Int) (overlap i : Int) : Bool := decide (0 < xs.length) && decide (sizeV (i - xs.getD (xs.length - 1) 0) < overlap)

/-- All stacks that overlap and begin with xs; d more offsets are wanted. -/
def stacksV (count : Nat) (overlap : Int) : Nat → List Int → List (List Int)
  | 0, xs => if (checkStackV xs overlap).2 = 0 then [xs] else []
  | d + 1, xs => (List.range count).flatMap fun (i : Nat) => if hasB xs (i : Int) || nearB xs overlap (i : Int) then [] else stacksV count overlap d (xs ++ [(i : Int)])

def stacksUpto (count : Nat) (overlap : Int) (d : Nat) (xs : List Int) (k : Nat) : List (List Int) :=
  (List.range k).flatMap fun (i : Nat) => if hasB xs (i : Int) || nearB xs overlap (i : Int) then [] else stacksV count overlap d (xs ++ [(i : Int)])
theorem stacksUpto_succ (count : Nat) (overlap : Int) (d : Nat) (xs : List Int) (k : Nat) :
    stacksUpto count overlap d xs (k + 1) = stacksUpto count overlap d xs k ++ (if hasB xs (k : Int) || nearB xs overlap k then [] else stacksV count overlap d (xs ++ [(k : Int)])) := by
  unfold stacksUpto
  rw [List.range_succ, List.flatMap_append]
  simp

theorem stacksUpto_prefix (count : Nat) (overlap : Int) (d : Nat) (xs : List Int) : ∀ {k m : Nat}, k ≤ m → stacksUpto count overlap d xs k <+: stacksUpto count overlap d xs m
  | k, 0, h => by obtain rfl : k = 0 := by omega
                  exact List.prefix_refl _
  | k, m + 1, h => by
    rcases Nat.lt_or_ge k (m + 1) with h' | h'
    · exact (stacksUpto_prefix count overlap d xs (k := k) (m := m) (by omega)).trans (by rw [stacksUpto_succ]; exact List.prefix_append _ _)
    · obtain rfl : k = m + 1 := by omega
      exact List.prefix_refl _

/-- What a round is handed: where the slice lies, its capacity, its numbers. -/
abbrev Stk := (Option Addr × Nat) × List Int

/-- What the iterator comes to: all have come, or a part of them, a round having said no more. -/
def ExtPost (B0 : Nat) (J Jx : List Stk → World → Prop) (pre : List Stk) (l : List (List Int)) (W : World) (e : Ending) (W' : World) : Prop :=
  (e = .returned (.bool true) ∧ (∃ q : List Stk, q.map (·.2) = l ∧ J (pre ++ q) W') ∧ Above B0 W W') ∨
  (e = .returned (.bool false) ∧ ∃ q : List Stk, q ≠ [] ∧ q.map (·.2) <+: l ∧ Jx (pre ++ q) W')

theorem IntsAb.mono {B B' : Nat} {w : World} {A : Option Addr} {xs : List Int} (h : IntsAb B w A xs) (hB : B' ≤ B) : IntsAb B' w A xs := by
  rcases h with h | ⟨b, off, hA, hb, r⟩
  · exact .inl h
  · exact .inr ⟨b, off, hA, by omega, r⟩
theorem ext_count {pre q : List Stk} {U U' V F : List (List Int)} {N : Nat} (hq : q.map (·.2) = U) (hG : U' = U ++ V) (hp : U' <+: F) (hN : pre.length + F.length ≤ N) : (pre ++ q).length + V.length ≤ N := by
  have h1 : q.length = U.length := by rw [← hq]; simp
  have h2 := hp.length_le
  rw [hG] at h2
  simp only [List.length_append] at h2 ⊢
  omega
theorem ext_prefix {q q2 : List Stk} {U U' V F : List (List Int)} (hq : q.map (·.2) = U) (hG : U' = U ++ V) (hp : U' <+: F) (h2 : q2.map (·.2) <+: V) : (q ++ q2).map (·.2) <+: F := by
  rw [List.map_append, hq]
  refine List.IsPrefix.trans ?_ hp
  rw [hG]
  exact (List.prefix_append_right_inj _).2 h2
theorem getD_snoc {xs : List Int} {y : Int} (h0 : 0 ≤ y) (h8 : y ≤ 8) (h : ∀ j, j < xs.length → 0 ≤ xs.getD j 0 ∧ xs.getD j 0 ≤ 8) : ∀ j, j < (xs ++ [y]).length → 0 ≤ (xs ++ [y]).getD j 0 ∧ (xs ++ [y]).getD j 0 ≤ 8 := by
  intro j hj
  rcases Nat.lt_or_ge j xs.length with h' | h'
  · have := h j h'
    simpa [List.getD, List.getElem?_append_left h'] using this
  · have e : j = xs.length := by simp at hj; omega
    subst e
    simp [List.getD]
    omega

set_option maxRecDepth 100000 in
set_option maxHeartbeats 2000000 in
theorem extended_any (count : Nat) (overlap : Int) (hcount : count ≤ 8) (l B0 N m : Nat) (J Jx : List Stk → World → Prop) (hJ : AbidesFrom B0 J)
    (hY : ∀ pre (x : Stk) W, J pre W → B0 ≤ W.heap.size → IntsAb B0 W x.1.1 x.2 ∧ x.2.length = count ∧ count ≤ x.1.2 → pre.length < N →
      YieldAt Fence.wide m Try.prog l #[.slice x.1.1 count x.1.2] W fun e W' => (e = .returned (.bool true) ∧ J (pre ++ [x]) W' ∧ Above B0 W W') ∨ (e = .returned (.bool false) ∧ Jx (pre ++ [x]) W')) :
    ∀ (d : Nat) (xs : List Int) (A : Option Addr) (n c k : Nat) (pre : List Stk) (W : World), xs.length = n → n + d = count → n ≤ c → J pre W → B0 ≤ W.heap.size → IntsAb B0 W A xs → pre.length + (stacksV count overlap d xs).length ≤ N → (∀ j, j < xs.length → 0 ≤ xs.getD j 0 ∧ xs.getD j 0 ≤ 8) →
      CallsIn Fence.wide k Try.prog 135 #[.slice A n c, .int .i64 (count : Int), .int .i64 overlap, .func (.yield l) #[] #[]] W (ExtPost B0 J Jx pre (stacksV count overlap d xs) W) := by
  intro d
  induction d with
  | zero =>
    intro xs A n c k pre W hn hd hc hj hB hr hN hb
    obtain rfl : n = count := by omega
    subst hn
    have hck := checkStack_any W.heap.size A c xs overlap W hr.ints (Nat.le_refl _) (by omega) hc
    by_cases h0 : (checkStackV xs overlap).2 = 0
    · have hs : stacksV xs.length overlap 0 xs = [xs] := by simp [stacksV, h0]
      have HS := Lib.hid hs
      have HR := Lib.hid hr
      have hlt : pre.length < N := by rw [hs] at hN; simp at hN; omega
      clear hs hN hb hr
      have HY := Lib.hid hY
      clear hY
      refine callsIn_of_wp Try.func135 rfl trivial ?_ rfl
      simp only [undef, Try.ntmps135, List.size_toArray, List.length_cons, List.length_nil, Nat.reduceAdd, Nat.reduceSub, Array.replicate_succ, Array.replicate_zero, List.push_toArray, List.append_toArray, List.nil_append, List.cons_append]
      gi_wp2_with (refine ⟨trivial, (fun h => nomatch h), ?_⟩; gi_at_call 23; refine (callsIn_wide.2 hck).mono ?_; rintro e w1 ⟨rfl, hb⟩; have hj1 := hJ pre W w1 none hj ⟨hb.os, hb.tape, hb.output, hb.size, fun i hi _ => hb.block i hi⟩ (fun r e => by cases e); obtain ⟨fn, tmps, assign, body, hy, hR⟩ := HY.out pre ((A, c), xs) w1 hj1 (Nat.le_trans hB hb.size) ⟨HR.out.above (Above.of_below hb), rfl, hc⟩ hlt; dsimp only at hy)
      refine ⟨(fun h => nomatch h), (roundIn_any hR).mono ?_⟩
      rintro e W3 (⟨rfl, hJ3, hk3⟩ | ⟨rfl, hJx3⟩)
      · gi_wp2
        go_ret
        exact .inl ⟨rfl, ⟨[((A, c), xs)], by rw [HS.out]; rfl, hJ3⟩, (Above.of_below hb).trans hk3⟩
      · gi_wp2
        go_ret
        exact .inr ⟨rfl, [((A, c), xs)], by simp, by rw [HS.out]; exact ⟨[], by simp⟩, hJx3⟩
    · have h00 : ((checkStackV xs overlap).2 == 0) = false := by simpa using h0
      have hpost : ∀ W', Below W.heap.size W W' → ExtPost B0 J Jx pre (stacksV xs.length overlap 0 xs) W (.returned (.bool true)) W' := fun W' hw =>
        .inl ⟨rfl, ⟨[], by simp [stacksV, h0], by simpa using hJ pre W W' none hj ⟨hw.os, hw.tape, hw.output, hw.size, fun i hi _ => hw.block i hi⟩ (fun r e => by cases e)⟩, Above.of_below hw⟩
      have HP := Lib.hid hpost
      clear hpost h0 hj hN hr hb
      refine callsIn_of_wp Try.func135 rfl trivial ?_ rfl
      simp only [undef, Try.ntmps135, List.size_toArray, List.length_cons, List.length_nil, Nat.reduceAdd, Nat.reduceSub, Array.replicate_succ, Array.replicate_zero, List.push_toArray, List.append_toArray, List.nil_append, List.cons_append]
      gi_wp2_with (refine ⟨trivial, (fun h => nomatch h), ?_⟩; gi_at_call 23; refine (callsIn_wide.2 hck).mono ?_; rintro e w1 ⟨rfl, hb⟩)
      go_ret
      exact HP.out _ hb
  | succ d ih =>
    intro xs A n c k pre W hn hd hc hj hB hr hN hb
    obtain ⟨i0, hi0, hz0, hz1, hz2⟩ := info_parts int_info
    have hne : ((n : Int) == (count : Int)) = false := by
      have : ¬ (n : Int) = (count : Int) := by omega
      simpa using this
    have hfull : stacksV count overlap (d + 1) xs = stacksUpto count overlap d xs count := rfl
    have HFull := Lib.hid hfull
    have HN := Lib.hid hN
    have HR := Lib.hid hr
    have HB := Lib.hid hb
    have HJ := Lib.hid hJ
    have IH := Lib.hid ih
    have HX := Lib.hid hn
    have HD := Lib.hid hd
    have hn8 : n < count := by omega
    clear hfull hN hr hb ih hY hn hd
    refine callsIn_of_wp Try.func135 rfl trivial ?_ rfl
    simp only [undef, Try.ntmps135, List.size_toArray, List.length_cons, List.length_nil, Nat.reduceAdd, Nat.reduceSub, Array.replicate_succ, Array.replicate_zero, List.push_toArray, List.append_toArray, List.nil_append, List.cons_append]
    gi_wp2
    gi_loopw [28] (fun i wr => ∃ (j : Nat) (q : List Stk), j ≤ count ∧ i = .int .i64 (j : Int) ∧ q.map (·.2) = stacksUpto count overlap d xs j ∧ J (pre ++ q) wr ∧ Above B0 W wr) (fun i _ => count - (intOf i).toNat)
    case atStart => exact ⟨0, [], Nat.zero_le _, rfl, rfl, by simpa using hj, Above.refl _ _⟩
    case round =>
      obtain ⟨j, q, hjc, rfl, hq, hjq, hab⟩ := hrel
      clear hj
      have hB2 := Nat.le_trans hB hab.size
      have HR2 := Lib.hid (HR.out.above hab)
      have HQ := Lib.hid hq
      clear hq
      by_cases hlt : j < count
      · have HG := Lib.hid (stacksUpto_succ count overlap d xs j)
        have hcase : hasB xs (j : Int) = true ∨ (hasB xs (j : Int) = false ∧ 0 < n ∧ sizeV ((j : Int) - xs.getD (n - 1) 0) < overlap) ∨ (hasB xs (j : Int) = false ∧ 0 < n ∧ ¬ sizeV ((j : Int) - xs.getD (n - 1) 0) < overlap) ∨ (hasB xs (j : Int) = false ∧ n = 0) := by
          cases hasB xs (j : Int)
          · by_cases h1 : 0 < n
            · by_cases h2 : sizeV ((j : Int) - xs.getD (n - 1) 0) < overlap
              · exact .inr (.inl ⟨rfl, h1, h2⟩)
              · exact .inr (.inr (.inl ⟨rfl, h1, h2⟩))
            · exact .inr (.inr (.inr ⟨rfl, by omega⟩))
          · exact .inl rfl
        have hcont := contains_n n wr.heap.size A c xs (j : Int) wr HR2.out.ints HX.out (by omega)
        rcases hcase with hh | ⟨hh, h1, h2⟩ | ⟨hh, h1, h2⟩ | ⟨hh, h1⟩
        · have HG2 := Lib.hid (show stacksUpto count overlap d xs (j + 1) = stacksUpto count overlap d xs j by rw [HG.out, hh]; simp)
          gi_wp2_with (first | (refine ⟨trivial, (fun h => nomatch h), ?_⟩; gi_at_call 89; refine (callsIn_wide.2 hcont).mono ?_; rintro e w1 ⟨rfl, rfl⟩) | (refine ⟨(trivial : Fence.wide.fn 90), ?_⟩; fail_if_success (refine ⟨(fun h => nomatch h), ?_⟩)))
          go_roundw
          case rel => exact ⟨j + 1, q, by omega, by go_num, by rw [HG2.out]; exact HQ.out, hjq, hab⟩
          case measure => simp [intOf]; omega
        · have hnear : nearB xs overlap (j : Int) = true := by simp only [nearB, HX.out]; simp; exact ⟨h1, h2⟩
          have HG2 := Lib.hid (show stacksUpto count overlap d xs (j + 1) = stacksUpto count overlap d xs j by rw [HG.out, hnear]; simp)
          clear hnear
          rcases HR2.out with hx | ⟨b, off, hA, hb1, hb2, hcell⟩
          · exfalso; have := HX.out; rw [hx] at this; simp at this; omega
          · subst hA
            have hc1 := hcell (n - 1) (by rw [HX.out]; omega)
            have hbd := HB.out (n - 1) (by rw [HX.out]; omega)
            have q0 : (0 : Int) ≤ (n : Int) - 1 := by omega
            have q1 : (1 : Int) ≤ (n : Int) := by omega
            have q2 : ((n : Int) - 1).toNat = n - 1 := by omega
            have q3 : (n : Int) ≤ 8 := by omega
            have q4 : (0 : Int) < (n : Int) := by omega
            clear hcell
            generalize xs.getD (n - 1) 0 = y at *
            gi_wp2_with (first | (refine ⟨trivial, (fun h => nomatch h), ?_⟩; gi_at_call 89; refine (callsIn_wide.2 hcont).mono ?_; rintro e w1 ⟨rfl, rfl⟩) | (refine ⟨trivial, (fun h => nomatch h), ?_⟩; gi_at_call 90; refine (callsIn_wide.2 (size_any _ _ (by omega) (by omega))).mono ?_; rintro e w1 ⟨rfl, rfl⟩))
            go_roundw
            case rel => exact ⟨j + 1, q, by omega, by go_num, by rw [HG2.out]; exact HQ.out, hjq, hab⟩
            case measure => simp [intOf]; omega
        · have hnear : nearB xs overlap (j : Int) = false := by simp only [nearB, HX.out, decide_eq_false h2, Bool.and_false]
          have hclone := clone_any wr.heap.size A n c xs wr HR2.out.ints HX.out (Nat.le_refl _) (by omega)
          rcases HR2.out with hx | ⟨b, off, hA, hb1, hb2, hcell⟩
          · exfalso; have := HX.out; rw [hx] at this; simp at this; omega
          · subst hA
            have hc1 := hcell (n - 1) (by rw [HX.out]; omega)
            have hbd := HB.out (n - 1) (by rw [HX.out]; omega)
            have q0 : (0 : Int) ≤ (n : Int) - 1 := by omega
            have q1 : (1 : Int) ≤ (n : Int) := by omega
            have q2 : ((n : Int) - 1).toNat = n - 1 := by omega
            have q3 : (n : Int) ≤ 8 := by omega
            have q4 : (0 : Int) < (n : Int) := by omega
            clear hcell
            have HG2 := Lib.hid (show stacksUpto count overlap d xs (j + 1) = stacksUpto count overlap d xs j ++ stacksV count overlap d (xs ++ [(j : Int)]) by rw [HG.out, hh, hnear]; rfl)
            clear hnear
            generalize xs.getD (n - 1) 0 = y at *
            gi_wp2_with (first | (refine ⟨trivial, (fun h => nomatch h), ?_⟩; gi_at_call 89; refine (callsIn_wide.2 hcont).mono ?_; rintro e w1 ⟨rfl, rfl⟩) | (refine ⟨trivial, (fun h => nomatch h), ?_⟩; gi_at_call 90; refine (callsIn_wide.2 (size_any _ _ (by omega) (by omega))).mono ?_; rintro e w1 ⟨rfl, rfl⟩) | (refine ⟨(trivial : Fence.wide.fn 90), ?_⟩; fail_if_success (refine ⟨(fun h => nomatch h), ?_⟩)) | (refine ⟨trivial, (fun h => nomatch h), ?_⟩; gi_at_call 129; refine (callsIn_wide.2 hclone).mono ?_; rintro e w2 ⟨v2, rfl, hown, hbw⟩; obtain ⟨A2, c2, rfl, hc2, hm2⟩ := own_form hown; rw [HX.out] at hown hc2; rw [HX.out]) | (gi_at_builtin; go_must (refine wpListIn_append_own_at (w := w2.alloc (.cells #[.int .i64 (j : Int)] 3)) rfl (.tmp 53) (.tmp 55) _ rfl wr.heap.size 3 i0 _ 1 8 Try.underlying28 hi0 hz0 hz1 hz2 rfl (by omega) _ n _ rfl (hown.alloc _) ⟨w2.heap.size, 0, none⟩ 1 1 [.int .i64 (j : Int)] rfl rfl (cell_one_new _ _ _) (by simp [Value.oneCell']) (by simp only [maxLen]; omega) (by omega) (by have := hbw.size; simp; omega) ?_); intro v3 w3 hown3 hg3 _ hat3; obtain ⟨A3, c3, rfl, hc3, hm3⟩ := own_form hown3))
            have hbel := pg (pa hbw) (hown.alloc _) (Nat.le_refl _) hg3
            have hrec := IH.out (xs ++ [(j : Int)]) A3 (n + 1) c3 (k - 1) (pre ++ q) w3 (by simp [HX.out]) (by have := HD.out; omega) hc3 (HJ.out _ _ _ none hjq ⟨hbel.os, hbel.tape, hbel.output, hbel.size, fun i hi _ => hbel.block i hi⟩ (fun r e => by cases e)) (Nat.le_trans hB2 hbel.size) ((intsAb_of_own (by simpa using hown3)).mono hB2)
              (ext_count HQ.out HG2.out (by rw [HFull.out]; exact stacksUpto_prefix count overlap d xs (by omega)) HN.out) (getD_snoc (by omega) (by omega) HB.out)
            refine ⟨trivial, (fun h => nomatch h), hrec.mono ?_⟩
            rintro e W4 (⟨rfl, ⟨q2, hq2, hJ4⟩, hab4⟩ | ⟨rfl, q2, hne2, hq2, hJ4⟩)
            · have HQ2 := Lib.hid hq2
              clear hq2
              gi_wp2
              go_roundw
              case rel => exact ⟨j + 1, q ++ q2, by omega, by go_num, by rw [HG2.out, List.map_append, HQ.out, HQ2.out], by rw [← List.append_assoc]; exact hJ4, hab.trans ((Above.of_below hbel).trans hab4)⟩
              case measure => simp [intOf]; omega
            · gi_wp2
              go_ret
              exact .inr ⟨rfl, q ++ q2, by simp [hne2], ext_prefix HQ.out HG2.out (by rw [HFull.out]; exact stacksUpto_prefix count overlap d xs (by omega)) hq2, by rw [← List.append_assoc]; exact hJ4⟩
        · have hnear : nearB xs overlap (j : Int) = false := by simp only [nearB, HX.out, h1]; simp
          have hclone := clone_any wr.heap.size A n c xs wr HR2.out.ints HX.out (Nat.le_refl _) (by omega)
          have q4 : decide ((0 : Int) < (n : Int)) = false := by simp; omega
          have q5 : n ≤ 0 := by omega
          clear h1
          have HG2 := Lib.hid (show stacksUpto count overlap d xs (j + 1) = stacksUpto count overlap d xs j ++ stacksV count overlap d (xs ++ [(j : Int)]) by rw [HG.out, hh, hnear]; rfl)
          clear hnear
          gi_wp2_with (first | (refine ⟨trivial, (fun h => nomatch h), ?_⟩; gi_at_call 89; refine (callsIn_wide.2 hcont).mono ?_; rintro e w1 ⟨rfl, rfl⟩) | (refine ⟨trivial, (fun h => nomatch h), ?_⟩; gi_at_call 90; refine (callsIn_wide.2 (size_any _ _ (by omega) (by omega))).mono ?_; rintro e w1 ⟨rfl, rfl⟩) | (refine ⟨(trivial : Fence.wide.fn 90), ?_⟩; fail_if_success (refine ⟨(fun h => nomatch h), ?_⟩)) | (refine ⟨trivial, (fun h => nomatch h), ?_⟩; gi_at_call 129; refine (callsIn_wide.2 hclone).mono ?_; rintro e w2 ⟨v2, rfl, hown, hbw⟩; obtain ⟨A2, c2, rfl, hc2, hm2⟩ := own_form hown; rw [HX.out] at hown hc2; rw [HX.out]) | (gi_at_builtin; go_must (refine wpListIn_append_own_at (w := w2.alloc (.cells #[.int .i64 (j : Int)] 3)) rfl (.tmp 53) (.tmp 55) _ rfl wr.heap.size 3 i0 _ 1 8 Try.underlying28 hi0 hz0 hz1 hz2 rfl (by omega) _ n _ rfl (hown.alloc _) ⟨w2.heap.size, 0, none⟩ 1 1 [.int .i64 (j : Int)] rfl rfl (cell_one_new _ _ _) (by simp [Value.oneCell']) (by simp only [maxLen]; omega) (by omega) (by have := hbw.size; simp; omega) ?_); intro v3 w3 hown3 hg3 _ hat3; obtain ⟨A3, c3, rfl, hc3, hm3⟩ := own_form hown3))
          have hbel := pg (pa hbw) (hown.alloc _) (Nat.le_refl _) hg3
          have hrec := IH.out (xs ++ [(j : Int)]) A3 (n + 1) c3 (k - 1) (pre ++ q) w3 (by simp [HX.out]) (by have := HD.out; omega) hc3 (HJ.out _ _ _ none hjq ⟨hbel.os, hbel.tape, hbel.output, hbel.size, fun i hi _ => hbel.block i hi⟩ (fun r e => by cases e)) (Nat.le_trans hB2 hbel.size) ((intsAb_of_own (by simpa using hown3)).mono hB2)
            (ext_count HQ.out HG2.out (by rw [HFull.out]; exact stacksUpto_prefix count overlap d xs (by omega)) HN.out) (getD_snoc (by omega) (by omega) HB.out)
          refine ⟨trivial, (fun h => nomatch h), hrec.mono ?_⟩
          rintro e W4 (⟨rfl, ⟨q2, hq2, hJ4⟩, hab4⟩ | ⟨rfl, q2, hne2, hq2, hJ4⟩)
          · have HQ2 := Lib.hid hq2
            clear hq2
            gi_wp2
            go_roundw
            case rel => exact ⟨j + 1, q ++ q2, by omega, by go_num, by rw [HG2.out, List.map_append, HQ.out, HQ2.out], by rw [← List.append_assoc]; exact hJ4, hab.trans ((Above.of_below hbel).trans hab4)⟩
            case measure => simp [intOf]; omega
          · gi_wp2
            go_ret
            exact .inr ⟨rfl, q ++ q2, by simp [hne2], ext_prefix HQ.out HG2.out (by rw [HFull.out]; exact stacksUpto_prefix count overlap d xs (by omega)) hq2, by rw [← List.append_assoc]; exact hJ4⟩
      · obtain rfl : j = count := by omega
        gi_wp2
        go_ret
        exact .inl ⟨rfl, ⟨q, by rw [HFull.out]; exact HQ.out, hjq⟩, hab⟩

end Go.Proofs.Ytlgioldmjohhlaa
end

section
namespace Go.Proofs.Ytlgioldmjohhlaa
open Go.RowKit Go.Shelf
attribute [local go_sem] Oper.semAt_some

theorem own_blk {β : Type} (B g : Nat) (t : TypeId) (cs : Array Value) : OwnFrom B (fun (_ : β) W => Blk W g t cs) := fun _ W W' row hs hg hr =>
  hs.grown hg (fun e => by
    obtain ⟨_, o, ho, hc⟩ := hr g e.symm
    rw [show W.heap[g]? = _ from hs] at ho
    cases ho
    cases hc)
theorem own_ints {β : Type} (B B' : Nat) (A : Option Addr) (xs : List Int) : OwnFrom B (fun (_ : β) W => IntsAb B' W A xs) := fun _ W W' row hs hg hr => by
  rcases hs with h | ⟨b, off, hA, hB, hb, hc⟩
  · exact .inl h
  · exact .inr ⟨b, off, hA, hB, Nat.lt_of_lt_of_le hb hg.size, fun j hj => cell_kept (hc j hj) hg (fun r e => (hr r e).2)⟩
theorem IntsAb.far {B : Nat} {w : World} {A : Option Addr} {xs : List Int} (h : IntsAb B w A xs) {p : Addr} (hp : p.block < B) {u : Value} : IntsAb B (w.setCell p u) A xs := by
  rcases h with h | ⟨b, off, hA, hB, hb, hc⟩
  · exact .inl h
  · exact .inr ⟨b, off, hA, hB, by simpa [World.setCell] using hb, fun j hj => (World.cell?_setCell_other w p _ u (fun e => by subst e; simp at hp; omega)).trans (hc j hj)⟩

theorem Blk.putObj {w : World} {g D : Nat} {t : TypeId} {cs : Array Value} (h : Blk w g t cs) (hne : g ≠ D) {o : Obj} : Blk (w.putObj D o) g t cs := (World.putObj_heap_other hne).trans h

def stackEnc (count : Nat) (x : Stk) : Array Value := #[.slice x.1.1 count x.1.2]
def StackPr (B count : Nat) (x : Stk) (W : World) : Prop := IntsAb B W x.1.1 x.2 ∧ x.2.length = count ∧ count ≤ x.1.2

set_option maxRecDepth 100000 in
set_option maxHeartbeats 1000000 in
theorem stacks_seq (n count : Nat) (overlap : Int) (hcount : count ≤ 8) (b1 b2 : Nat) (w0 : World) (h1 : b1 < w0.heap.size) (h2 : b2 < w0.heap.size) (c1 : w0.cell? ⟨b1, 0, none⟩ = some (.int .i64 (count : Int))) (c2 : w0.cell? ⟨b2, 0, none⟩ = some (.int .i64 overlap)) :
    SeqP n Try.prog 134 #[] #[.pointer (some ⟨b1, 0, none⟩), .pointer (some ⟨b2, 0, none⟩)] (stackEnc count) (StackPr w0.heap.size count) (fun W0 => Above W0.heap.size)
      (fun xs => xs.map (·.2) = stacksV count overlap count []) (fun pre => pre ≠ [] ∧ pre.map (·.2) <+: stacksV count overlap count []) (stacksV count overlap count []).length w0 := by
  intro l J Jx W hW hJ hJx hY h0
  have d1 := ((bcell hW).1 b1 0 h1).trans c1
  have d2 := ((bcell hW).1 b2 0 h2).trans c2
  have hext := fun k => extended_any count overlap hcount l W.heap.size (stacksV count overlap count []).length (n - 1) J Jx hJ (fun pre x W1 hj hB hpr hlt => hY pre x W1 hj ⟨hpr.1.mono hW.size, hpr.2⟩ hlt) count [] none 0 0 k [] W rfl (by omega) (Nat.le_refl _) h0 (Nat.le_refl _) (.inl rfl) (by simp) (by simp)
  have HE := Lib.hid hext
  clear hext hY hJ hJx h0 hW c1 c2
  refine callsIn_of_wp Try.func134 rfl trivial ?_ rfl
  simp only [Try.ntmps134, List.size_toArray, List.length_cons, List.length_nil, Nat.reduceAdd, Nat.reduceSub, Array.replicate_succ, Array.replicate_zero, List.push_toArray, List.append_toArray, List.nil_append, List.cons_append]
  gi_wp2_with (refine ⟨trivial, (fun h => nomatch h), ?_⟩; gi_at_call 135; refine (HE.out _).mono ?_; rintro e W4 (⟨rfl, ⟨q, hq, hJ4⟩, hab⟩ | ⟨rfl, q, hne, hq, hJ4⟩))
  · gi_wp2
    go_end0
    exact ⟨⟨_, rfl⟩, .inl ⟨q, hq, hJ4⟩⟩
  · gi_wp2
    go_end0
    exact ⟨⟨_, rfl⟩, .inr ⟨q, ⟨hne, hq⟩, hJ4⟩⟩

theorem stacks_any (count overlap : Int) (w : World) :
    Calls Try.prog 91 #[.int .i64 count, .int .i64 overlap] w fun e w' =>
      e = .returned (.func (.func 134) #[] #[.pointer (some ⟨w.heap.size, 0, none⟩), .pointer (some ⟨w.heap.size + 1, 0, none⟩)]) ∧ w' = (w.alloc (.cells #[.int .i64 count] 3)).alloc (.cells #[.int .i64 overlap] 3) := by
  go_enter Try.func91, Try.ntmps91
  go_wp2
  go_ret
  exact ⟨rfl, rfl⟩

/-- The first stack, or nil and ErrNone. -/
def stackForE (count : Nat) (overlap : Int) : Int := if stackE count overlap ≠ 0 then stackE count overlap else if stacksV count overlap count [] = [] then 12 else 0
def stackForL (count : Nat) (overlap : Int) : List Int := if stackE count overlap ≠ 0 then [] else (stacksV count overlap count []).headD []

def SliceErrRet (w : World) (xs : List Int) (err : Int) (e : Ending) (w' : World) : Prop :=
  ∃ A c, e = .returned (.tuple #[.slice A xs.length c, .int .i64 err]) ∧ IntsIn w'.heap.size w' A xs ∧ xs.length ≤ c ∧ Below w.heap.size w w'

set_option maxRecDepth 100000 in
set_option maxHeartbeats 2000000 in
theorem stackFor_in (n count : Nat) (overlap : Int) (w : World) (h1 : 1 ≤ n) (h0 : stackE count overlap = 0) (hcount : count ≤ 8) :
    CallsIn Fence.wide n Try.prog 25 #[.int .i64 (count : Int), .int .i64 overlap] w (SliceErrRet w (stackForL count overlap) (stackForE count overlap)) := by
  have H0 := Lib.hid h0
  have h00 : stackE (count : Int) overlap = 0 := h0
  clear h0
  refine callsIn_of_wp_marks Try.func25 rfl trivial ?_ rfl
  simp only [Try.ntmps25, List.size_toArray, List.length_cons, List.length_nil, Nat.reduceAdd, Nat.reduceSub, Array.replicate_succ, Array.replicate_zero, List.push_toArray, List.append_toArray, List.nil_append, List.cons_append]
  gi_wp2_with (first | (refine ⟨trivial, ?_⟩; gi_at_call 85; refine (callsIn_wide.2 (stackErr_any _ _ _)).mono ?_; rintro e w1 ⟨rfl, rfl⟩) | (refine ⟨trivial, ?_⟩; gi_at_call 91; refine (callsIn_wide.2 (stacks_any _ _ _)).mono ?_; rintro e w1 ⟨rfl, rfl⟩))
  have r0 : Blk ((((w.alloc (.cells #[.slice none 0 0] 28)).alloc (.cells #[.int .i64 0] 29)).alloc (.cells #[.int .i64 (count : Int)] 3)).alloc (.cells #[.int .i64 overlap] 3)) w.heap.size 28 #[.slice none 0 0] := ((Blk.newAt rfl).alloc).alloc.alloc
  have r1 : Blk ((((w.alloc (.cells #[.slice none 0 0] 28)).alloc (.cells #[.int .i64 0] 29)).alloc (.cells #[.int .i64 (count : Int)] 3)).alloc (.cells #[.int .i64 overlap] 3)) (w.heap.size + 1) 29 #[.int .i64 0] := ((Blk.newAt (by simp)).alloc).alloc
  have r2 : Blk ((((w.alloc (.cells #[.slice none 0 0] 28)).alloc (.cells #[.int .i64 0] 29)).alloc (.cells #[.int .i64 (count : Int)] 3)).alloc (.cells #[.int .i64 overlap] 3)) (w.heap.size + 1 + 1) 3 #[.int .i64 (count : Int)] := (Blk.newAt (by simp)).alloc
  have r3 : Blk ((((w.alloc (.cells #[.slice none 0 0] 28)).alloc (.cells #[.int .i64 0] 29)).alloc (.cells #[.int .i64 (count : Int)] 3)).alloc (.cells #[.int .i64 overlap] 3)) (w.heap.size + 1 + 1 + 1) 3 #[.int .i64 overlap] := Blk.newAt (by simp)
  have hb : Below w.heap.size w ((((w.alloc (.cells #[.slice none 0 0] 28)).alloc (.cells #[.int .i64 0] 29)).alloc (.cells #[.int .i64 (count : Int)] 3)).alloc (.cells #[.int .i64 overlap] 3)) := pa (pa (pa (pa pr)))
  generalize ((((w.alloc (.cells #[.slice none 0 0] 28)).alloc (.cells #[.int .i64 0] 29)).alloc (.cells #[.int .i64 (count : Int)] 3)).alloc (.cells #[.int .i64 overlap] 3)) = W0 at *
  have hsz : w.heap.size + 1 + 1 + 1 < W0.heap.size := r3.lt
  refine rangeFunc_law h1 (gf := 134) (fb := #[]) (lb := #[.pointer (some ⟨w.heap.size + 1 + 1, 0, none⟩), .pointer (some ⟨w.heap.size + 1 + 1 + 1, 0, none⟩)]) rfl (enters_of Try.func134 (by kernel_rfl) rfl)
    (stacks_seq (n - 1) count overlap hcount (w.heap.size + 1 + 1) (w.heap.size + 1 + 1 + 1) W0 (by omega) (by omega) (r2.cellAt 0 rfl) (r3.cellAt 0 rfl)) (Below.refl _ _)
    (fun h k => h.trans k) (fun W A l o o' hl hl2 ho hc => ⟨by simp, fun k hk _ => World.putObj_heap_other (by omega)⟩)
    (fun x A l o o' ho hc hp => ⟨own_ints (β := Unit) 0 W0.heap.size x.1.1 x.2 () A _ (some l) hp.1 (grownBy_putObj' A l o') (fun r e => by cases e; exact ⟨Nat.zero_le _, o, ho, hc⟩), hp.2⟩) (fun x => rfl)
    (fun pre W => pre = [] ∧ Blk W w.heap.size 28 #[.slice none 0 0] ∧ Blk W (w.heap.size + 1) 29 #[.int .i64 0] ∧ Below w.heap.size w W)
    (fun c pre W => c = .ret ∧ ∃ x : Stk, pre = [x] ∧ Blk W w.heap.size 28 #[.slice x.1.1 count x.1.2] ∧ Blk W (w.heap.size + 1) 29 #[.int .i64 0] ∧ IntsAb W0.heap.size W x.1.1 x.2 ∧ x.2.length = count ∧ count ≤ x.1.2 ∧ Below w.heap.size w W)
    (fun s A B row hs hg hr => ⟨hs.1, own_blk _ _ _ _ s A B row hs.2.1 hg hr, own_blk _ _ _ _ s A B row hs.2.2.1 hg hr, ownFrom_below (Nat.le_refl _) hb.size s A B row hs.2.2.2 hg hr⟩)
    (fun c s A B row hs hg hr => by
      obtain ⟨hc, x, hx, h1, h2, h3, h4, h6, h5⟩ := hs
      exact ⟨hc, x, hx, own_blk _ _ _ _ s A B row h1 hg hr, own_blk _ _ _ _ s A B row h2 hg hr, own_ints _ _ _ _ s A B row h3 hg hr, h4, h6, ownFrom_below (Nat.le_refl _) hb.size s A B row h5 hg hr⟩)
    ⟨rfl, r0, r1, hb⟩
    (fun x => { tmps := #[.int .i64 (count : Int), .int .i64 overlap, undef, undef, .pointer (some ⟨w.heap.size, 0, none⟩), .pointer (some ⟨w.heap.size + 1, 0, none⟩), .int .i64 0, .slice x.1.1 count x.1.2, .int .i64 (count : Int), .int .i64 overlap, .int .i64 0, .int .i64 0, .bool false, undef, .int .i64 (count : Int), .int .i64 overlap,
      .func (.func 134) #[] #[.pointer (some ⟨w.heap.size + 1 + 1, 0, none⟩), .pointer (some ⟨w.heap.size + 1 + 1 + 1, 0, none⟩)], .slice x.1.1 count x.1.2, undef], defers := [] }) ?assign ?body ?done ?stop
  case assign =>
    intro l x W K hK
    unfold stackEnc
    gi_wp2
    exact hK
  case body =>
    rintro l pre x Wb W hWb ⟨rfl, q0, q1, hq⟩ ⟨hp1, hp2, hp3⟩ _
    have c0 := q0.cellAt 0 rfl
    have c1 := q1.cellAt 0 rfl
    have f0 := q0.frozen 0
    have f1 := q1.frozen 0
    gi_wp2
    exact ⟨((KeepsOthers.setCell _ _ _).trans (KeepsOthers.setCell _ _ _)).from _, rfl, x, rfl, by simpa using (q0.set_ 0 _).far (p := ⟨w.heap.size + 1, 0, none⟩) (by simp), by simpa using (q1.far (p := ⟨w.heap.size, 0, none⟩) (by simp)).set_ 0 _, (hp1.far (by dsimp only; omega)).far (by dsimp only; omega), hp2, hp3, ps (ps hq (by dsimp only; omega)) (by dsimp only; omega)⟩
  case done =>
    rintro D xs W hD hS ⟨rfl, q0, q1, hq⟩ hK
    have c0 := q0.cellAt 0 rfl
    have c1 := q1.cellAt 0 rfl
    have f0 := q0.frozen 0
    have f1 := q1.frozen 0
    have hl : stackForL count overlap = [] := by
      have : stacksV count overlap count [] = [] := hS.symm
      simp [stackForL, this]
    have he : stackForE count overlap = 12 := by
      have : stacksV count overlap count [] = [] := hS.symm
      simp [stackForE, this, H0.out]
    have HL := Lib.hid hl
    have HE := Lib.hid he
    clear hl he hS
    gi_wp2
    refine ⟨by simp, .inl ⟨_, _, rfl, run_takeDeferred (((KeepsOthers.setCell W ⟨w.heap.size, 0, none⟩ (.slice none 0 0)).trans (KeepsOthers.setCell _ ⟨w.heap.size + 1, 0, none⟩ (.int .i64 12))).same D _ hK rfl), ?_⟩⟩
    have hD2 : w.heap.size + 1 + 1 + 1 < D := by omega
    have p0 : Blk (((W.setCell ⟨w.heap.size, 0, none⟩ (.slice none 0 0)).setCell ⟨w.heap.size + 1, 0, none⟩ (.int .i64 12)).putObj D (.deferred none)) w.heap.size 28 #[.slice none 0 0] := Blk.putObj (by simpa using (q0.set_ 0 (.slice none 0 0)).far (p := ⟨w.heap.size + 1, 0, none⟩) (by simp)) (by omega)
    have p1 : Blk (((W.setCell ⟨w.heap.size, 0, none⟩ (.slice none 0 0)).setCell ⟨w.heap.size + 1, 0, none⟩ (.int .i64 12)).putObj D (.deferred none)) (w.heap.size + 1) 29 #[.int .i64 12] := Blk.putObj (by simpa using (q1.far (p := ⟨w.heap.size, 0, none⟩) (by simp)).set_ 0 (.int .i64 12)) (by omega)
    have e0 := p0.cellAt 0 rfl
    have e1 := p1.cellAt 0 rfl
    refine ⟨.tuple #[.slice none 0 0, .int .i64 12], by simp [results, Try.results25, go_sem, e0, e1], ?_⟩
    rw [HL.out, HE.out]
    exact ⟨none, 0, rfl, .inl rfl, Nat.zero_le _, (ps (ps hq (by dsimp only; omega)) (by dsimp only; omega)).trans ⟨rfl, rfl, rfl, by simp, fun k hk => World.putObj_heap_other (by omega)⟩⟩
  case stop =>
    rintro D c pre W hD hSp ⟨rfl, x, rfl, q0, q1, hi, hlen, hcap, hq⟩ hK
    have c0 := q0.cellAt 0 rfl
    have c1 := q1.cellAt 0 rfl
    have hl : stackForL count overlap = x.2 := by
      obtain ⟨_, r, hr⟩ := hSp
      have : stacksV count overlap count [] = x.2 :: r := hr.symm
      simp [stackForL, this, H0.out]
    have he : stackForE count overlap = 0 := by
      obtain ⟨_, r, hr⟩ := hSp
      have : stacksV count overlap count [] = x.2 :: r := hr.symm
      simp [stackForE, this, H0.out]
    gi_wp2
    refine ⟨by simp, .inl ⟨_, _, rfl, run_takeDeferred hK, ?_⟩⟩
    have hD2 : w.heap.size + 1 + 1 + 1 < D := by omega
    have p0 : Blk (W.putObj D (.deferred none)) w.heap.size 28 #[.slice x.1.1 count x.1.2] := q0.putObj (by omega)
    have p1 : Blk (W.putObj D (.deferred none)) (w.heap.size + 1) 29 #[.int .i64 0] := q1.putObj (by omega)
    have e0 := p0.cellAt 0 rfl
    have e1 := p1.cellAt 0 rfl
    refine ⟨.tuple #[.slice x.1.1 count x.1.2, .int .i64 0], by simp [results, Try.results25, go_sem, e0, e1], ?_⟩
    rw [hl, he, ← hlen]
    have hW : Below w.heap.size W (W.putObj D (.deferred none)) := ⟨rfl, rfl, rfl, by simp, fun k hk => World.putObj_heap_other (by omega)⟩
    exact ⟨x.1.1, x.1.2, rfl, (own_ints (β := Unit) 0 W0.heap.size x.1.1 x.2 () W _ (some D) hi (grownBy_putObj' W D _) (fun r e => by cases e; exact ⟨Nat.zero_le _, _, hK, rfl⟩)).ints, by omega, hq.trans hW⟩

theorem stackFor_err (count overlap : Int) (w : World) (h0 : stackE count overlap ≠ 0) :
    Calls Try.prog 25 #[.int .i64 count, .int .i64 overlap] w (SliceErrRet w [] (stackE count overlap)) := by
  have h00 : (stackE count overlap == 0) = false := by simpa using h0
  clear h0
  go_enter Try.func25, Try.ntmps25
  go_wp2_with (go_at_call 85; refine (stackErr_any _ _ _).mono ?_; rintro e w1 ⟨rfl, rfl⟩)
  refine bodyPost_ret (v := .tuple #[.slice none 0 0, .int .i64 (stackE count overlap)]) (by simp [results, Try.results25, go_sem]) rfl ?_
  exact ⟨none, 0, rfl, .inl rfl, Nat.zero_le _, pa (pa pr)⟩

/-- The first stack that overlaps: the contract for whatever numbers. -/
theorem stackFor_any (count overlap : Int) (w : World) :
    Calls Try.prog 25 #[.int .i64 count, .int .i64 overlap] w (SliceErrRet w (stackForL count.toNat overlap) (if stackE count overlap ≠ 0 then stackE count overlap else stackForE count.toNat overlap)) := by
  by_cases h0 : stackE count overlap = 0
  · have hc : withinB count 1 8 = true := by
      have h1 := (unless_ne (by decide)).1 h0
      simp only [Bool.and_eq_true] at h1
      exact h1.1
    simp only [withinB, Bool.and_eq_true, decide_eq_true_eq] at hc
    obtain ⟨n, rfl⟩ : ∃ n : Nat, count = (n : Int) := ⟨count.toNat, by omega⟩
    rw [if_neg (by simp [h0])]
    exact callsIn_wide.1 (stackFor_in 1 n overlap w (Nat.le_refl _) h0 (by omega))
  · rw [if_pos h0]
    have hl : stackForL count.toNat overlap = [] := by
      unfold stackForL
      by_cases hc : 0 ≤ count
      · rw [show ((count.toNat : Nat) : Int) = count by omega, if_pos h0]
      · have : stackE (count.toNat : Int) overlap ≠ 0 := by
          have e : ((count.toNat : Nat) : Int) = 0 := by omega
          rw [e]
          simp [stackE, unlessV, withinB]
        rw [if_pos this]
    rw [hl]
    exact stackFor_err count overlap w h0

end Go.Proofs.Ytlgioldmjohhlaa
end
