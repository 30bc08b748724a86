/- Contracts: the program's CheckLots and AcceptOf; the law's short and Small. -/
import Derived.Test.YtbojmcopagbheaaGreatDoorR5
import Derived.Test.YtbojmcopagbheaaGreatDoorZFSusp
namespace Go.Proofs.YtbojmcopagbheaaGreatDoor
open Go.RowKit

def shortB (x : Lot) : Bool := decide (x.name.size ≤ 20) && (decide (x.made.length ≤ 8) && decide (∀ j, j < x.made.length → (x.made.getD j default).size ≤ 20))
def smallB (xs : List Lot) : Bool := decide (xs.length ≤ 22) && decide (∀ i, i < xs.length → shortB (xs.getD i default) = true)

theorem short_iff {x : Lot} : shortB x = true ↔ x.name.size ≤ 20 ∧ x.made.length ≤ 8 ∧ ∀ j, j < x.made.length → (x.made.getD j default).size ≤ 20 := by
  unfold shortB
  rw [Bool.and_eq_true, Bool.and_eq_true, decide_eq_true_eq, decide_eq_true_eq, decide_eq_true_eq]
theorem small_iff {xs : List Lot} : smallB xs = true ↔ xs.length ≤ 22 ∧ ∀ i, i < xs.length → shortB (xs.getD i default) = true := by
  unfold smallB
  rw [Bool.and_eq_true, decide_eq_true_eq, decide_eq_true_eq]
theorem short_small {x : Lot} (h : shortB x = true) : SmallLot x := by
  obtain ⟨h1, h2, h3⟩ := short_iff.1 h
  refine ⟨by omega, by omega, fun j => ?_⟩
  rcases Nat.lt_or_ge j x.made.length with hj | hj
  · have := h3 j hj; omega
  · have e : x.made.getD j default = default := by simp [List.getD, hj]
    rw [e]
    exact Nat.zero_le _
theorem small_lots {xs : List Lot} (h : smallB xs = true) : SmallLots xs := by
  obtain ⟨h1, h2⟩ := small_iff.1 h
  exact ⟨by omega, fun i hi => short_small (h2 i hi)⟩

set_option maxHeartbeats 2000000 in
set_option maxRecDepth 100000 in
theorem short_any (B : Nat) (x : Lot) (A : Option Addr) (n c : Nat) (w : World) (hn : x.made.length = n) (hr : RowIn Value.string B w A x.made) (hB : B ≤ w.heap.size) :
    Calls Tryz.prog 33 #[.agg #[.string x.name, .slice A n c, .int .i64 x.mlo, .int .i64 x.mhi, .int .i64 x.llo, .int .i64 x.lhi]] w fun e w' => e = .returned (.bool (shortB x)) ∧ Below w.heap.size w w' := by
  have HI := Lib.hid (short_iff (x := x))
  generalize shortB x = V at *
  obtain ⟨nm, xs, mlo, mhi, llo, lhi⟩ := x
  dsimp only at *
  have HN := Lib.hid hn
  have HR := Lib.hid hr
  clear hn hr
  have r0 : Blk (w.alloc (.cells #[.string nm, .slice A n c, .int .i64 mlo, .int .i64 mhi, .int .i64 llo, .int .i64 lhi] 58)) w.heap.size 58 #[.string nm, .slice A n c, .int .i64 mlo, .int .i64 mhi, .int .i64 llo, .int .i64 lhi] := Blk.newAt rfl
  have c0 := r0.cellAt 0 rfl
  have c1 := r0.cellAt 1 rfl
  have HNo := Lib.hid (show ¬ (nm.size ≤ 20 ∧ xs.length ≤ 8 ∧ ∀ j, j < xs.length → (xs.getD j default).size ≤ 20) → V = false from fun h => by
    cases hV : V with
    | false => rfl
    | true => exact absurd (HI.out.1 hV) h)
  by_cases h1 : (20 : Int) < (nm.size : Int)
  · have HV := Lib.hid (show V = false from HNo.out fun h => by omega)
    have h1n : 20 < nm.size := by omega
    go_enter Tryz.func33, Tryz.ntmps33
    go_wp2
    go_ret
    exact ⟨ret_bool HV.out.symm, pa pr⟩
  · have h1d : decide ((20 : Int) < (nm.size : Int)) = false := decide_eq_false h1
    have h1n : ¬ 20 < nm.size := by omega
    have h1m : nm.size ≤ 20 := by omega
    by_cases h2 : (8 : Int) < (n : Int)
    · have HV := Lib.hid (show V = false from HNo.out fun h => by have := HN.out; omega)
      have h2n : 8 < n := by omega
      go_enter Tryz.func33, Tryz.ntmps33
      go_wp2
      go_ret
      exact ⟨ret_bool HV.out.symm, pa pr⟩
    · have h2d : decide ((8 : Int) < (n : Int)) = false := decide_eq_false h2
      have h2n : ¬ 8 < n := by omega
      have hn8 : n ≤ 8 := by omega
      have HS := Lib.hid h1m
      go_enter Tryz.func33, Tryz.ntmps33
      go_wp2
      clear h1d h1n h2d h2n h1 h2 h1m
      go_loopw [3] (fun i wr => ∃ k : Nat, k ≤ n ∧ i = .int .i64 (k : Int) ∧ wr = w.alloc (.cells #[.string nm, .slice A n c, .int .i64 mlo, .int .i64 mhi, .int .i64 llo, .int .i64 lhi] 58) ∧ ∀ j, j < k → (xs.getD j default).size ≤ 20) (fun i _ => n - (intOf i).toNat)
      case atStart => exact ⟨0, Nat.zero_le _, rfl, (by first | exact trivial | rfl), fun j hj => by omega⟩
      case round =>
        obtain ⟨k, hk, rfl, rfl, hf⟩ := hrel
        have HF := Lib.hid hf
        clear hf
        by_cases hlt : k < n
        · obtain ⟨b, off, hA, hbB, hcell⟩ := (HR.out.below ((pa pr : Below w.heap.size w (w.alloc (.cells #[.string nm, .slice A n c, .int .i64 mlo, .int .i64 mhi, .int .i64 llo, .int .i64 lhi] 58))).mono hB)).at_ (k := k) (by rw [HN.out]; exact hlt)
          subst hA
          have d0 := hcell k (by rw [HN.out]; exact hlt)
          have i0 : (0 : Int) ≤ (k : Int) := by omega
          have i2 : (k : Int) < (n : Int) := by omega
          clear hcell
          generalize hy : xs.getD k default = y at *
          have HY := Lib.hid hy
          clear hy
          by_cases h3 : (20 : Int) < (y.size : Int)
          · have HV := Lib.hid (show V = false from HNo.out fun h => by
              have h4 := h.2.2 k (by rw [HN.out]; exact hlt)
              rw [HY.out] at h4
              omega)
            have h3n : 20 < y.size := by omega
            go_wp2
            go_ret
            exact ⟨ret_bool HV.out.symm, pa pr⟩
          · have h3d : decide ((20 : Int) < (y.size : Int)) = false := decide_eq_false h3
            have h3n : ¬ 20 < y.size := by omega
            have H3 := Lib.hid (show y.size ≤ 20 by omega)
            go_wp2
            go_roundw
            case rel => exact ⟨k + 1, by omega, by go_num, (by first | exact trivial | rfl), fun j hj => by
              rcases Nat.lt_or_ge j k with h | h
              · exact HF.out j h
              · obtain rfl : j = k := by omega
                rw [HY.out]
                exact H3.out⟩
            case measure => simp [intOf]; omega
        · have HV := Lib.hid (show V = true from HI.out.2 ⟨HS.out, by rw [HN.out]; exact hn8, fun j hj => HF.out j (by rw [HN.out] at hj; omega)⟩)
          go_wp2
          go_ret
          exact ⟨ret_bool HV.out.symm, pa pr⟩

set_option maxHeartbeats 2000000 in
set_option maxRecDepth 100000 in
theorem small_any (B : Nat) (xs : List Lot) (A : Option Addr) (c : Nat) (w : World) (hr : LotsIn B w A xs) (hB : B ≤ w.heap.size) :
    Calls Tryz.prog 21 #[.slice A xs.length c] w fun e w' => e = .returned (.bool (smallB xs)) ∧ Below w.heap.size w w' := by
  have HI := Lib.hid (small_iff (xs := xs))
  generalize smallB xs = V at *
  have HR := Lib.hid hr
  clear hr
  have HNo := Lib.hid (show ¬ (xs.length ≤ 22 ∧ ∀ i, i < xs.length → shortB (xs.getD i default) = true) → V = false from fun h => by
    cases hV : V with
    | false => rfl
    | true => exact absurd (HI.out.1 hV) h)
  by_cases h1 : (22 : Int) < (xs.length : Int)
  · have HV := Lib.hid (show V = false from HNo.out fun h => by omega)
    have h1n : 22 < xs.length := by omega
    go_enter Tryz.func21, Tryz.ntmps21
    go_wp2
    go_ret
    exact ⟨ret_bool HV.out.symm, pr⟩
  · have h1d : decide ((22 : Int) < (xs.length : Int)) = false := decide_eq_false h1
    have h1n : ¬ 22 < xs.length := by omega
    have hl : xs.length ≤ 22 := by omega
    go_enter Tryz.func21, Tryz.ntmps21
    go_wp2
    clear h1 h1d h1n
    go_loopw [3] (fun i wr => ∃ k : Nat, k ≤ xs.length ∧ i = .int .i64 (k : Int) ∧ (∀ j, j < k → shortB (xs.getD j default) = true) ∧ Below w.heap.size w wr) (fun i _ => xs.length - (intOf i).toNat)
    case atStart => exact ⟨0, Nat.zero_le _, rfl, fun j hj => by omega, pr⟩
    case round =>
      obtain ⟨k, hk, rfl, hf, hq⟩ := hrel
      have HF := Lib.hid hf
      clear hf
      by_cases hlt : k < xs.length
      · obtain ⟨b, off, hA, hbB, hct⟩ := (HR.out.below (hq.mono hB)).at_ hlt
        subst hA
        obtain ⟨t0, A3, c3, t1, tr, _, t2, t3, t4, t5⟩ := hct k hlt
        have hBr : B ≤ wr.heap.size := Nat.le_trans hB hq.size
        have hbw : b < wr.heap.size := Nat.lt_of_lt_of_le hbB hBr
        have n0 : (0 : Int) ≤ (k : Int) := by omega
        have n1 : (k : Int) < (xs.length : Int) := by omega
        have hs := short_any B (xs.getD k default) A3 _ c3 wr rfl tr hBr
        clear hct tr
        generalize hx : xs.getD k default = x at *
        have HX := Lib.hid hx
        clear hx
        cases hsx : shortB x with
        | false =>
          rw [hsx] at hs
          have HSx := Lib.hid hs
          have HV := Lib.hid (show V = false from HNo.out fun h => by
            have h2 := h.2 k hlt
            rw [HX.out, hsx] at h2
            cases h2)
          clear hs hsx
          go_wp2_with (go_at_call 33; go_must (refine HSx.out.mono ?_); rintro e w1 ⟨rfl, hb1⟩)
          go_ret
          exact ⟨ret_bool HV.out.symm, pt hq hb1⟩
        | true =>
          rw [hsx] at hs
          have HSx := Lib.hid hs
          have HS2 := Lib.hid hsx
          clear hs hsx
          go_wp2_with (go_at_call 33; go_must (refine HSx.out.mono ?_); rintro e w1 ⟨rfl, hb1⟩)
          go_roundw
          case rel => exact ⟨k + 1, by omega, by go_num, fun j hj => by
            rcases Nat.lt_or_ge j k with h | h
            · exact HF.out j h
            · obtain rfl : j = k := by omega
              rw [HX.out]
              exact HS2.out, pt hq hb1⟩
          case measure => simp [intOf]; omega
      · have HV := Lib.hid (show V = true from HI.out.2 ⟨hl, fun j hj => HF.out j (by omega)⟩)
        go_wp2
        go_ret
        exact ⟨ret_bool HV.out.symm, hq⟩

end Go.Proofs.YtbojmcopagbheaaGreatDoor
