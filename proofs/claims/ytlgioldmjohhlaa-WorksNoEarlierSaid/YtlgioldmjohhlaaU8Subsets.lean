/- Contract: the specification's recursive list of all sets of so many numbers. -/
import Derived.Test.YtlgioldmjohhlaaU7BestBound
import Derived.Test.YtlgioldmjohhlaaZVRefStacks
namespace Go.Proofs.Ytlgioldmjohhlaa
open Go.RowKit

def nextV (xs : List Int) : Nat := if xs.length = 0 then 0 else (xs.getD (xs.length - 1) 0).toNat + 1
/-- All sets of numbers below count that begin with xs and have d more, each one ascending. -/
def subsV (count : Nat) : Nat → List Int → List (List Int)
  | 0, xs => [xs]
  | d + 1, xs => ((List.range (count - nextV xs)).map fun j => subsV count d (xs ++ [((nextV xs + j : Nat) : Int)])).flatten
def subsUpto (count d : Nat) (xs : List Int) (k : Nat) : List (List Int) := ((List.range k).map fun j => subsV count d (xs ++ [((nextV xs + j : Nat) : Int)])).flatten
theorem subsUpto_succ (count d : Nat) (xs : List Int) (k : Nat) : subsUpto count d xs (k + 1) = subsUpto count d xs k ++ subsV count d (xs ++ [((nextV xs + k : Nat) : Int)]) := by
  unfold subsUpto
  rw [List.range_succ, List.map_append, List.flatten_append]
  simp
theorem subsUpto_length {count d M : Nat} (h : ∀ xs, (subsV count d xs).length ≤ M) (xs : List Int) : ∀ k, (subsUpto count d xs k).length ≤ k * M
  | 0 => by simp [subsUpto]
  | k + 1 => by
    rw [subsUpto_succ, List.length_append, Nat.succ_mul]
    have h1 := subsUpto_length h xs k
    have h2 := h (xs ++ [((nextV xs + k : Nat) : Int)])
    omega
theorem subsV_length (count : Nat) : ∀ (d : Nat) (xs : List Int), (subsV count d xs).length ≤ count ^ d
  | 0, xs => by simp [subsV]
  | d + 1, xs => by
    have h := subsUpto_length (subsV_length count d) xs (count - nextV xs)
    rw [Nat.pow_succ, Nat.mul_comm]
    exact Nat.le_trans h (Nat.mul_le_mul_right _ (Nat.sub_le _ _))
theorem subsV_few {count : Nat} (h : count ≤ 7) (d : Nat) (hd : d ≤ 7) (xs : List Int) : (subsV count d xs).length ≤ 16777216 := by
  refine Nat.le_trans (subsV_length count d xs) (Nat.le_trans (Nat.pow_le_pow_left h d) ?_)
  exact Nat.le_trans (Nat.pow_le_pow_right (by omega) hd) (by decide)
theorem getD_snoc7 {xs : List Int} {y K : Int} (hy : 0 ≤ y ∧ y < K) (h : ∀ j, j < xs.length → 0 ≤ xs.getD j 0 ∧ xs.getD j 0 < K) : ∀ j, j < (xs ++ [y]).length → 0 ≤ (xs ++ [y]).getD j 0 ∧ (xs ++ [y]).getD j 0 < K := fun j hj => by
  rw [List.length_append, List.length_singleton] at hj
  by_cases e : j < xs.length
  · have : (xs ++ [y]).getD j 0 = xs.getD j 0 := by simp [List.getD, List.getElem?_append_left e]
    rw [this]; exact h j e
  · obtain rfl : j = xs.length := by omega
    have : (xs ++ [y]).getD xs.length 0 = y := by simp [List.getD]
    rw [this]; exact hy


set_option maxRecDepth 100000 in
set_option maxHeartbeats 4000000 in
theorem refSubsets_any (count size : Nat) (hcount : count ≤ 7) (hsize : size ≤ 7) :
    ∀ (d : Nat) (xs : List Int) (A : Option Addr) (n c : Nat) (w : World), xs.length = n → n + d = size → n ≤ c → IntRow w A xs → (∀ j, j < xs.length → 0 ≤ xs.getD j 0 ∧ xs.getD j 0 < (count : Int)) →
      Calls Try.prog 125 #[.int .i64 (count : Int), .int .i64 (size : Int), .slice A n c] w (RowsRet w (subsV count d xs)) := by
  intro d
  induction d with
  | zero =>
    intro xs A n c w hn hd hc hr hb
    obtain rfl : n = size := by omega
    subst hn
    have HS := Lib.hid (show subsV count 0 xs = [xs] from rfl)
    have HR := Lib.hid hr
    clear hr hb
    go_enter Try.func125, Try.ntmps125
    go_wp2
    go_ret
    rw [HS.out]
    refine ⟨_, _, [.slice A xs.length c], rfl, World.ownsRow_lit w #[.slice A xs.length c] 1 (Nat.le_refl _) (by decide) rfl, RowsOf.one ?_ hc, pa pr⟩
    exact HR.out.same (kept_below (pa pr))
  | succ d ih =>
    intro xs A n c w hn hd hc hr hb
    obtain ⟨i0, hi0, hz0, hz1, hz2⟩ := info_parts int_info
    obtain ⟨s0, hs0, hy0, hy1, hy2⟩ := info_parts slice_info
    have hne : ((n : Int) == (size : Int)) = false := by
      have : ¬ (n : Int) = (size : Int) := by omega
      simpa using this
    have HFull := Lib.hid (show subsV count (d + 1) xs = subsUpto count d xs (count - nextV xs) from rfl)
    have hfr : nextV xs ≤ count ∧ (n = 0 → nextV xs = 0) ∧ (0 < n → ((nextV xs : Nat) : Int) = xs.getD (n - 1) 0 + 1) := by
      unfold nextV
      rw [hn]
      by_cases h0 : n = 0
      · rw [if_pos h0]; exact ⟨Nat.zero_le _, fun _ => rfl, fun h => by omega⟩
      · rw [if_neg h0]
        have := hb (n - 1) (by omega)
        exact ⟨by omega, fun h => absurd h h0, fun _ => by omega⟩
    generalize hFr : nextV xs = fr at *
    have HFr := Lib.hid hFr
    have HR := Lib.hid hr
    have HB := Lib.hid hb
    have IH := Lib.hid ih
    have HX := Lib.hid hn
    have HD := Lib.hid hd
    have hn8 : n < size := by omega
    clear hb ih hn hFr
    obtain ⟨hfr1, hfr2, hfr3⟩ := hfr
    by_cases h1 : 0 < n
    · have hfr4 := hfr3 h1
      rcases hr.ints with hx | ⟨b, off, hA, hb1, hcell⟩
      · exfalso; have := HX.out; rw [hx] at this; simp at this; omega
      · subst hA
        have hc1 := hcell (n - 1) (by rw [HX.out]; omega)
        have hbd := HB.out (n - 1) (by rw [HX.out]; omega)
        have q0 : (0 : Int) ≤ (n : Int) - 1 := by omega
        have q1 : (1 : Int) ≤ (n : Int) := by omega
        have q2 : ((n : Int) - 1).toNat = n - 1 := by omega
        have q3 : (n : Int) ≤ 8 := by omega
        have q4 : (0 : Int) < (n : Int) := by omega
        clear hcell hr hfr2 hfr3
        generalize xs.getD (n - 1) 0 = z at *
        have HFr4 := Lib.hid hfr4
        have hwz : IntKind.i64.wrap (z + 1) = (fr : Int) := (IntWalk.i64_in _ (by omega)).trans hfr4.symm
        clear hfr4
        go_enter Try.func125, Try.ntmps125
        go_wp2
        go_loopw [8, 9] (fun ov iv wr => ∃ (y j : Nat) (A' : Option Addr) (c' : Nat) (us : List Value), iv = .int .i64 (y : Int) ∧ y = fr + j ∧ ov = .slice A' (subsUpto count d xs j).length c' ∧ j ≤ count - fr ∧ wr.ownsRow w.heap.size 28 1 (.slice A' (subsUpto count d xs j).length c') (subsUpto count d xs j).length us ∧ RowsOf wr us (subsUpto count d xs j) ∧ Below w.heap.size w wr) (fun _ iv _ => count - (intOf iv).toNat)
        case atStart => exact ⟨fr, 0, none, 0, [], by rw [HFr4.out], rfl, rfl, Nat.zero_le _, World.ownsRow_nil _ _ _ _, RowsOf.nil, pr⟩
        case round =>
          obtain ⟨y, j, A', c', us, rfl, hyj, rfl, hjc, hown, hrows, hab⟩ := hrel
          have hri := HR.out.same (kept_below hab)
          have HRI := Lib.hid hri.ints
          by_cases hlt : y < count
          · have HG := Lib.hid (show subsUpto count d xs (j + 1) = subsUpto count d xs j ++ subsV count d (xs ++ [(y : Int)]) by rw [subsUpto_succ, HFr.out, ← hyj])
            have HOwn := Lib.hid hown
            have HRows := Lib.hid hrows
            have hab1 := hab.size
            have HAb := Lib.hid hab
            have hU := Nat.le_trans (subsUpto_length (fun ys => subsV_few hcount d (by omega) ys) xs j) (Nat.mul_le_mul_right 16777216 (show j ≤ 7 by omega))
            have hV := subsV_few hcount d (by omega) (xs ++ [(y : Int)])
            have hdn : n + 1 + d = size := by have := HD.out; omega
            have HYJ := Lib.hid hyj
            clear hown hrows hab hri hyj
            go_wp2_with (first | (go_at_call 24; go_must (refine (copyInts_any _ _ n c xs _ HRI.out HX.out (Nat.le_refl _) (by omega)).mono ?_); rintro e w1 ⟨v1, rfl, hown1, hb1⟩; rw [HX.out] at hown1; obtain ⟨A1, c1, rfl, hc1, hm1⟩ := own_form hown1; have HO1 := Lib.hid (hown1.alloc (.cells #[.int .i64 (y : Int)] 3)); have HC1 := Lib.hid (cellsIn_new w1 3 (.int .i64 (y : Int))); have HB1 := Lib.hid hb1; have hs1 := hb1.size; clear hown1 hb1) | (at_builtin; refine wpList_append_cells _ rfl (.tmp 36) (.tmp 38) _ rfl wr.heap.size 3 i0 _ 1 8 Try.underlying28 hi0 hz0 hz1 hz2 rfl (by omega) _ n _ rfl HO1.out (w1.heap.size + 1) (some ⟨w1.heap.size, 0, none⟩) 1 1 _ rfl HC1.out rfl (by simp [Value.oneCell']) (by simp only [maxLen]; omega) (by omega) (by simp; omega) ?_; intro v2 w2 hown2 hg2 hat2; have hb2 := pg (pa HB1.out) HO1.out (Nat.le_refl _) hg2; obtain ⟨A2, c2, rfl, hc2, hm2⟩ := own_form hown2; have HR2 := Lib.hid (intRow_of_own (xs := xs ++ [(y : Int)]) (by simpa using hown2)); have HB2 := Lib.hid hb2; have hs2 := hb2.size; clear hown2 hg2 hat2 hb2 hm2) | (go_at_call 125; go_must (refine (IH.out (xs ++ [(y : Int)]) A2 (n + 1) c2 w2 (by simp [HX.out]) (by omega) hc2 HR2.out (getD_snoc7 ⟨by omega, by omega⟩ HB.out)).mono ?_); rintro e w3 ⟨A3, c3, us3, rfl, hown3, hrow3, hb3⟩; have HC3 := Lib.hid (cellsIn_of_own hown3); have HO3 := Lib.hid (ownsRow_past (pt HB2.out hb3) HOwn.out); have HB3 := Lib.hid (pt HB2.out hb3); have H13 := Lib.hid hrow3.oneCell; have HL3 := Lib.hid (show us3.length = (subsV count d (xs ++ [(y : Int)])).length * 1 by rw [hrow3.1]; omega); have HR3 := Lib.hid hrow3; have hs3 := hb3.size; clear hown3 hrow3 hb3) | (at_builtin; go_must (refine wpList_append_cells _ rfl (.tmp 32) (.tmp 40) _ rfl w.heap.size 28 s0 _ 1 24 Try.underlying124 hs0 hy0 hy1 hy2 rfl (by omega) _ (subsUpto count d xs j).length _ rfl HO3.out w3.heap.size A3 _ c3 _ rfl HC3.out HL3.out H13.out (by simp only [maxLen]; omega) (by omega) (by omega) ?_); intro v4 w4 hown4 hg4 hat4; obtain ⟨A4, c4, rfl, hc4, hm4⟩ := own_form hown4))
            have HB4 := Lib.hid (pg (HAb.out.trans (HB3.out.mono hab1)) HO3.out (Nat.le_refl _) hg4)
            have HOwn4 := Lib.hid hown4
            have HRow4 := Lib.hid (((HRows.out.same (kept_below HB3.out)).append HR3.out).same (kept_rows HO3.out (by decide) hg4))
            clear hown4 hg4 hat4
            go_roundw
            case rel => exact ⟨y + 1, j + 1, A4, c4, us ++ us3, by go_num, by have := HYJ.out; omega, by rw [HG.out, List.length_append], by have := HYJ.out; omega, by rw [HG.out, List.length_append]; exact HOwn4.out, by rw [HG.out]; exact HRow4.out, HB4.out⟩
            case measure => simp [intOf]; omega
          · have hje : j = count - fr := by omega
            have HOwn := Lib.hid hown
            have HRows := Lib.hid hrows
            have HJ := Lib.hid hje
            clear hown hrows hri hje
            go_wp2
            go_ret
            rw [HFull.out, ← HJ.out]
            exact ⟨A', c', us, rfl, HOwn.out, HRows.out, hab⟩
    · have hfr4 := hfr2 (by omega)
      have HFr4 := Lib.hid hfr4
      have h1' : decide (0 < n) = false := decide_eq_false h1
      have h1z : ¬ (0 : Int) < (n : Int) := by omega
      clear hr hfr2 hfr3 hfr4
      go_enter Try.func125, Try.ntmps125
      go_wp2
      go_loopw [8, 9] (fun ov iv wr => ∃ (y j : Nat) (A' : Option Addr) (c' : Nat) (us : List Value), iv = .int .i64 (y : Int) ∧ y = fr + j ∧ ov = .slice A' (subsUpto count d xs j).length c' ∧ j ≤ count - fr ∧ wr.ownsRow w.heap.size 28 1 (.slice A' (subsUpto count d xs j).length c') (subsUpto count d xs j).length us ∧ RowsOf wr us (subsUpto count d xs j) ∧ Below w.heap.size w wr) (fun _ iv _ => count - (intOf iv).toNat)
      case atStart => exact ⟨fr, 0, none, 0, [], by rw [HFr4.out]; rfl, rfl, rfl, Nat.zero_le _, World.ownsRow_nil _ _ _ _, RowsOf.nil, pr⟩
      case round =>
        obtain ⟨y, j, A', c', us, rfl, hyj, rfl, hjc, hown, hrows, hab⟩ := hrel
        have hri := HR.out.same (kept_below hab)
        have HRI := Lib.hid hri.ints
        by_cases hlt : y < count
        · have HG := Lib.hid (show subsUpto count d xs (j + 1) = subsUpto count d xs j ++ subsV count d (xs ++ [(y : Int)]) by rw [subsUpto_succ, HFr.out, ← hyj])
          have HOwn := Lib.hid hown
          have HRows := Lib.hid hrows
          have hab1 := hab.size
          have HAb := Lib.hid hab
          have hU := Nat.le_trans (subsUpto_length (fun ys => subsV_few hcount d (by omega) ys) xs j) (Nat.mul_le_mul_right 16777216 (show j ≤ 7 by omega))
          have hV := subsV_few hcount d (by omega) (xs ++ [(y : Int)])
          have hdn : n + 1 + d = size := by have := HD.out; omega
          have HYJ := Lib.hid hyj
          clear hown hrows hab hri hyj
          go_wp2_with (first | (go_at_call 24; go_must (refine (copyInts_any _ _ n c xs _ HRI.out HX.out (Nat.le_refl _) (by omega)).mono ?_); rintro e w1 ⟨v1, rfl, hown1, hb1⟩; rw [HX.out] at hown1; obtain ⟨A1, c1, rfl, hc1, hm1⟩ := own_form hown1; have HO1 := Lib.hid (hown1.alloc (.cells #[.int .i64 (y : Int)] 3)); have HC1 := Lib.hid (cellsIn_new w1 3 (.int .i64 (y : Int))); have HB1 := Lib.hid hb1; have hs1 := hb1.size; clear hown1 hb1) | (at_builtin; refine wpList_append_cells _ rfl (.tmp 36) (.tmp 38) _ rfl wr.heap.size 3 i0 _ 1 8 Try.underlying28 hi0 hz0 hz1 hz2 rfl (by omega) _ n _ rfl HO1.out (w1.heap.size + 1) (some ⟨w1.heap.size, 0, none⟩) 1 1 _ rfl HC1.out rfl (by simp [Value.oneCell']) (by simp only [maxLen]; omega) (by omega) (by simp; omega) ?_; intro v2 w2 hown2 hg2 hat2; have hb2 := pg (pa HB1.out) HO1.out (Nat.le_refl _) hg2; obtain ⟨A2, c2, rfl, hc2, hm2⟩ := own_form hown2; have HR2 := Lib.hid (intRow_of_own (xs := xs ++ [(y : Int)]) (by simpa using hown2)); have HB2 := Lib.hid hb2; have hs2 := hb2.size; clear hown2 hg2 hat2 hb2 hm2) | (go_at_call 125; go_must (refine (IH.out (xs ++ [(y : Int)]) A2 (n + 1) c2 w2 (by simp [HX.out]) (by omega) hc2 HR2.out (getD_snoc7 ⟨by omega, by omega⟩ HB.out)).mono ?_); rintro e w3 ⟨A3, c3, us3, rfl, hown3, hrow3, hb3⟩; have HC3 := Lib.hid (cellsIn_of_own hown3); have HO3 := Lib.hid (ownsRow_past (pt HB2.out hb3) HOwn.out); have HB3 := Lib.hid (pt HB2.out hb3); have H13 := Lib.hid hrow3.oneCell; have HL3 := Lib.hid (show us3.length = (subsV count d (xs ++ [(y : Int)])).length * 1 by rw [hrow3.1]; omega); have HR3 := Lib.hid hrow3; have hs3 := hb3.size; clear hown3 hrow3 hb3) | (at_builtin; go_must (refine wpList_append_cells _ rfl (.tmp 32) (.tmp 40) _ rfl w.heap.size 28 s0 _ 1 24 Try.underlying124 hs0 hy0 hy1 hy2 rfl (by omega) _ (subsUpto count d xs j).length _ rfl HO3.out w3.heap.size A3 _ c3 _ rfl HC3.out HL3.out H13.out (by simp only [maxLen]; omega) (by omega) (by omega) ?_); intro v4 w4 hown4 hg4 hat4; obtain ⟨A4, c4, rfl, hc4, hm4⟩ := own_form hown4))
          have HB4 := Lib.hid (pg (HAb.out.trans (HB3.out.mono hab1)) HO3.out (Nat.le_refl _) hg4)
          have HOwn4 := Lib.hid hown4
          have HRow4 := Lib.hid (((HRows.out.same (kept_below HB3.out)).append HR3.out).same (kept_rows HO3.out (by decide) hg4))
          clear hown4 hg4 hat4
          go_roundw
          case rel => exact ⟨y + 1, j + 1, A4, c4, us ++ us3, by go_num, by have := HYJ.out; omega, by rw [HG.out, List.length_append], by have := HYJ.out; omega, by rw [HG.out, List.length_append]; exact HOwn4.out, by rw [HG.out]; exact HRow4.out, HB4.out⟩
          case measure => simp [intOf]; omega
        · have hje : j = count - fr := by omega
          have HOwn := Lib.hid hown
          have HRows := Lib.hid hrows
          have HJ := Lib.hid hje
          clear hown hrows hri hje
          go_wp2
          go_ret
          rw [HFull.out, ← HJ.out]
          exact ⟨A', c', us, rfl, HOwn.out, HRows.out, hab⟩

end Go.Proofs.Ytlgioldmjohhlaa
