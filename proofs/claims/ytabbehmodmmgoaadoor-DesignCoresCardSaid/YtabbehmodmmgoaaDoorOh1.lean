/- Plain facts: the root by bits; all sets of so many numbers, as the specification lists them. No program is in sight.
Contracts: base.Root, HeightOf, AreaOf (the specification of chapter 2). Printed by a program (gen_d4root.py). -/
import Derived.Test.YtabbehmodmmgoaaDoorOd1
import Derived.Test.YtabbehmodmmgoaaDoorOd8

section
namespace Go.Proofs.YtabbehmodmmgoaaDoor
/-- What holds before each bit: r is a part of the root, the bit is half of a power of two. -/
def RootI (n : Int) (k : Nat) (r b : Int) : Prop := k ≤ 31 ∧ 0 ≤ r ∧ r * r ≤ n ∧ b = 2 ^ k / 2 ∧ n < (r + 2 ^ k) * (r + 2 ^ k)
theorem root_start {n : Int} (h0 : 0 ≤ n) (h1 : n ≤ 4000000) : RootI n 31 0 1073741824 := ⟨by decide, by decide, by omega, by decide, by omega⟩
theorem pow_pos2 (k : Nat) : (0 : Int) < 2 ^ k := Int.pow_pos (by decide)
theorem pow_le2 : ∀ {k m : Nat}, k ≤ m → (2 : Int) ^ k ≤ 2 ^ m := fun {k m} h => by exact_mod_cast Nat.pow_le_pow_right (n := 2) (by decide) h
theorem root_pred {n r b : Int} {k : Nat} (h : RootI n k r b) (hb : 0 < b) : ∃ j, k = j + 1 ∧ b = 2 ^ j := by
  obtain ⟨h1, h2, h3, h4, h5⟩ := h
  rcases k with _ | j
  · exfalso; rw [h4] at hb; exact absurd hb (by decide)
  · refine ⟨j, rfl, ?_⟩
    rw [h4, Int.pow_succ]
    omega
theorem root_yes {n r b : Int} {k : Nat} (h : RootI n k r b) (hb : 0 < b) (hy : (r + b) * (r + b) ≤ n) : RootI n (k - 1) (r + b) (b.tdiv 2) := by
  obtain ⟨j, rfl, hj⟩ := root_pred h hb
  obtain ⟨h1, h2, h3, h4, h5⟩ := h
  refine ⟨by omega, by omega, hy, ?_, ?_⟩
  · rw [Nat.add_sub_cancel, ← hj, Int.tdiv_eq_ediv_of_nonneg (by omega)]
  · rw [Nat.add_sub_cancel, ← hj]
    rw [Int.pow_succ, ← hj] at h5
    rw [show r + b + b = r + b * 2 by omega]
    exact h5
theorem root_no {n r b : Int} {k : Nat} (h : RootI n k r b) (hb : 0 < b) (hy : ¬ (r + b) * (r + b) ≤ n) : RootI n (k - 1) r (b.tdiv 2) := by
  obtain ⟨j, rfl, hj⟩ := root_pred h hb
  obtain ⟨h1, h2, h3, h4, h5⟩ := h
  refine ⟨by omega, h2, h3, ?_, ?_⟩
  · rw [Nat.add_sub_cancel, ← hj, Int.tdiv_eq_ediv_of_nonneg (by omega)]
  · rw [Nat.add_sub_cancel, ← hj]
    omega
theorem root_end {n r b : Int} {k : Nat} (h : RootI n k r b) (hb : ¬ 0 < b) : 0 ≤ r ∧ r * r ≤ n ∧ n < (r + 1) * (r + 1) := by
  obtain ⟨h1, h2, h3, h4, h5⟩ := h
  rcases k with _ | j
  · exact ⟨h2, h3, h5⟩
  · exfalso
    rw [Int.pow_succ] at h4
    have := pow_pos2 j
    omega
theorem rootI_bd {n r b : Int} {k : Nat} (h : RootI n k r b) (hn : n ≤ 4000000) : (0 ≤ r ∧ r ≤ 2000) ∧ (0 ≤ b ∧ b ≤ 1073741824) ∧ (0 ≤ (r + b) * (r + b) ∧ (r + b) * (r + b) ≤ 1152925902670135824) := by
  obtain ⟨h1, h2, h3, h4, h5⟩ := h
  have hp := pow_le2 h1
  have hp0 := pow_pos2 k
  have hr : r ≤ 2000 := by
    rcases Int.lt_or_le 2000 r with h6 | h6
    · have := Int.mul_le_mul (a := 2001) (b := 2001) (c := r) (d := r) (by omega) (by omega) (by omega) (by omega)
      omega
    · exact h6
  have hb : 0 ≤ b ∧ b ≤ 1073741824 := by
    have : (2 : Int) ^ 31 = 2147483648 := by decide
    omega
  refine ⟨⟨h2, hr⟩, hb, Int.mul_nonneg (by omega) (by omega), ?_⟩
  have := Int.mul_le_mul (a := r + b) (b := r + b) (c := 1073743824) (d := 1073743824) (by omega) (by omega) (by omega) (by omega)
  omega

/-- The first number that may follow a set. -/
def nextV (xs : List Int) : Nat := if xs.length = 0 then 0 else (xs.getD (xs.length - 1) 0).toNat + 1
theorem nextV_snoc (xs : List Int) (m : Nat) : nextV (xs ++ [(m : Int)]) = m + 1 := by
  unfold nextV
  rw [if_neg (by simp)]
  simp [List.getD]
/-- All sets of numbers below count that begin with xs and have d more, each one ascending. -/
def subsV (count : Nat) : Nat → List Int → List (List Int)
  | 0, xs => [xs]
  | d + 1, xs => ((List.range (count - nextV xs)).map fun j => subsV count d (xs ++ [((nextV xs + j : Nat) : Int)])).flatten
def subsUpto (count d : Nat) (xs : List Int) (k : Nat) : List (List Int) := ((List.range k).map fun j => subsV count d (xs ++ [((nextV xs + j : Nat) : Int)])).flatten
theorem subsUpto_succ (count d : Nat) (xs : List Int) (k : Nat) : subsUpto count d xs (k + 1) = subsUpto count d xs k ++ subsV count d (xs ++ [((nextV xs + k : Nat) : Int)]) := by
  unfold subsUpto
  rw [List.range_succ, List.map_append, List.flatten_append]
  simp
theorem subsUpto_length {count d M : Nat} (h : ∀ xs, (subsV count d xs).length ≤ M) (xs : List Int) : ∀ k, (subsUpto count d xs k).length ≤ k * M
  | 0 => by simp [subsUpto]
  | k + 1 => by
    rw [subsUpto_succ, List.length_append, Nat.succ_mul]
    have h1 := subsUpto_length h xs k
    have h2 := h (xs ++ [((nextV xs + k : Nat) : Int)])
    omega
theorem subsV_length (count : Nat) : ∀ (d : Nat) (xs : List Int), (subsV count d xs).length ≤ count ^ d
  | 0, xs => by simp [subsV]
  | d + 1, xs => by
    have h := subsUpto_length (subsV_length count d) xs (count - nextV xs)
    rw [Nat.pow_succ, Nat.mul_comm]
    exact Nat.le_trans h (Nat.mul_le_mul_right _ (Nat.sub_le _ _))
theorem subsV_few {count : Nat} (h : count ≤ 8) (d : Nat) (hd : d ≤ 8) (xs : List Int) : (subsV count d xs).length ≤ 16777216 := by
  refine Nat.le_trans (subsV_length count d xs) (Nat.le_trans (Nat.pow_le_pow_left h d) ?_)
  exact Nat.le_trans (Nat.pow_le_pow_right (by omega) hd) (by decide)
theorem getD_snoc7 {xs : List Int} {y K : Int} (hy : 0 ≤ y ∧ y < K) (h : ∀ j, j < xs.length → 0 ≤ xs.getD j 0 ∧ xs.getD j 0 < K) : ∀ j, j < (xs ++ [y]).length → 0 ≤ (xs ++ [y]).getD j 0 ∧ (xs ++ [y]).getD j 0 < K := fun j hj => by
  rw [List.length_append, List.length_singleton] at hj
  by_cases e : j < xs.length
  · have : (xs ++ [y]).getD j 0 = xs.getD j 0 := by simp [List.getD, List.getElem?_append_left e]
    rw [this]; exact h j e
  · obtain rfl : j = xs.length := by omega
    have : (xs ++ [y]).getD xs.length 0 = y := by simp [List.getD]
    rw [this]; exact hy
/-- They are all ascending lists, behind what they begin with. -/
theorem subs_all (count : Nat) : ∀ (d : Nat) (xs : List Int), subsV count d xs = (allS count d (nextV xs)).map (xs ++ ·)
  | 0, xs => by simp [subsV, allS]
  | d + 1, xs => by
    rw [subsV, allS, List.map_flatMap, List.range'_eq_map_range, List.flatMap_map, List.flatMap_def]
    congr 1
    refine List.map_congr_left fun j _ => ?_
    rw [subs_all count d, nextV_snoc, List.map_map]
    refine List.map_congr_left fun l _ => ?_
    simp
theorem subs_nil (count d : Nat) : subsV count d [] = allS count d 0 := by
  rw [subs_all]
  simp [nextV]
end Go.Proofs.YtabbehmodmmgoaaDoor
end

section
namespace Go.Proofs.YtabbehmodmmgoaaDoor
open Go.RowKit

set_option maxHeartbeats 1000000 in
theorem root_any (n : Int) (h0 : 0 ≤ n) (h1 : n ≤ 4000000) (w : World) :
    Calls Tryd.prog 46 #[.int .i64 n] w fun e w' => (∃ r : Int, e = .returned (.int .i64 r) ∧ 0 ≤ r ∧ r * r ≤ n ∧ n < (r + 1) * (r + 1)) ∧ w = w' := by
  go_enter Tryd.func46, Tryd.ntmps46
  go_wp2
  go_loop [3, 4] (fun rv bv => ∃ (k : Nat) (r b : Int), rv = .int .i64 r ∧ bv = .int .i64 b ∧ RootI n k r b) (fun _ bv => (intOf bv).toNat)
  case atStart => exact ⟨31, 0, 1073741824, rfl, rfl, root_start h0 h1⟩
  case round =>
    obtain ⟨k, r, b, rfl, rfl, hI⟩ := hrel
    have HI := Lib.hid hI
    obtain ⟨q1, q2, q3⟩ := rootI_bd hI h1
    clear hI
    have t0 : b.tdiv 2 = b / 2 := Int.tdiv_eq_ediv_of_nonneg (by omega)
    have t1 : wrap64 (r + b) = r + b := w64 (by omega)
    have t2 : wrap64 ((r + b) * (r + b)) = (r + b) * (r + b) := w64 (by omega)
    have t3 : wrap64 (b.tdiv 2) = b.tdiv 2 := w64 (by omega)
    have t4 : IntKind.i64.wrap (b.tdiv 2) = b.tdiv 2 := IntWalk.i64_in _ (by omega)
    by_cases hb : 0 < b
    · by_cases hy : (r + b) * (r + b) ≤ n
      · have hn2 := root_yes HI.out hb hy
        rw [t0] at hn2
        have HN := Lib.hid hn2
        clear hn2
        go_wp2
        go_round
        case rel => exact ⟨k - 1, r + b, b / 2, by go_num, by go_num, HN.out⟩
        case measure => simp [intOf]; omega
      · have hn2 := root_no HI.out hb hy
        rw [t0] at hn2
        have HN := Lib.hid hn2
        clear hn2
        go_wp2
        go_round
        case rel => exact ⟨k - 1, r, b / 2, by go_num, by go_num, HN.out⟩
        case measure => simp [intOf]; omega
    · have HE := Lib.hid (root_end HI.out hb)
      clear t0 t1 t2 t3 t4
      go_wp2
      go_ret
      exact ⟨⟨r, rfl, HE.out⟩, rfl⟩

theorem refHeightOf_any (d v : Int) (h1 : 1 ≤ v) (h2 : v ≤ d) (h3 : d ≤ 2000) (w : World) :
    Calls Tryd.prog 19 #[.int .i64 d, .int .i64 v] w fun e w' => e = .returned (.int .i64 (hgt d v)) ∧ w = w' := by
  have hd := sq_bd (n := d) (m := 2000) (by omega) h3
  have hv := sq_bd (n := v) (m := d) (by omega) h2
  have HR := Lib.hid (root_any (d * d - v * v) (by omega) (by omega))
  have HO := Lib.hid (fun r => hgt_of (d := d) (w := v) (h := r) (by omega) h2)
  have t1 : wrap64 (d * d) = d * d := w64 (by omega)
  have t2 : wrap64 (v * v) = v * v := w64 (by omega)
  have t3 : wrap64 (d * d - v * v) = d * d - v * v := w64 (by omega)
  go_enter Tryd.func19, Tryd.ntmps19
  go_wp2_with (go_at_call 46; refine (HR.out _).mono ?_; rintro e w' ⟨⟨r, rfl, r0, r1, r2⟩, rfl⟩)
  go_ret
  exact ⟨ret_int (HO.out r r0 r1 r2).symm, rfl⟩

set_option maxHeartbeats 2000000 in
set_option maxRecDepth 100000 in
theorem refAreaOf_any (B : Nat) (d : Int) (ws : List Int) (A : Option Addr) (n c : Nat) (w : World) (hr : IntsIn B w A ws) (hn : ws.length = n) (hm : n ≤ 1000) (hd : 1 ≤ d ∧ d ≤ 2000) (hw : WidthsOk d ws) :
    Calls Tryd.prog 20 #[.int .i64 d, .slice A n c] w fun e w' => e = .returned (.int .i64 (areaD d ws)) ∧ w = w' := by
  subst hn
  have HW := Lib.hid hw
  have HD := Lib.hid hd
  clear hw hd
  go_enter Tryd.func20, Tryd.ntmps20
  go_wp2
  go_loop [5, 6, 7] (fun s l i => ∃ k : Nat, k ≤ ws.length ∧ i = .int .i64 (k : Int) ∧ s = .int .i64 (areaD d (ws.take k)) ∧ l = .int .i64 (lastH d 0 (ws.take k))) (fun _ _ i => ws.length - (intOf i).toNat)
  case atStart => exact ⟨0, Nat.zero_le _, rfl, rfl, rfl⟩
  case round =>
    obtain ⟨k, hk, rfl, rfl, rfl⟩ := hrel
    by_cases hlt : k < ws.length
    · obtain ⟨b, off, rfl, hb, hct⟩ := hr.at_ hlt
      have d0 := hct k hlt
      have hm2 := HW.out.mem _ (show ws.getD k 0 ∈ ws by simp [List.getD, hlt])
      have HH := Lib.hid (fun W => refHeightOf_any d _ hm2.1 hm2.2 HD.out.2 W)
      have hl := lastH_bd HD.out.2 (HW.out.take k)
      have ha := area_bd HD.out.1 (HW.out.take k)
      have hg := (hgt_spec (d := d) (w := ws.getD k 0) (Int.le_trans (by decide) hm2.1) hm2.2).1
      have hg2 := hgt_lt hm2.1 hm2.2
      have hD := HD.out
      have hp := mulw_bd (a := ws.getD k 0) (b := hgt d (ws.getD k 0) - lastH d 0 (ws.take k)) (by omega) (by omega)
      have hdd := sq_bd (show (0 : Int) ≤ d by omega) hD.2
      have HA := Lib.hid (show areaD d (ws.take (k + 1)) = areaD d (ws.take k) + ws.getD k 0 * (hgt d (ws.getD k 0) - lastH d 0 (ws.take k)) by rw [take_snoc0 hlt]; exact areaF_snoc _ _ _ _)
      have HLs := Lib.hid (show lastH d 0 (ws.take (k + 1)) = hgt d (ws.getD k 0) by rw [take_snoc0 hlt, lastH_snoc])
      clear hct hr
      generalize ws.getD k 0 = x at *
      generalize hgt d x = h at *
      generalize lastH d 0 (ws.take k) = l at *
      generalize areaD d (ws.take k) = S at *
      have b1 : -2000 ≤ h - l ∧ h - l ≤ 2000 := by omega
      have b2 : 0 ≤ S ∧ S ≤ 4000000 := by omega
      have q1 : wrap64 (h - l) = h - l := w64 (by omega)
      have q2 : wrap64 (x * (h - l)) = x * (h - l) := w64 (by omega)
      have q3 : wrap64 (S + x * (h - l)) = S + x * (h - l) := w64 (by omega)
      clear hp hdd ha hg hg2 hl hD hm2 b1 b2
      go_wp2_with (first
        | (go_at_call 19; refine (HH.out _).mono ?_; rintro e w' ⟨rfl, rfl⟩))
      go_round
      case rel => exact ⟨k + 1, by omega, by go_num, by rw [HA.out, q3], by rw [HLs.out]⟩
      case measure => simp [intOf]; omega
    · obtain rfl : k = ws.length := by omega
      have HT := Lib.hid (show ws.take ws.length = ws from List.take_length)
      go_wp2
      go_ret
      exact ⟨ret_int (by first | rfl | rw [HT.out]), rfl⟩

end Go.Proofs.YtabbehmodmmgoaaDoor
end
