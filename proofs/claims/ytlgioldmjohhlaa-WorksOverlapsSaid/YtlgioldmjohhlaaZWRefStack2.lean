/- Contracts: the number of stacks where the numbers are refused; the specification's StacksOf and StackFor. -/
import Derived.Test.YtlgioldmjohhlaaZVRefStacks
namespace Go.Proofs.Ytlgioldmjohhlaa
open Go.RowKit

theorem stacksUpto_mem {count : Nat} {overlap : Int} {d : Nat} {xs zs : List Int} : ∀ k, zs ∈ stacksUpto count overlap d xs k → ∃ i : Nat, i < k ∧ (hasB xs (i : Int) || nearB xs overlap i) = false ∧ zs ∈ stacksV count overlap d (xs ++ [(i : Int)])
  | 0, h => by simp [stacksUpto] at h
  | k + 1, h => by
    rw [stacksUpto_succ, List.mem_append] at h
    rcases h with h | h
    · obtain ⟨i, hi, q⟩ := stacksUpto_mem k h
      exact ⟨i, by omega, q⟩
    · cases hh : hasB xs (k : Int) || nearB xs overlap k
      · rw [hh] at h
        exact ⟨k, by omega, hh, by simpa using h⟩
      · rw [hh] at h
        simp at h
theorem stacksV_len {count : Nat} {overlap : Int} : ∀ (d : Nat) (xs zs : List Int), zs ∈ stacksV count overlap d xs → zs.length = xs.length + d
  | 0, xs, zs, h => by
    simp only [stacksV] at h
    split at h
    · simp at h; subst h; omega
    · simp at h
  | d + 1, xs, zs, h => by
    obtain ⟨i, _, _, hz⟩ := stacksUpto_mem count (show zs ∈ stacksUpto count overlap d xs count from h)
    have := stacksV_len d _ zs hz
    simp at this
    omega
theorem stackForL_len {count : Nat} {overlap : Int} (h : count ≤ 8) : (stackForL count overlap).length ≤ 8 := by
  unfold stackForL
  split
  · simp
  · cases hs : stacksV count overlap count [] with
    | nil => simp
    | cons z l =>
      have := stacksV_len count [] z (by rw [hs]; simp)
      simp at this ⊢
      omega

/-- The first value of a row of rows. -/
theorem row_first {w : World} {base n c : Nat} {A : Option Addr} {us : List Value} {L : List (List Int)} (h : w.ownsRow base 28 1 (.slice A n c) n us) (hr : RowsOf w us L) (hl : 0 < L.length) :
    ∃ b off A2 c2, A = some ⟨b, off, none⟩ ∧ b < w.heap.size ∧ w.cell? ⟨b, off, none⟩ = some (.slice A2 (L.getD 0 []).length c2) ∧ IntsIn w.heap.size w A2 (L.getD 0 []) := by
  have hu : 0 < us.length := by rw [hr.1]; exact hl
  obtain ⟨A2, c2, h1, _, h3⟩ := hr.2 0 hl
  rcases cellsIn_of_own h with hx | ⟨b, off, hA, hb, hc⟩
  · rw [hx] at hu; simp at hu
  · have := hc 0 hu
    rw [Nat.add_zero, List.getElem?_eq_getElem hu] at this
    have e : us.getD 0 undef = us[0] := by simp [List.getD, hu]
    rw [e] at h1
    exact ⟨b, off, A2, c2, hA, hb, this.trans (by rw [h1]), h3.ints⟩

theorem stacksOf_err (count overlap : Int) (w : World) (h0 : stackE count overlap ≠ 0) :
    Calls Try.prog 26 #[.int .i64 count, .int .i64 overlap] w fun e w' => e = .returned (.tuple #[.int .i64 0, .int .i64 (stackE count overlap)]) ∧ Below w.heap.size w w' := by
  have h00 : (stackE count overlap == 0) = false := by simpa using h0
  have h01 : (stackE count overlap != 0) = true := by simpa using h0
  clear h0
  go_enter Try.func26, Try.ntmps26
  go_wp2_with (go_at_call 85; refine (stackErr_any _ _ _).mono ?_; rintro e w1 ⟨rfl, rfl⟩)
  go_ret2
  exact ⟨rfl, pr⟩

theorem refStacksOf_any (count : Nat) (overlap : Int) (w : World) (hcount : count ≤ 8) :
    Calls Try.prog 29 #[.int .i64 (count : Int), .int .i64 overlap] w fun e w' => e = .returned (.int .i64 ((stacksV count overlap count []).length : Int)) ∧ Below w.heap.size w w' := by
  go_enter Try.func29, Try.ntmps29
  go_wp2_with (go_at_call 93; refine (refStacks_any count overlap hcount count [] none 0 0 _ rfl (by omega) (Nat.le_refl _) (.inl rfl) (by simp)).mono ?_; rintro e w1 ⟨A1, c1, us, rfl, hown, hrows, hb⟩)
  go_ret
  exact ⟨rfl, hb⟩

set_option maxRecDepth 100000 in
theorem refStackFor_any (count : Nat) (overlap : Int) (w : World) (hcount : count ≤ 8) (h0 : stackE count overlap = 0) :
    Calls Try.prog 30 #[.int .i64 (count : Int), .int .i64 overlap] w fun e w' =>
      ∃ A c, e = .returned (.tuple #[.slice A (stackForL count overlap).length c, .bool (!(stacksV count overlap count []).isEmpty)]) ∧ IntsIn w'.heap.size w' A (stackForL count overlap) ∧ Below w.heap.size w w' := by
  have HL := Lib.hid (show stackForL count overlap = (stacksV count overlap count []).headD [] by unfold stackForL; rw [if_neg (by simp [h0])])
  clear h0
  have hc := refStacks_any count overlap hcount count [] none 0 0 w rfl (by omega) (Nat.le_refl _) (.inl rfl) (by simp)
  rw [HL.out]
  cases hs : stacksV count overlap count [] with
  | nil =>
    rw [hs] at hc
    go_enter Try.func30, Try.ntmps30
    go_wp2_with (go_at_call 93; refine hc.mono ?_; rintro e w1 ⟨A1, c1, us, rfl, hown, hrows, hb⟩)
    go_ret2
    exact ⟨none, 0, rfl, .inl rfl, hb⟩
  | cons z l =>
    rw [hs] at hc
    have hl : (0 : Int) < ((z :: l).length : Int) := by rw [List.length_cons]; omega
    have hl2 : (((z :: l).length : Int) == 0) = false := by
      have : ¬ ((z :: l).length : Int) = 0 := by rw [List.length_cons]; omega
      simpa using this
    have hl3 : 0 < (z :: l).length := by simp
    have HZ := Lib.hid (show (z :: l).getD 0 [] = z from rfl)
    have HH := Lib.hid (show (z :: l).headD [] = z from rfl)
    have HE := Lib.hid (show (z :: l).isEmpty = false from rfl)
    generalize z :: l = L at *
    go_enter Try.func30, Try.ntmps30
    go_wp2_with (go_at_call 93; refine hc.mono ?_; rintro e w1 ⟨A1, c1, us, rfl, hown, hrows, hb⟩; have HB := Lib.hid hb; obtain ⟨b, off, A2, c2, rfl, hbs, hcell, hints⟩ := row_first hown hrows hl3; rw [HZ.out] at hcell hints; have HI := Lib.hid hints; clear hown hrows hints hb)
    go_ret2
    rw [HH.out, HE.out]
    exact ⟨A2, c2, rfl, HI.out, HB.out⟩

end Go.Proofs.Ytlgioldmjohhlaa
