/- Plain facts: possible schedules; no possible schedule ends earlier than heads and tails say. -/
import Derived.Test.YtlgioldmjohhlaaR3HeadsLaw
import Derived.Test.YtlgioldmjohhlaaM6
import Derived.Test.YtlgioldmjohhlaaQDWorks
namespace Go.Proofs.Ytlgioldmjohhlaa
open Go.RowKit

/-- A possible schedule of a plan. -/
structure Feas (ts : List Task) (s : List Int) : Prop where
  len : s.length = ts.length
  rel : ∀ i, i < ts.length → (ts.getD i default).release ≤ s.getD i 0
  aft : ∀ i, i < ts.length → ∀ n ∈ (ts.getD i default).after, endAt ts s n.toNat ≤ s.getD i 0
  mac : ∀ i k, i < ts.length → k < i → (ts.getD k default).machine = (ts.getD i default).machine → endAt ts s k ≤ s.getD i 0 ∨ endAt ts s i ≤ s.getD k 0

def PosOk (ts : List Task) : Prop := ∀ i, i < ts.length → 1 ≤ (ts.getD i default).length

theorem startE_zero {ts : List Task} {ss : List Int} {i : Nat} : startE ts ss i = 0 ↔ (ts.getD i default).release ≤ ss.getD i 0 ∧ (∀ n ∈ (ts.getD i default).after, endAt ts ss n.toNat ≤ ss.getD i 0) ∧
    ∀ k, k < i → (ts.getD k default).machine = (ts.getD i default).machine → endAt ts ss k ≤ ss.getD i 0 ∨ endAt ts ss i ≤ ss.getD k 0 := by
  have hA : (!anyB (earlyB ts ss i) (afterOf ts i)) = true ↔ ∀ n ∈ (ts.getD i default).after, endAt ts ss n.toNat ≤ ss.getD i 0 := by
    unfold anyB earlyB afterOf
    rw [Bool.not_eq_true', List.any_eq_false]
    simp
  have hB : (!anyBusy ts ss i i) = true ↔ ∀ k, k < i → (ts.getD k default).machine = (ts.getD i default).machine → endAt ts ss k ≤ ss.getD i 0 ∨ endAt ts ss i ≤ ss.getD k 0 := by
    unfold anyBusy busyB
    rw [Bool.not_eq_true', List.any_eq_false]
    simp only [List.mem_range, Bool.and_eq_true, decide_eq_true_eq, not_and, Int.not_lt]
    constructor
    · intro h k hk hm
      rcases Int.lt_or_le (ss.getD k 0) (endAt ts ss i) with h1 | h1
      · exact .inl (h k hk hm h1)
      · exact .inr h1
    · intro h k hk hm h1
      rcases h k hk hm with h2 | h2
      · exact h2
      · omega
  unfold startE
  rw [← hA, ← hB]
  constructor
  · intro h
    obtain ⟨h1, h⟩ := firstV_zero.1 h
    obtain ⟨h2, h⟩ := firstV_zero.1 h
    obtain ⟨h3, _⟩ := firstV_zero.1 h
    exact ⟨by simpa using (unless_ne (by decide)).1 h1, (unless_ne (by decide)).1 h2, (unless_ne (by decide)).1 h3⟩
  · rintro ⟨h1, h2, h3⟩
    exact firstV_zero.2 ⟨(unless_ne (by decide)).2 (by simpa using h1), firstV_zero.2 ⟨(unless_ne (by decide)).2 h2, firstV_zero.2 ⟨(unless_ne (by decide)).2 h3, rfl⟩⟩⟩

theorem scan_all {f : Nat → Int} {n : Nat} : ∀ (d k : Nat), n - k = d → (∀ i, k ≤ i → i < n → f i = 0) → scan f n k = (0, 0)
  | 0, k, hd, _ => scan_end (by omega)
  | d + 1, k, hd, h => by
    rw [scan_step (by omega), if_pos (h k (Nat.le_refl _) (by omega))]
    exact scan_all d (k + 1) (by omega) fun i h1 h2 => h i (by omega) h2

theorem feas_of_sched {ts : List Task} {ss : List Int} (h : (schedV ts ss).2 = 0) : Feas ts ss ∧ ∀ j, j < ss.length → 0 ≤ ss.getD j 0 ∧ ss.getD j 0 ≤ 700000 := by
  unfold schedV at h
  by_cases hn : ss.length = ts.length
  · rw [if_neg (by simpa using hn)] at h
    by_cases h2 : (scan (rngE ss) ss.length 0).2 = 0
    · rw [if_neg (by simpa using h2)] at h
      have h3 := fun i (hi : i < ts.length) => startE_zero.1 (scan_zero h i (by omega))
      exact ⟨⟨hn, fun i hi => (h3 i hi).1, fun i hi => (h3 i hi).2.1, fun i k hi hk => (h3 i hi).2.2 k hk⟩, rng_ok h2⟩
    · rw [if_pos h2] at h
      exact absurd h h2
  · rw [if_pos hn] at h
    exact absurd h (by decide)

theorem sched_of_feas {ts : List Task} {ss : List Int} (h : Feas ts ss) (hr : ∀ j, j < ss.length → 0 ≤ ss.getD j 0 ∧ ss.getD j 0 ≤ 700000) : schedV ts ss = (0, 0) := by
  unfold schedV
  have h1 : scan (rngE ss) ss.length 0 = (0, 0) := scan_all _ 0 rfl fun i _ hi => by
    have := hr i hi
    unfold rngE
    exact (unless_ne (by decide)).2 (by unfold withinB; rw [decide_eq_true this.1, decide_eq_true this.2]; rfl)
  rw [if_neg (by simpa using h.len), if_neg (by rw [h1]; simp)]
  refine scan_all _ 0 rfl fun i _ hi => startE_zero.2 ?_
  have hl := h.len
  exact ⟨h.rel i (by omega), h.aft i (by omega), fun k hk => h.mac i k (by omega) hk⟩

/-! The end of a schedule. -/
theorem mx_le {a b U : Int} : mx a b ≤ U ↔ a ≤ U ∧ b ≤ U := by
  unfold mx
  split <;> omega
theorem lastR_le {ts : List Task} {xs : List Int} {U : Int} : ∀ (k i : Nat) (o : Int), lastR ts xs k i o ≤ U ↔ o ≤ U ∧ ∀ j, i ≤ j → j < i + k → endAt ts xs j ≤ U
  | 0, i, o => by
    simp only [lastR]
    exact ⟨fun h => ⟨h, fun j h1 h2 => by omega⟩, fun h => h.1⟩
  | k + 1, i, o => by
    rw [lastR, lastR_le k (i + 1), mx_le]
    constructor
    · rintro ⟨⟨h1, h2⟩, h3⟩
      refine ⟨h1, fun j h4 h5 => ?_⟩
      by_cases e : j = i
      · subst e; exact h2
      · exact h3 j (by omega) (by omega)
    · rintro ⟨h1, h2⟩
      exact ⟨⟨h1, h2 i (Nat.le_refl _) (by omega)⟩, fun j h4 h5 => h2 j (by omega) (by omega)⟩
theorem lastV_le {ts : List Task} {xs : List Int} {U : Int} : lastV ts xs ≤ U ↔ 0 ≤ U ∧ ∀ j, j < xs.length → endAt ts xs j ≤ U := by
  unfold lastV
  rw [lastR_le]
  exact ⟨fun h => ⟨h.1, fun j hj => h.2 j (Nat.zero_le _) (by omega)⟩, fun h => ⟨h.1, fun j _ hj => h.2 j (by omega)⟩⟩
theorem lastV_ge {ts : List Task} {xs : List Int} {j : Nat} (hj : j < xs.length) : endAt ts xs j ≤ lastV ts xs := (lastV_le.1 (Int.le_refl _)).2 j hj
theorem lastV_nn {ts : List Task} {xs : List Int} : 0 ≤ lastV ts xs := (lastV_le.1 (Int.le_refl _)).1

/-! Tails and heads. -/
theorem feas_tail {ts : List Task} (ha : AcyOk ts) (hp : PosOk ts) {s : List Int} (h : Feas ts s) : ∀ (f j : Nat), j < ts.length → (lastV ts s - s.getD j 0).toNat < f → endAt ts s j + (tailsV ts).getD j 0 ≤ lastV ts s
  | 0, _, _, hf => by omega
  | f + 1, j, hj, hf => by
    have hlen := h.len
    have h0 := lastV_ge (ts := ts) (xs := s) (j := j) (by omega)
    rcases (tails_facts ha).2.2.1 j hj with h1 | ⟨k, hk, hk2, hk3⟩
    · omega
    · have h2 := h.aft k hk (j : Int) hk2
      rw [Int.toNat_natCast] at h2
      have h3 := lastV_ge (ts := ts) (xs := s) (j := k) (by omega)
      have h4 := hp j hj
      have h5 := hp k hk
      unfold endAt at h0 h2 h3 ⊢
      have h6 := feas_tail ha hp h f k hk (by omega)
      unfold endAt at h6
      omega
theorem feas_tails {ts : List Task} (ha : AcyOk ts) (hp : PosOk ts) {s : List Int} (h : Feas ts s) {j : Nat} (hj : j < ts.length) : endAt ts s j + (tailsV ts).getD j 0 ≤ lastV ts s := feas_tail ha hp h _ j hj (Nat.lt_succ_self _)

theorem feas_nn {ts : List Task} (hl : LenOk ts) {s : List Int} (h : Feas ts s) {j : Nat} (hj : j < ts.length) : 0 ≤ s.getD j 0 := by
  have := h.rel j hj
  have := hl j hj
  omega
theorem feas_head {ts : List Task} (ha : AcyOk ts) (hl : LenOk ts) (hp : PosOk ts) {s : List Int} (h : Feas ts s) : ∀ (f j : Nat), j < ts.length → (s.getD j 0).toNat < f → (headsV ts).getD j 0 ≤ s.getD j 0
  | 0, _, _, hf => by omega
  | f + 1, j, hj, hf => by
    rw [← heads_fix ha hj]
    refine (maxF_le _ _ _).2 ⟨h.rel j hj, fun n hn => ?_⟩
    obtain ⟨h1, h2⟩ := after_nat ha.1 hj hn
    have h3 := h.aft j hj n hn
    have h4 := hp _ h1
    have h5 := feas_nn hl h h1
    unfold endAt at h3
    have h6 := feas_head ha hl hp h f n.toNat h1 (by omega)
    unfold lenAt
    omega
theorem feas_heads {ts : List Task} (ha : AcyOk ts) (hl : LenOk ts) (hp : PosOk ts) {s : List Int} (h : Feas ts s) {j : Nat} (hj : j < ts.length) : (headsV ts).getD j 0 ≤ s.getD j 0 := feas_head ha hl hp h _ j hj (Nat.lt_succ_self _)

end Go.Proofs.Ytlgioldmjohhlaa
