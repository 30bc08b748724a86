/- Plain facts: the order in which all tasks of a valid plan come, each one after all on which it depends. -/
import Derived.Test.YtlgioldmjohhlaaMNeedLaw
namespace Go.Proofs.Ytlgioldmjohhlaa
open Go.RowKit

/-- A plan whose lists name its own tasks, and in which no task depends on itself. -/
def AcyOk (ts : List Task) : Prop := PlanOk ts ∧ ∀ i, i < ts.length → (needsV ts i).testBit i = false

/-- A task may come: it has not, and all on which it depends have. -/
def readyB (ts : List Task) (done i : Nat) : Bool := !done.testBit i && decide (needsV ts i &&& done = needsV ts i)
def passF (ts : List Task) : Nat → Nat → Nat → List Nat × Nat
  | 0, _, d => ([], d)
  | m + 1, i, d => if readyB ts d i then (i :: (passF ts m (i + 1) (d ||| 2 ^ i)).1, (passF ts m (i + 1) (d ||| 2 ^ i)).2) else passF ts m (i + 1) d
def orderF (ts : List Task) : Nat → Nat → List Nat
  | 0, _ => []
  | f + 1, d => if d = 2 ^ ts.length - 1 then [] else (passF ts ts.length 0 d).1 ++ orderF ts f (passF ts ts.length 0 d).2
def orderV (ts : List Task) : List Nat := orderF ts 130 0

theorem readyB_iff {ts : List Task} {done i : Nat} : readyB ts done i = true ↔ done.testBit i = false ∧ ∀ j, (needsV ts i).testBit j = true → done.testBit j = true := by
  unfold readyB
  simp only [Bool.and_eq_true, Bool.not_eq_true', decide_eq_true_eq]
  refine and_congr_right fun _ => ?_
  constructor
  · intro h j hj
    have := congrArg (fun n => n.testBit j) h
    simp only [Nat.testBit_and, hj, Bool.true_and] at this
    exact this
  · intro h
    apply Nat.eq_of_testBit_eq
    intro j
    rw [Nat.testBit_and]
    cases hj : (needsV ts i).testBit j with
    | true => rw [h j hj]; rfl
    | false => rfl

theorem pass_spec {ts : List Task} : ∀ (m i d : Nat), i + m = ts.length → d < 2 ^ ts.length → d ≤ (passF ts m i d).2 ∧ (passF ts m i d).2 < 2 ^ ts.length ∧ ((passF ts m i d).2 = d → ∀ k, i ≤ k → k < ts.length → readyB ts d k = false)
  | 0, i, d, hi, hd => ⟨Nat.le_refl _, hd, fun _ k h1 h2 => by omega⟩
  | m + 1, i, d, hi, hd => by
    cases hr : readyB ts d i with
    | true =>
      have hlt : d ||| 2 ^ i < 2 ^ ts.length := Nat.or_lt_two_pow hd (Nat.pow_lt_pow_right (by decide) (by omega))
      obtain ⟨h1, h2, _⟩ := pass_spec m (i + 1) (d ||| 2 ^ i) (by omega) hlt
      have hg := or_gt (readyB_iff.1 hr).1
      simp only [passF, hr, if_true]
      exact ⟨by omega, h2, fun e => by omega⟩
    | false =>
      obtain ⟨h1, h2, h3⟩ := pass_spec m (i + 1) d (by omega) hd
      simp only [passF, hr, Bool.false_eq_true, if_false]
      refine ⟨h1, h2, fun e k hk1 hk2 => ?_⟩
      by_cases e2 : k = i
      · rw [e2]; exact hr
      · exact h3 e k (by omega) hk2

theorem bit_full {n d : Nat} (hd : d < 2 ^ n) (h : ∀ i, i < n → d.testBit i = true) : d = 2 ^ n - 1 := by
  apply Nat.eq_of_testBit_eq
  intro i
  rw [Nat.testBit_two_pow_sub_one]
  by_cases hi : i < n
  · rw [h i hi]; simp [hi]
  · have : d < 2 ^ i := Nat.lt_of_lt_of_le hd (Nat.pow_le_pow_right (by decide) (by omega))
    rw [Nat.testBit_lt_two_pow this]; simp [hi]

/-- As long as not all have come, one may. -/
theorem some_ready {ts : List Task} (ha : AcyOk ts) {d : Nat} (hd : d < 2 ^ ts.length) (hne : d ≠ 2 ^ ts.length - 1) : ∃ i, i < ts.length ∧ readyB ts d i = true := by
  have hex : ∃ i, i < ts.length ∧ d.testBit i = false := by
    rcases Classical.em (∃ i, i < ts.length ∧ d.testBit i = false) with h | h
    · exact h
    · exfalso
      refine hne (bit_full hd fun i hi => ?_)
      cases hb : d.testBit i with
      | true => rfl
      | false => exact absurd ⟨i, hi, hb⟩ h
  -- one that has not come and whose bits are the least number
  have hmin : ∀ (b : Nat), ∀ i, i < ts.length → d.testBit i = false → needsV ts i < b → ∃ i, i < ts.length ∧ readyB ts d i = true := by
    intro b
    induction b with
    | zero => intro i _ _ h; omega
    | succ b ih =>
      intro i hi hdi hb
      cases hr : readyB ts d i with
      | true => exact ⟨i, hi, hr⟩
      | false =>
        have hj : ∃ j, (needsV ts i).testBit j = true ∧ d.testBit j = false := by
          rcases Classical.em (∃ j, (needsV ts i).testBit j = true ∧ d.testBit j = false) with h | h
          · exact h
          · exfalso
            have : readyB ts d i = true := readyB_iff.2 ⟨hdi, fun j hj => by
              cases hb : d.testBit j with
              | true => rfl
              | false => exact absurd ⟨j, hj, hb⟩ h⟩
            rw [hr] at this
            cases this
        obtain ⟨j, hj1, hj2⟩ := hj
        have hjn := needs_bound ha.1 hi j hj1
        have hsub := needs_sub ha.1 hi hj1
        -- needs j is a part of needs i without j
        have hle : needsV ts j ≤ needsV ts i := Nat.le_of_testBit hsub
        have hne2 : needsV ts j ≠ needsV ts i := fun e => by
          have h1 := ha.2 j hjn
          rw [e, hj1] at h1
          cases h1
        exact ih j hjn hj2 (by omega)
  obtain ⟨i, hi, hdi⟩ := hex
  exact hmin _ i hi hdi (Nat.lt_succ_self _)

theorem pass_gt {ts : List Task} (ha : AcyOk ts) {d : Nat} (hd : d < 2 ^ ts.length) (hne : d ≠ 2 ^ ts.length - 1) : d < (passF ts ts.length 0 d).2 := by
  obtain ⟨h1, _, h3⟩ := pass_spec ts.length 0 d (by omega) hd
  rcases Nat.lt_or_ge d (passF ts ts.length 0 d).2 with h | h
  · exact h
  · exfalso
    obtain ⟨i, hi, hr⟩ := some_ready ha hd hne
    have := h3 (by omega) i (Nat.zero_le _) hi
    rw [hr] at this
    cases this

end Go.Proofs.Ytlgioldmjohhlaa
