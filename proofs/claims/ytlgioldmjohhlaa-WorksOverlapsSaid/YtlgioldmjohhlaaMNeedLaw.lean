/- Plain facts: the tasks on which a task depends are the least set that contains its predecessors and theirs. -/
import Derived.Test.YtlgioldmjohhlaaLOpen
namespace Go.Proofs.Ytlgioldmjohhlaa
open Go.RowKit

theorem pushAll_bits : ∀ (l : List Int) (K : Nat) (S : List Nat), (∀ x ∈ l, 0 ≤ x) → ∀ j : Nat, (pushAll K S l).1.testBit j = true ↔ K.testBit j = true ∨ (j : Int) ∈ l
  | [], K, S, _, j => by simp [pushAll]
  | x :: l, K, S, hl, j => by
    have hx := hl x List.mem_cons_self
    have hl' : ∀ z ∈ l, 0 ≤ z := fun z hz => hl z (List.mem_cons_of_mem _ hz)
    have hjx : (j : Int) = x ↔ x.toNat = j := by omega
    cases ht : K.testBit x.toNat with
    | true =>
      simp only [pushAll, ht, if_true]
      rw [pushAll_bits l K S hl' j, List.mem_cons, hjx]
      constructor
      · rintro (h | h)
        · exact .inl h
        · exact .inr (.inr h)
      · rintro (h | h | h)
        · exact .inl h
        · rw [← h]; exact .inl ht
        · exact .inr h
    | false =>
      simp only [pushAll, ht, Bool.false_eq_true, if_false]
      rw [pushAll_bits l _ _ hl' j, List.mem_cons, hjx, Nat.testBit_or, Nat.testBit_two_pow]
      simp only [Bool.or_eq_true, decide_eq_true_eq]
      constructor
      · rintro ((h | h) | h)
        · exact .inl h
        · exact .inr (.inl h)
        · exact .inr (.inr h)
      · rintro (h | h | h)
        · exact .inl (.inl h)
        · exact .inl (.inr h)
        · exact .inr h

theorem pushAll_stack : ∀ (l : List Int) (K : Nat) (S : List Nat), (∀ x ∈ l, 0 ≤ x) →
    (∀ y ∈ S, y ∈ (pushAll K S l).2) ∧ (∀ j : Nat, (j : Int) ∈ l → K.testBit j = false → j ∈ (pushAll K S l).2)
  | [], K, S, _ => ⟨fun y hy => hy, fun j hj => by cases hj⟩
  | x :: l, K, S, hl => by
    have hx := hl x List.mem_cons_self
    have hl' : ∀ z ∈ l, 0 ≤ z := fun z hz => hl z (List.mem_cons_of_mem _ hz)
    cases ht : K.testBit x.toNat with
    | true =>
      obtain ⟨h1, h2⟩ := pushAll_stack l K S hl'
      simp only [pushAll, ht, if_true]
      refine ⟨h1, fun j hj hb => ?_⟩
      rcases List.mem_cons.1 hj with h | h
      · rw [show x.toNat = j by omega, hb] at ht; cases ht
      · exact h2 j h hb
    | false =>
      obtain ⟨h1, h2⟩ := pushAll_stack l (K ||| 2 ^ x.toNat) (S ++ [x.toNat]) hl'
      simp only [pushAll, ht, Bool.false_eq_true, if_false]
      refine ⟨fun y hy => h1 y (List.mem_append_left _ hy), fun j hj hb => ?_⟩
      by_cases e : j = x.toNat
      · rw [e]; exact h1 _ (by simp)
      · rcases List.mem_cons.1 hj with h | h
        · omega
        · refine h2 j h ?_
          rw [Nat.testBit_or, Nat.testBit_two_pow, hb]
          simp
          omega

theorem needsRun_end {ts : List Task} (hp : PlanOk ts) {Inv : Nat → List Nat → Prop}
    (hstep : ∀ K S x, x < ts.length → Inv K (S ++ [x]) → Inv (pushAll K S (ts.getD x default).after).1 (pushAll K S (ts.getD x default).after).2) :
    ∀ (f K : Nat) (S : List Nat), K < 128 → (∀ x ∈ S, x < ts.length) → (127 - K) * 10 + S.length ≤ f → Inv K S → Inv (needsRun ts f K S) []
  | 0, K, S, hK, _, hf, hI => by
    have : S = [] := List.eq_nil_of_length_eq_zero (by omega)
    subst this
    exact hI
  | f + 1, K, S, hK, hS, hf, hI => by
    rcases List.eq_nil_or_concat S with rfl | ⟨S0, x, rfl⟩
    · exact hI
    · have hx : x < ts.length := hS x (by simp)
      have h7 := hp.1
      have ha := after_in hp hx
      have ha7 := (hp.2 x hx).1
      simp only [List.concat_eq_append] at *
      obtain ⟨p1, p2, p3, p4, p5⟩ := pushAll_spec (ts.getD x default).after K S0 hK (fun z hz => by have := ha z hz; omega)
      have hI2 := hstep K S0 x hx hI
      simp only [needsRun, List.getLast?_concat, List.dropLast_concat]
      refine needsRun_end hp hstep f _ _ p2 (fun z hz => ?_) ?_ hI2
      · rcases p5 z hz with h' | h'
        · exact hS z (by simp [h'])
        · have := ha _ h'; omega
      · simp only [List.length_append, List.length_cons, List.length_nil] at hf
        by_cases e : (pushAll K S0 (ts.getD x default).after).1 = K
        · have := p4 e; rw [e]; omega
        · omega

/-- What a task depends on: its predecessors, theirs, and nothing else. -/
theorem needs_closed {ts : List Task} (hp : PlanOk ts) {i : Nat} (hi : i < ts.length) :
    (∀ x : Nat, (x : Int) ∈ (ts.getD i default).after → (needsV ts i).testBit x = true) ∧
    (∀ k, k < ts.length → (needsV ts i).testBit k = true → ∀ x : Nat, (x : Int) ∈ (ts.getD k default).after → (needsV ts i).testBit x = true) := by
  have H := needsRun_end hp (Inv := fun K S => ∀ y, y < ts.length → (y = i ∨ K.testBit y = true) → y ∈ S ∨ ∀ x : Nat, (x : Int) ∈ (ts.getD y default).after → K.testBit x = true)
    (fun K S x hx hI y hy hyk => by
      have ha : ∀ z ∈ (ts.getD x default).after, 0 ≤ z := fun z hz => (after_in hp hx z hz).1
      obtain ⟨s1, s2⟩ := pushAll_stack (ts.getD x default).after K S ha
      have hb := pushAll_bits (ts.getD x default).after K S ha
      have old : (y = i ∨ K.testBit y = true) → y ∈ (pushAll K S (ts.getD x default).after).2 ∨ ∀ z : Nat, (z : Int) ∈ (ts.getD y default).after → (pushAll K S (ts.getD x default).after).1.testBit z = true := fun h => by
        rcases hI y hy h with h1 | h1
        · rcases List.mem_append.1 h1 with h2 | h2
          · exact .inl (s1 y h2)
          · obtain rfl : y = x := by simpa using h2
            exact .inr fun z hz => (hb z).2 (.inr hz)
        · exact .inr fun z hz => (hb z).2 (.inl (h1 z hz))
      rcases hyk with h | h
      · exact old (.inl h)
      · rcases (hb y).1 h with h1 | h1
        · exact old (.inr h1)
        · cases hk : K.testBit y with
          | true => exact old (.inr hk)
          | false => exact .inl (s2 y h1 hk))
    1300 0 [i] (by decide) (by simpa using hi) (by simp) (fun y hy h => by
      rcases h with h | h
      · exact .inl (by simp [h])
      · simp at h)
  refine ⟨fun x hx => ?_, fun k hk hb x hx => ?_⟩
  · rcases H i hi (.inl rfl) with h | h
    · cases h
    · exact h x hx
  · rcases H k hk (.inr hb) with h | h
    · cases h
    · exact h x hx

theorem needs_least {ts : List Task} (hp : PlanOk ts) {i : Nat} (hi : i < ts.length) (Q : Nat → Prop) (h0 : ∀ x : Nat, (x : Int) ∈ (ts.getD i default).after → Q x)
    (h1 : ∀ k, k < ts.length → Q k → ∀ x : Nat, (x : Int) ∈ (ts.getD k default).after → Q x) : ∀ j, (needsV ts i).testBit j = true → Q j := by
  have H := needsRun_end hp (Inv := fun K S => (∀ j, K.testBit j = true → Q j) ∧ ∀ y ∈ S, y = i ∨ Q y)
    (fun K S x hx hI => by
      have ha : ∀ z ∈ (ts.getD x default).after, 0 ≤ z := fun z hz => (after_in hp hx z hz).1
      have hq : ∀ z : Nat, (z : Int) ∈ (ts.getD x default).after → Q z := fun z hz => by
        rcases hI.2 x (by simp) with h | h
        · subst h; exact h0 z hz
        · exact h1 x hx h z hz
      refine ⟨fun j hj => ?_, fun y hy => ?_⟩
      · rcases (pushAll_bits _ K S ha j).1 hj with h | h
        · exact hI.1 j h
        · exact hq j h
      · have hmem : ∀ (l : List Int) (K : Nat) (S : List Nat), (∀ x ∈ l, 0 ≤ x) → ∀ y ∈ (pushAll K S l).2, y ∈ S ∨ (y : Int) ∈ l := by
          intro l
          induction l with
          | nil => intro K S _ y hy; exact .inl hy
          | cons z l ih =>
            intro K S hl y hy
            have hz := hl z List.mem_cons_self
            have hl' : ∀ x ∈ l, 0 ≤ x := fun x hx => hl x (List.mem_cons_of_mem _ hx)
            cases ht : K.testBit z.toNat with
            | true =>
              simp only [pushAll, ht, if_true] at hy
              exact (ih K S hl' y hy).imp id (List.mem_cons_of_mem _)
            | false =>
              simp only [pushAll, ht, Bool.false_eq_true, if_false] at hy
              rcases ih _ _ hl' y hy with h | h
              · rcases List.mem_append.1 h with h | h
                · exact .inl h
                · have e : y = z.toNat := by simpa using h
                  exact .inr (by rw [e, show ((z.toNat : Nat) : Int) = z by omega]; exact List.mem_cons_self)
              · exact .inr (List.mem_cons_of_mem _ h)
        rcases hmem _ K S ha y hy with h | h
        · exact hI.2 y (List.mem_append_left _ h)
        · exact .inr (hq y h))
    1300 0 [i] (by decide) (by simpa using hi) (by simp) ⟨fun j hj => by simp at hj, fun y hy => .inl (by simpa using hy)⟩
  exact H.1

theorem needs_bound {ts : List Task} (hp : PlanOk ts) {i : Nat} (hi : i < ts.length) : ∀ j, (needsV ts i).testBit j = true → j < ts.length :=
  needs_least hp hi (fun j => j < ts.length) (fun x hx => by have := after_in hp hi _ hx; omega) (fun k hk _ x hx => by have := after_in hp hk _ hx; omega)

/-- What a task depends on depends on less. -/
theorem needs_sub {ts : List Task} (hp : PlanOk ts) {i j : Nat} (hi : i < ts.length) (hj : (needsV ts i).testBit j = true) : ∀ k, (needsV ts j).testBit k = true → (needsV ts i).testBit k = true := by
  have hjn := needs_bound hp hi j hj
  obtain ⟨h1, h2⟩ := needs_closed hp hi
  exact needs_least hp hjn (fun k => (needsV ts i).testBit k = true) (fun x hx => h2 j hjn hj x hx) (fun k hk hq x hx => h2 k hk hq x hx)

end Go.Proofs.Ytlgioldmjohhlaa
