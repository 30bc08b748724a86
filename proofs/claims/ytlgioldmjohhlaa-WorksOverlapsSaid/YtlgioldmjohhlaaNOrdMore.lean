/- Plain facts: the order's tasks are tasks of the plan, and none comes twice. -/
import Derived.Test.YtlgioldmjohhlaaNOrdLaw
namespace Go.Proofs.Ytlgioldmjohhlaa
open Go.RowKit

theorem pass_mem {ts : List Task} : ∀ (m i d x : Nat), x ∈ (passF ts m i d).1 → i ≤ x ∧ x < i + m ∧ d.testBit x = false
  | 0, _, _, x, h => by simp [passF] at h
  | m + 1, i, d, x, h => by
    cases hr : readyB ts d i with
    | true =>
      simp only [passF, hr, if_true, List.mem_cons] at h
      rcases h with rfl | h
      · exact ⟨Nat.le_refl _, by omega, (readyB_iff.1 hr).1⟩
      · obtain ⟨h1, h2, h3⟩ := pass_mem m (i + 1) _ x h
        refine ⟨by omega, by omega, ?_⟩
        rw [Nat.testBit_or] at h3
        exact (Bool.or_eq_false_iff.1 h3).1
    | false =>
      simp only [passF, hr, Bool.false_eq_true, if_false] at h
      obtain ⟨h1, h2, h3⟩ := pass_mem m (i + 1) _ x h
      exact ⟨by omega, by omega, h3⟩

theorem pass_bits {ts : List Task} : ∀ (m i d : Nat), (passF ts m i d).1.Nodup ∧ (∀ x, d.testBit x = true → (passF ts m i d).2.testBit x = true) ∧ ∀ x ∈ (passF ts m i d).1, (passF ts m i d).2.testBit x = true
  | 0, _, d => by simp [passF]
  | m + 1, i, d => by
    cases hr : readyB ts d i with
    | true =>
      obtain ⟨h1, h2, h3⟩ := pass_bits (ts := ts) m (i + 1) (d ||| 2 ^ i)
      simp only [passF, hr, if_true]
      refine ⟨List.nodup_cons.2 ⟨fun hm => ?_, h1⟩, fun x hx => h2 x (by rw [Nat.testBit_or, hx]; rfl), fun x hx => ?_⟩
      · have := (pass_mem m (i + 1) _ i hm).1
        omega
      · rcases List.mem_cons.1 hx with rfl | hx
        · exact h2 x (by rw [Nat.testBit_or, Nat.testBit_two_pow_self]; simp)
        · exact h3 x hx
    | false =>
      obtain ⟨h1, h2, h3⟩ := pass_bits (ts := ts) m (i + 1) d
      simp only [passF, hr, Bool.false_eq_true, if_false]
      exact ⟨h1, h2, h3⟩

theorem orderF_spec {ts : List Task} : ∀ (f d : Nat), (orderF ts f d).Nodup ∧ ∀ x ∈ orderF ts f d, x < ts.length ∧ d.testBit x = false
  | 0, _ => by simp [orderF]
  | f + 1, d => by
    unfold orderF
    split
    · simp
    · obtain ⟨h1, h2⟩ := orderF_spec (ts := ts) f (passF ts ts.length 0 d).2
      obtain ⟨p1, p2, p3⟩ := pass_bits (ts := ts) ts.length 0 d
      refine ⟨List.nodup_append.2 ⟨p1, h1, fun x hx y hy e => ?_⟩, fun x hx => ?_⟩
      · subst e
        have := p3 x hx
        rw [(h2 x hy).2] at this
        cases this
      · rcases List.mem_append.1 hx with hx | hx
        · obtain ⟨_, q2, q3⟩ := pass_mem _ _ _ _ hx
          exact ⟨by omega, q3⟩
        · obtain ⟨q1, q2⟩ := h2 x hx
          refine ⟨q1, ?_⟩
          cases hb : d.testBit x with
          | false => rfl
          | true =>
            have := p2 x hb
            rw [q2] at this
            cases this

theorem nodup_len : ∀ (n : Nat) (l : List Nat), l.Nodup → (∀ x ∈ l, x < n) → l.length ≤ n
  | 0, l, _, h => by
    cases l with
    | nil => simp
    | cons x l => have := h x (by simp); omega
  | n + 1, l, hn, h => by
    have h1 := nodup_len n (l.erase n) (hn.erase n) (fun x hx => by
      obtain ⟨h1, h2⟩ := (List.Nodup.mem_erase_iff hn).1 hx
      have := h x h2
      omega)
    by_cases hm : n ∈ l
    · rw [List.length_erase_of_mem hm] at h1
      omega
    · rw [List.erase_of_not_mem hm] at h1
      omega

theorem order_nodup (ts : List Task) : (orderV ts).Nodup := (orderF_spec 130 0).1
theorem order_mem {ts : List Task} {x : Nat} (h : x ∈ orderV ts) : x < ts.length := ((orderF_spec 130 0).2 x h).1
theorem order_len (ts : List Task) : (orderV ts).length ≤ ts.length := nodup_len _ _ (order_nodup ts) fun _ h => order_mem h

end Go.Proofs.Ytlgioldmjohhlaa
