/- Plain law: the greatest step that reaches a row; sums of discs. -/
import Derived.Test.YtncbigkkmgnkmaaGreatDoorOd1
import Derived.Test.YtncbigkkmgnkmaaGreatDoorOe6

section
namespace Go.Proofs.YtncbigkkmgnkmaaGreatDoor

def wideK (d r a : Int) (l : List Int) : Int := l.foldl (fun a w => if r ≤ hgt d w then max a w else a) a
theorem wideK_snoc (d r a w : Int) (l : List Int) : wideK d r a (l ++ [w]) = if r ≤ hgt d w then max (wideK d r a l) w else wideK d r a l := by simp [wideK]
theorem wideK_spec (d r : Int) : ∀ (l : List Int) (a : Int), a ≤ wideK d r a l ∧ (∀ w ∈ l, r ≤ hgt d w → w ≤ wideK d r a l) ∧ (wideK d r a l = a ∨ (wideK d r a l ∈ l ∧ r ≤ hgt d (wideK d r a l)))
  | [], a => ⟨Int.le_refl _, (fun w h => by cases h), .inl rfl⟩
  | w :: l, a => by
    have e : wideK d r a (w :: l) = wideK d r (if r ≤ hgt d w then max a w else a) l := rfl
    rw [e]
    obtain ⟨h1, h2, h3⟩ := wideK_spec d r l (if r ≤ hgt d w then max a w else a)
    generalize wideK d r (if r ≤ hgt d w then max a w else a) l = v at *
    refine ⟨?_, fun x hx hr => ?_, ?_⟩
    · split at h1 <;> omega
    · rcases List.mem_cons.1 hx with rfl | hx
      · rw [if_pos hr] at h1; omega
      · exact h2 x hx hr
    · rcases h3 with h3 | ⟨h3, h4⟩
      · split at h3
        · rename_i hr
          by_cases hm : w ≤ a
          · exact .inl (by omega)
          · have : v = w := by omega
            subst this
            exact .inr ⟨by simp, hr⟩
        · exact .inl h3
      · exact .inr ⟨List.mem_cons_of_mem _ h3, h4⟩
theorem wide_row {d : Int} {l : List Int} (h : WidthsOk d l) (r : Int) : wideK d r 0 l = rowW d l r := by
  obtain ⟨h1, h2, h3⟩ := wideK_spec d r l 0
  obtain ⟨g1, g2⟩ := rowW_nonneg h r
  have a1 : wideK d r 0 l ≤ rowW d l r := by
    rcases h3 with h3 | ⟨h3, h4⟩
    · omega
    · exact rowW_max h _ h3 h4
  have a2 : rowW d l r ≤ wideK d r 0 l := by
    by_cases h0 : rowW d l r = 0
    · omega
    · exact h2 _ (g2 h0).1 (g2 h0).2
  omega
theorem rowW_bd {d : Int} {l : List Int} (hd : 1 ≤ d) (h : WidthsOk d l) (r : Int) : 0 ≤ rowW d l r ∧ rowW d l r ≤ d := by
  obtain ⟨g1, g2⟩ := rowW_nonneg h r
  refine ⟨g1, ?_⟩
  by_cases h0 : rowW d l r = 0
  · omega
  · exact (h.mem _ (g2 h0).1).2
theorem rowsF_bd {d : Int} {l : List Int} (hd : 1 ≤ d) (h : WidthsOk d l) : ∀ k : Nat, 0 ≤ rowsF d l 0 k ∧ rowsF d l 0 k ≤ d * (k : Int)
  | 0 => ⟨Int.le_refl _, by simp [rowsF]⟩
  | k + 1 => by
    obtain ⟨h1, h2⟩ := rowsF_bd hd h k
    obtain ⟨h3, h4⟩ := rowW_bd hd h (0 + (k : Int) + 1)
    rw [rowsF]
    have e : d * ((k + 1 : Nat) : Int) = d * (k : Int) + d := by push_cast; rw [Int.mul_add, Int.mul_one]
    omega
theorem discs_snoc (t d : Int) (k : Nat) : discsL t d (k + 1) = discsL t d k ++ [discV t d k] := by
  unfold discsL
  rw [List.range_succ, List.map_append]
  rfl
theorem discs_at {t d : Int} {n k : Nat} (h : k < n) : (discsL t d n).getD k 0 = discV t d k := by simp [discsL, List.getD, h]
theorem discs_len (t d : Int) (n : Nat) : (discsL t d n).length = n := by simp [discsL]
theorem discs_bd {t d : Int} (hd : 1 ≤ d) (h0 : 0 ≤ t) (h1 : t ≤ 10000) : ∀ k : Nat, k ≤ 500 → (0 ≤ (discsL t d k).sum ∧ (discsL t d k).sum ≤ 10001 * (k : Int)) ∧ 0 ≤ discV t d k ∧ discV t d k ≤ 10001 := by
  have hb : ∀ k : Nat, 0 ≤ discV t d k ∧ discV t d k ≤ 10001 := fun k => by
    have q0 : 0 ≤ t / d := Int.ediv_nonneg h0 (by omega)
    have q1 : t / d ≤ t := Int.ediv_le_self (a := t) d h0
    unfold discV
    split <;> omega
  intro k hk
  refine ⟨?_, hb k⟩
  clear hk
  induction k with
  | zero => simp [discsL]
  | succ k ih =>
    rw [discs_snoc, List.sum_append]
    have := hb k
    simp only [List.sum_cons, List.sum_nil]
    push_cast
    omega
end Go.Proofs.YtncbigkkmgnkmaaGreatDoor
end
