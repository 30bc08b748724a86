/- Plain facts on wide numbers: digits to the base 10^9, the lowest one first. No program is in sight.
Plain facts on sums, differences, products and quotients of digits. No program is in sight.
Plain facts on ratios: the core's Rat, by numerator and denominator. No program is in sight.
Plain facts on the sizes of ratios: how many digits their parts have. No program is in sight.
Plain facts on wide numbers: signs and sums. No program is in sight. -/
import Derived.Test.YtpdkbhjcpddnpaaGreatDoorRows

section
namespace Go.Proofs.YtpdkbhjcpddnpaaGreatDoor

def wB : Int := 1000000000
def valD : List Int → Int
  | [] => 0
  | d :: l => d + wB * valD l
def okD (l : List Int) : Prop := ∀ d ∈ l, 0 ≤ d ∧ d < wB
/-- The digits of a number, without zeros at the end. -/
def canD (n : Nat) : List Int := if h : n = 0 then [] else ((n % 1000000000 : Nat) : Int) :: canD (n / 1000000000)
termination_by n
decreasing_by omega

theorem okD_nil : okD [] := fun _ h => by cases h
theorem okD_cons {d : Int} {l : List Int} : okD (d :: l) ↔ (0 ≤ d ∧ d < wB) ∧ okD l := by
  unfold okD
  simp
theorem okD_app {a b : List Int} : okD (a ++ b) ↔ okD a ∧ okD b := by
  unfold okD
  constructor
  · exact fun h => ⟨fun d hd => h d (List.mem_append.2 (.inl hd)), fun d hd => h d (List.mem_append.2 (.inr hd))⟩
  · rintro ⟨h1, h2⟩ d hd
    rcases List.mem_append.1 hd with h | h
    · exact h1 d h
    · exact h2 d h
theorem okD_take {l : List Int} (h : okD l) (n : Nat) : okD (l.take n) := fun d hd => h d (List.mem_of_mem_take hd)
theorem okD_at {l : List Int} (h : okD l) (i : Nat) : 0 ≤ l.getD i 0 ∧ l.getD i 0 < wB := by
  by_cases hi : i < l.length
  · rw [List.getD_eq_getElem?_getD, List.getElem?_eq_getElem hi]
    exact h _ (List.getElem_mem hi)
  · rw [List.getD_eq_getElem?_getD, List.getElem?_eq_none (by omega)]
    exact ⟨by decide, by decide⟩
theorem wB_pow_pos (n : Nat) : 0 < wB ^ n := by
  induction n with
  | zero => decide
  | succ n ih => rw [Int.pow_succ]; exact Int.mul_pos ih (by decide)
theorem wB_pow_le {n m : Nat} (h : n ≤ m) : wB ^ n ≤ wB ^ m := by
  obtain ⟨k, rfl⟩ : ∃ k, m = n + k := ⟨m - n, by omega⟩
  clear h
  induction k with
  | zero => exact Int.le_refl _
  | succ k ih =>
    rw [show n + (k + 1) = (n + k) + 1 by omega, Int.pow_succ]
    have := wB_pow_pos (n + k)
    unfold wB at *
    omega
theorem val_app (a b : List Int) : valD (a ++ b) = valD a + wB ^ a.length * valD b := by
  induction a with
  | nil => simp [valD]
  | cons d l ih =>
    rw [List.cons_append, valD, valD, ih, List.length_cons, Int.pow_succ]
    grind
theorem val_snoc (l : List Int) (d : Int) : valD (l ++ [d]) = valD l + wB ^ l.length * d := by
  rw [val_app]
  simp [valD]
theorem val_take {l : List Int} {i : Nat} (hi : i < l.length) : valD (l.take (i + 1)) = valD (l.take i) + wB ^ i * l.getD i 0 := by
  rw [List.take_add_one, List.getElem?_eq_getElem hi, Option.toList_some, val_snoc, List.length_take, Nat.min_eq_left (by omega), List.getD_eq_getElem?_getD, List.getElem?_eq_getElem hi]
  rfl
theorem val_nonneg {l : List Int} (h : okD l) : 0 ≤ valD l := by
  induction l with
  | nil => exact Int.le_refl _
  | cons d l ih =>
    obtain ⟨h1, h2⟩ := okD_cons.1 h
    have := ih h2
    have := Int.mul_nonneg (show (0 : Int) ≤ wB by decide) this
    rw [valD]
    omega
theorem val_lt {l : List Int} (h : okD l) : valD l < wB ^ l.length := by
  induction l with
  | nil => decide
  | cons d l ih =>
    obtain ⟨h1, h2⟩ := okD_cons.1 h
    have h3 := ih h2
    rw [valD, List.length_cons, Int.pow_succ]
    have h4 : wB * (valD l + 1) ≤ wB * wB ^ l.length := Int.mul_le_mul_of_nonneg_left (by omega) (by decide)
    rw [Int.mul_add, Int.mul_one, Int.mul_comm wB (wB ^ l.length)] at h4
    omega
theorem canD_val (n : Nat) : valD (canD n) = (n : Int) := by
  induction n using Nat.strongRecOn with
  | _ n ih =>
    rw [canD]
    split
    · rename_i h; subst h; rfl
    · rename_i h
      rw [valD, ih (n / 1000000000) (by omega)]
      unfold wB
      omega
theorem canD_ok (n : Nat) : okD (canD n) := by
  induction n using Nat.strongRecOn with
  | _ n ih =>
    rw [canD]
    split
    · exact okD_nil
    · rename_i h
      refine okD_cons.2 ⟨?_, ih _ (by omega)⟩
      unfold wB
      omega
theorem canD_zero : canD 0 = [] := by rw [canD, dif_pos rfl]
theorem canD_nil {n : Nat} : canD n = [] ↔ n = 0 := by
  constructor
  · intro h
    rw [canD] at h
    split at h
    · assumption
    · cases h
  · rintro rfl; exact canD_zero
/-- Digits without a zero at the end are those of their number. -/
theorem canD_of : ∀ {l : List Int}, okD l → l.getLast? ≠ some 0 → l = canD (valD l).toNat
  | [], _, _ => by rw [show (valD []).toNat = 0 from rfl, canD_zero]
  | d :: l, h, hl => by
    obtain ⟨h1, h2⟩ := okD_cons.1 h
    have h3 := val_nonneg h2
    have hq : l.getLast? ≠ some 0 := by
      cases l with
      | nil => simp
      | cons e r => rw [List.getLast?_cons_cons] at hl; exact hl
    have ih := canD_of h2 hq
    have hpos : 0 < valD (d :: l) := by
      rw [valD]
      cases l with
      | nil =>
        have : d ≠ 0 := fun e => hl (by rw [e]; rfl)
        simp only [valD]
        omega
      | cons e r =>
        have h5 : valD (e :: r) ≠ 0 := fun e0 => by
          rw [e0] at ih
          rw [show (0 : Int).toNat = 0 from rfl, canD_zero] at ih
          cases ih
        unfold wB
        omega
    rw [canD, dif_neg (by omega)]
    rw [valD] at hpos ⊢
    unfold wB at h1 hpos ⊢
    have e1 : (d + 1000000000 * valD l).toNat % 1000000000 = d.toNat := by omega
    have e2 : (d + 1000000000 * valD l).toNat / 1000000000 = (valD l).toNat := by omega
    rw [e1, e2, ← ih]
    congr 1
    omega
theorem canD_last (n : Nat) : (canD n).getLast? ≠ some 0 := by
  induction n using Nat.strongRecOn with
  | _ n ih =>
    rw [canD]
    split
    · simp
    · rename_i h
      have h2 := ih (n / 1000000000) (by omega)
      cases hc : canD (n / 1000000000) with
      | nil =>
        have := canD_nil.1 hc
        simp
        omega
      | cons e r => rw [List.getLast?_cons_cons, ← hc]; exact h2
/-- Behind the last digit that is not 0. -/
theorem canD_trim {l : List Int} (h : okD l) {n : Nat} (hn : n ≤ l.length) (hv : valD (l.take n) = valD l) (hl : n = 0 ∨ l.getD (n - 1) 0 ≠ 0) : l.take n = canD (valD l).toNat := by
  rw [← hv]
  refine canD_of (okD_take h n) ?_
  rcases hl with rfl | hl
  · simp
  · rcases Nat.eq_zero_or_pos n with rfl | h0
    · simp
    · intro e
      apply hl
      rw [List.getLast?_eq_getElem?, List.length_take, Nat.min_eq_left hn, List.getElem?_take_of_lt (by omega)] at e
      rw [List.getD_eq_getElem?_getD, e]
      rfl
theorem canD_len {n m : Nat} (h : (canD n).length < (canD m).length) : n < m := by
  have h1 := val_lt (canD_ok n)
  rw [canD_val] at h1
  rcases List.eq_nil_or_concat (canD m) with e | ⟨r, d, e⟩
  · rw [e] at h; simp at h
  · have hd : d ≠ 0 := fun e0 => canD_last m (by rw [e, e0, List.concat_eq_append]; simp)
    have ho := canD_ok m
    have hm := canD_val m
    rw [List.concat_eq_append] at e
    rw [e] at ho hm h
    rw [val_snoc] at hm
    obtain ⟨o1, o2⟩ := okD_app.1 ho
    have hd2 := o2 d (by simp)
    have hv := val_nonneg o1
    have hl : (canD n).length ≤ r.length := by simp at h; omega
    have hp : wB ^ (canD n).length ≤ wB ^ r.length := wB_pow_le hl
    have hq : wB ^ r.length * 1 ≤ wB ^ r.length * d := Int.mul_le_mul_of_nonneg_left (by omega) (Int.le_of_lt (wB_pow_pos _))
    omega
/-- Of digits that are equal from one place on, the greater one there says which number is greater. -/
theorem val_cmp {a b : List Int} (ha : okD a) (hb : okD b) (hl : a.length = b.length) {i : Nat} (hi : i < a.length) (hd : a.drop (i + 1) = b.drop (i + 1)) (h : a.getD i 0 < b.getD i 0) : valD a < valD b := by
  have e : ∀ l : List Int, i < l.length → valD l = valD (l.take i) + wB ^ i * l.getD i 0 + wB ^ (i + 1) * valD (l.drop (i + 1)) := fun l hl => by
    conv => lhs; rw [← List.take_append_drop (i + 1) l]
    rw [val_app, val_take hl, List.length_take, Nat.min_eq_left (by omega)]
  rw [e a hi, e b (by omega), hd]
  have h1 := val_lt (okD_take ha i)
  rw [List.length_take, Nat.min_eq_left (by omega)] at h1
  have h2 := val_nonneg (okD_take hb i)
  have h3 : wB ^ i * (a.getD i 0 + 1) ≤ wB ^ i * b.getD i 0 := Int.mul_le_mul_of_nonneg_left (by omega) (Int.le_of_lt (wB_pow_pos _))
  rw [Int.mul_add, Int.mul_one] at h3
  omega
/-- A wide number: its sign and its digits. -/
def signD (n : Int) : Int := if n < 0 then -1 else if n = 0 then 0 else 1
def digD (n : Int) : List Int := canD n.natAbs
theorem signD_mul (a b : Int) : signD (a * b) = signD a * signD b := by
  rcases Int.lt_trichotomy a 0 with h | h | h <;> rcases Int.lt_trichotomy b 0 with k | k | k
  · rw [show signD (a * b) = 1 by unfold signD; have := Int.mul_pos_of_neg_of_neg h k; rw [if_neg (by omega), if_neg (by omega)], show signD a = -1 by unfold signD; rw [if_pos h], show signD b = -1 by unfold signD; rw [if_pos k]]; rfl
  · subst k; simp [signD]
  · rw [show signD (a * b) = -1 by unfold signD; have := Int.mul_neg_of_neg_of_pos h k; rw [if_pos (by omega)], show signD a = -1 by unfold signD; rw [if_pos h], show signD b = 1 by unfold signD; rw [if_neg (by omega), if_neg (by omega)]]; rfl
  · subst h; simp [signD]
  · subst h; simp [signD]
  · subst h; simp [signD]
  · rw [show signD (a * b) = -1 by unfold signD; have := Int.mul_neg_of_pos_of_neg h k; rw [if_pos (by omega)], show signD a = 1 by unfold signD; rw [if_neg (by omega), if_neg (by omega)], show signD b = -1 by unfold signD; rw [if_pos k]]; rfl
  · subst k; simp [signD]
  · rw [show signD (a * b) = 1 by unfold signD; have := Int.mul_pos h k; rw [if_neg (by omega), if_neg (by omega)], show signD a = 1 by unfold signD; rw [if_neg (by omega), if_neg (by omega)], show signD b = 1 by unfold signD; rw [if_neg (by omega), if_neg (by omega)]]; rfl

end Go.Proofs.YtpdkbhjcpddnpaaGreatDoor
end

section
namespace Go.Proofs.YtpdkbhjcpddnpaaGreatDoor

theorem val_step (l : List Int) (i : Nat) : valD (l.take (i + 1)) = valD (l.take i) + wB ^ i * l.getD i 0 := by
  by_cases hi : i < l.length
  · exact val_take hi
  · rw [List.take_of_length_le (by omega), List.take_of_length_le (by omega), List.getD_eq_getElem?_getD, List.getElem?_eq_none (by omega)]
    simp
theorem val_split (l : List Int) (i : Nat) (hi : i ≤ l.length) : valD l = valD (l.take i) + wB ^ i * valD (l.drop i) := by
  conv => lhs; rw [← List.take_append_drop i l]
  rw [val_app, List.length_take, Nat.min_eq_left hi]
theorem okD_drop {l : List Int} (h : okD l) (n : Nat) : okD (l.drop n) := fun d hd => h d (List.mem_of_mem_drop hd)
theorem okD_set {l : List Int} (h : okD l) {i : Nat} {x : Int} (hx : 0 ≤ x ∧ x < wB) : okD (l.set i x) := fun d hd => by
  rcases List.mem_or_eq_of_mem_set hd with q | q
  · exact h d q
  · subst q; exact hx
theorem val_set : ∀ {l : List Int} {i : Nat}, i < l.length → ∀ x : Int, valD (l.set i x) = valD l + wB ^ i * (x - l.getD i 0)
  | [], _, h, _ => absurd h (Nat.not_lt_zero _)
  | d :: l, 0, _, x => by
    rw [List.set_cons_zero, valD, valD, Int.pow_zero, List.getD_cons_zero]
    omega
  | d :: l, i + 1, h, x => by
    rw [List.set_cons_succ, valD, valD, val_set (by simpa using h) x, Int.pow_succ, List.getD_cons_succ]
    grind
theorem getD_set {l : List Int} {i j : Nat} (x : Int) (h : i ≠ j) : (l.set i x).getD j 0 = l.getD j 0 := by
  rw [List.getD_eq_getElem?_getD, List.getElem?_set_ne h, List.getD_eq_getElem?_getD]
theorem pow_mul_ge {p d : Int} (hp : 0 < p) (hd : 1 ≤ d) : p ≤ p * d := by
  have h : p * 1 ≤ p * d := Int.mul_le_mul_of_nonneg_left hd (Int.le_of_lt hp)
  rwa [Int.mul_one] at h
/-- A number below a power has no digit from there on. -/
theorem okD_small {l : List Int} (h : okD l) {i j : Nat} (hv : valD l < wB ^ i) (hj : i ≤ j) : l.getD j 0 = 0 := by
  by_cases hl : j < l.length
  · obtain ⟨h0, h1⟩ := okD_at h j
    rcases Int.lt_or_le 0 (l.getD j 0) with q | q
    · exfalso
      have e := val_split l (j + 1) (by omega)
      rw [val_step] at e
      have h2 := val_nonneg (okD_take h j)
      have h3 := Int.mul_nonneg (Int.le_of_lt (wB_pow_pos (j + 1))) (val_nonneg (okD_drop h (j + 1)))
      have h4 := pow_mul_ge (wB_pow_pos j) (show 1 ≤ l.getD j 0 by omega)
      have h5 := wB_pow_le hj
      omega
    · omega
  · rw [List.getD_eq_getElem?_getD, List.getElem?_eq_none (by omega)]
    rfl
/-- How many digits stay without zeros at the end. -/
def trimN (l : List Int) : Nat → Nat
  | 0 => 0
  | n + 1 => if l.getD n 0 = 0 then trimN l n else n + 1
theorem trimN_le (l : List Int) : ∀ n, trimN l n ≤ n
  | 0 => Nat.le_refl _
  | n + 1 => by
    rw [trimN]
    split
    · exact Nat.le_succ_of_le (trimN_le l n)
    · exact Nat.le_refl _
theorem trimN_val (l : List Int) : ∀ n, valD (l.take (trimN l n)) = valD (l.take n)
  | 0 => rfl
  | n + 1 => by
    rw [trimN]
    split
    · rename_i h
      rw [trimN_val l n, val_step, h, Int.mul_zero, Int.add_zero]
    · rfl
theorem trimN_end (l : List Int) : ∀ n, trimN l n = 0 ∨ l.getD (trimN l n - 1) 0 ≠ 0
  | 0 => .inl rfl
  | n + 1 => by
    rw [trimN]
    split
    · exact trimN_end l n
    · rename_i h
      exact .inr h
theorem trim_eq {l : List Int} (h : okD l) : l.take (trimN l l.length) = canD (valD l).toNat :=
  canD_trim h (trimN_le l _) (by rw [trimN_val, List.take_of_length_le (Nat.le_refl _)]) (trimN_end l _)
theorem trim_len {l : List Int} (h : okD l) : (canD (valD l).toNat).length = trimN l l.length := by
  rw [← trim_eq h, List.length_take, Nat.min_eq_left (trimN_le l _)]

/-! Sums and differences. -/
theorem add_step {a b out : List Int} {i : Nat} {c s : Int} (ho : out.length = i) (hv : valD out + wB ^ i * c = valD (a.take i) + valD (b.take i)) (hs : s = a.getD i 0 + b.getD i 0 + c) :
    valD (out ++ [s % wB]) + wB ^ (i + 1) * (s / wB) = valD (a.take (i + 1)) + valD (b.take (i + 1)) := by
  rw [val_snoc, val_step, val_step, ho, Int.pow_succ, Int.emod_def]
  subst hs
  grind
theorem carry_bd {x y c : Int} (hx : 0 ≤ x ∧ x < wB) (hy : 0 ≤ y ∧ y < wB) (hc : 0 ≤ c ∧ c ≤ 1) : 0 ≤ (x + y + c) / wB ∧ (x + y + c) / wB ≤ 1 := by
  unfold wB at *
  omega
theorem mod_bd (s : Int) : 0 ≤ s % wB ∧ s % wB < wB := ⟨Int.emod_nonneg _ (by decide), Int.emod_lt_of_pos _ (by decide)⟩
theorem sub_step {a b out : List Int} {i : Nat} {c s : Int} (ho : out.length = i) (hv : valD out - wB ^ i * c = valD (a.take i) - valD (b.take i)) (hs : s = a.getD i 0 - b.getD i 0 - c) (d : Int) :
    valD (out ++ [s + wB * d]) - wB ^ (i + 1) * d = valD (a.take (i + 1)) - valD (b.take (i + 1)) := by
  rw [val_snoc, val_step, val_step, ho, Int.pow_succ]
  subst hs
  grind
theorem sub_end {a b out : List Int} {c : Int} (hok : okD out) (ho : out.length = a.length) (hc : c = 0 ∨ c = 1) (hv : valD out - wB ^ a.length * c = valD a - valD b) (hle : valD b ≤ valD a) : valD out = valD a - valD b := by
  rcases hc with rfl | rfl
  · omega
  · have := val_lt hok
    rw [ho] at this
    omega
/-- Which of two numbers is greater. -/
def cmpD (a b : List Int) : Int := if valD a < valD b then -1 else if valD b < valD a then 1 else 0
theorem canD_le {n m : Nat} (h : n ≤ m) : (canD n).length ≤ (canD m).length := by
  rcases Nat.lt_or_ge (canD m).length (canD n).length with q | q
  · have := canD_len q; omega
  · exact q
theorem mul_step {b out : List Int} {i k : Nat} {x c s V : Int} (hl : i + k < out.length) (hv : valD out + wB ^ (i + k) * c = V + wB ^ i * (x * valD (b.take k))) (hs : s = out.getD (i + k) 0 + x * b.getD k 0 + c) :
    valD (out.set (i + k) (s % wB)) + wB ^ (i + k + 1) * (s / wB) = V + wB ^ i * (x * valD (b.take (k + 1))) := by
  rw [val_set hl, val_step, Int.pow_succ, Int.emod_def]
  have e : wB ^ (i + k) = wB ^ i * wB ^ k := Int.pow_add ..
  rw [e] at hv ⊢
  subst hs
  grind
theorem prod_bd {o x y c : Int} (ho : 0 ≤ o ∧ o < wB) (hx : 0 ≤ x ∧ x < wB) (hy : 0 ≤ y ∧ y < wB) (hc : 0 ≤ c ∧ c < wB) : 0 ≤ x * y ∧ x * y ≤ 999999998000000001 ∧ 0 ≤ (o + x * y + c) / wB ∧ (o + x * y + c) / wB < wB := by
  have h1 : 0 ≤ x * y := Int.mul_nonneg hx.1 hy.1
  have h2 : x * y ≤ 999999999 * 999999999 := Int.mul_le_mul (by unfold wB at hx; omega) (by unfold wB at hy; omega) hy.1 (by decide)
  unfold wB at *
  omega
theorem mul_row {b out : List Int} {i : Nat} {x c V : Int} (hl : i + b.length < out.length) (hz : out.getD (i + b.length) 0 = 0) (hv : valD out + wB ^ (i + b.length) * c = V + wB ^ i * (x * valD b)) :
    valD (out.set (i + b.length) (0 + c)) = V + wB ^ i * (x * valD b) := by
  rw [val_set hl, hz]
  grind
theorem mul_next {a b : List Int} {i : Nat} : valD (a.take i) * valD b + wB ^ i * (a.getD i 0 * valD b) = valD (a.take (i + 1)) * valD b := by
  rw [val_step]
  grind
theorem mul_lt {a b : List Int} {i : Nat} (ha : okD a) (hb : okD b) : valD (a.take i) * valD b < wB ^ (i + b.length) := by
  have h1 : valD (a.take i) < wB ^ i := by
    have := val_lt (okD_take ha i)
    have h2 : wB ^ (a.take i).length ≤ wB ^ i := wB_pow_le (by rw [List.length_take]; omega)
    omega
  have h2 := val_lt hb
  have h3 := val_nonneg (okD_take ha i)
  have h4 := val_nonneg hb
  rw [Int.pow_add]
  have h5 : valD (a.take i) * valD b ≤ valD (a.take i) * wB ^ b.length := Int.mul_le_mul_of_nonneg_left (by omega) h3
  have h6 : valD (a.take i) * wB ^ b.length < wB ^ i * wB ^ b.length := Int.mul_lt_mul_of_pos_right h1 (wB_pow_pos _)
  omega

/-! Quotients. -/
theorem val_replicate : ∀ n, valD (List.replicate n 0) = 0
  | 0 => rfl
  | n + 1 => by rw [List.replicate_succ, valD, val_replicate n]; rfl
theorem okD_replicate (n : Nat) : okD (List.replicate n 0) := fun d hd => by rw [List.eq_of_mem_replicate hd]; exact ⟨Int.le_refl _, by decide⟩
/-- One digit more of a quotient: with what is left. -/
theorem floor_step {A Q R b d x : Int} (h : A = Q * b + R) : x + wB * A = (d + wB * Q) * b + (x + wB * R - b * d) := by subst h; grind
theorem floor_first {R b x : Int} (_hb : 0 < b) (hR : 0 ≤ R ∧ R < b) (hx : 0 ≤ x ∧ x < wB) : 0 ≤ x + wB * R ∧ x + wB * R < b * (999999999 + 1) := by
  have h1 : wB * (R + 1) ≤ wB * b := Int.mul_le_mul_of_nonneg_left (by omega) (by decide)
  have h2 := Int.mul_nonneg (show (0 : Int) ≤ wB by decide) hR.1
  rw [Int.mul_add, Int.mul_one] at h1
  have h3 : b * (999999999 + 1) = wB * b := by unfold wB; omega
  omega
theorem quot_of {A Q R b : Int} (hb : 0 < b) (h : A = Q * b + R) (h0 : 0 ≤ R) (h1 : R < b) : A / b = Q := by
  subst h
  rw [Int.add_comm, Int.add_mul_ediv_right _ _ (by omega), Int.ediv_eq_zero_of_lt h0 h1, Int.zero_add]
theorem quot_neg {A Q R b : Int} (hb : 0 < b) (h : A = Q * b + R) (h0 : 0 ≤ R) (h1 : R < b) : -A / b = if R = 0 then -Q else -Q - 1 := by
  split
  · rename_i e
    exact quot_of (R := 0) hb (by subst h e; grind) (Int.le_refl _) hb
  · exact quot_of (R := b - R) hb (by subst h; grind) (by omega) (by omega)

end Go.Proofs.YtpdkbhjcpddnpaaGreatDoor
end

section
namespace Go.Proofs.YtpdkbhjcpddnpaaGreatDoor

def makeN (n d : Int) : Int := if d < 0 then -n else n
def makeD (d : Int) : Int := if d < 0 then -d else d
theorem make_gcd (n d : Int) : Int.gcd (makeN n d) (makeD d) = Int.gcd n d := by
  unfold makeN makeD
  split
  · rw [Int.gcd_neg, Int.neg_gcd]
  · rfl
theorem make_num {n d : Int} (hd : d ≠ 0) : (Rat.divInt n d).num = makeN n d / (Int.gcd (makeN n d) (makeD d) : Nat) := by
  rw [make_gcd, Rat.num_divInt, Int.gcd_comm d n]
  unfold makeN
  split
  · rename_i h
    rw [Int.sign_eq_neg_one_of_neg h]
    simp
  · rename_i h
    rw [Int.sign_eq_one_of_pos (by omega)]
    simp
theorem make_den {n d : Int} (hd : d ≠ 0) : ((Rat.divInt n d).den : Int) = makeD d / (Int.gcd (makeN n d) (makeD d) : Nat) := by
  rw [make_gcd, Rat.den_divInt, if_neg hd, Int.natCast_ediv, Int.gcd_comm d n]
  unfold makeD
  split
  · congr 1; omega
  · congr 1; omega
theorem rat_add (a b : Rat) : a + b = Rat.divInt (a.num * b.den + b.num * a.den) (a.den * b.den) := by
  rw [Rat.add_def', ← Int.natCast_mul, Rat.divInt_ofNat]
theorem rat_mul (a b : Rat) : a * b = Rat.divInt (a.num * b.num) (a.den * b.den) := by
  rw [Rat.mul_def', ← Int.natCast_mul, Rat.divInt_ofNat]
theorem rat_div (a b : Rat) : a / b = Rat.divInt (a.num * b.den) (a.den * b.num) := by
  rw [Rat.div_def, Rat.inv_def, ← Rat.divInt_mul_divInt, Rat.num_divInt_den]
def rcmpV (a b : Rat) : Int := if a < b then -1 else if b < a then 1 else 0
end Go.Proofs.YtpdkbhjcpddnpaaGreatDoor
end

section
namespace Go.Proofs.YtpdkbhjcpddnpaaGreatDoor

theorem dlen_ge {n k : Nat} (h : (canD n).length = k + 1) : wB ^ k ≤ (n : Int) := by
  rcases List.eq_nil_or_concat (canD n) with e | ⟨r, d, e⟩
  · rw [e] at h; simp at h
  · have hd : d ≠ 0 := fun e0 => canD_last n (by rw [e, e0, List.concat_eq_append]; simp)
    have ho := canD_ok n
    have hm := canD_val n
    rw [List.concat_eq_append] at e
    rw [e] at ho hm h
    rw [val_snoc] at hm
    obtain ⟨o1, o2⟩ := okD_app.1 ho
    have hd2 := o2 d (by simp)
    have hv := val_nonneg o1
    have hl : r.length = k := by simpa using h
    have hq : wB ^ r.length * 1 ≤ wB ^ r.length * d := Int.mul_le_mul_of_nonneg_left (by omega) (Int.le_of_lt (wB_pow_pos _))
    rw [hl] at hq hm
    omega
theorem dlen_le {n L : Nat} (h : (n : Int) < wB ^ L) : (canD n).length ≤ L := by
  rcases Nat.lt_or_ge L (canD n).length with h1 | h1
  · obtain ⟨k, hk⟩ : ∃ k, (canD n).length = k + 1 := ⟨(canD n).length - 1, by omega⟩
    have h2 := dlen_ge hk
    have h3 := wB_pow_le (show L ≤ k by omega)
    omega
  · exact h1
theorem dlen_lt (n : Nat) : (n : Int) < wB ^ (canD n).length := by
  have := val_lt (canD_ok n)
  rwa [canD_val] at this
theorem dlen_mul (a b : Nat) : (canD (a * b)).length ≤ (canD a).length + (canD b).length := by
  refine dlen_le ?_
  rw [Int.pow_add, Int.natCast_mul]
  have h1 := dlen_lt a
  have h2 := dlen_lt b
  rcases Nat.eq_zero_or_pos b with rfl | hb
  · rw [show ((0 : Nat) : Int) = 0 from rfl, Int.mul_zero]
    exact Int.mul_pos (wB_pow_pos _) (wB_pow_pos _)
  · exact Int.lt_of_lt_of_le (Int.mul_lt_mul_of_pos_right h1 (by omega)) (Int.mul_le_mul_of_nonneg_left (Int.le_of_lt h2) (Int.le_of_lt (wB_pow_pos _)))
theorem dlen_mono {a b : Nat} (h : a ≤ b) : (canD a).length ≤ (canD b).length := canD_le h
theorem dlen_add {a b L : Nat} (ha : (canD a).length ≤ L) (hb : (canD b).length ≤ L) : (canD (a + b)).length ≤ L + 1 := by
  refine dlen_le ?_
  have h1 := Int.lt_of_lt_of_le (dlen_lt a) (wB_pow_le ha)
  have h2 := Int.lt_of_lt_of_le (dlen_lt b) (wB_pow_le hb)
  have h3 := wB_pow_pos L
  rw [Int.pow_succ]
  unfold wB at *
  omega
/-- How many digits to the base 10^9 a number has. -/
def dl (x : Int) : Nat := (digD x).length
theorem dl_mul (a b : Int) : dl (a * b) ≤ dl a + dl b := by
  unfold dl digD
  rw [Int.natAbs_mul]
  exact dlen_mul _ _
theorem dl_add {a b : Int} {L : Nat} (ha : dl a ≤ L) (hb : dl b ≤ L) : dl (a + b) ≤ L + 1 := by
  unfold dl digD at *
  exact Nat.le_trans (dlen_mono (by omega : (a + b).natAbs ≤ a.natAbs + b.natAbs)) (dlen_add ha hb)
theorem dl_neg (a : Int) : dl (-a) = dl a := by
  unfold dl digD
  rw [Int.natAbs_neg]
theorem dl_div (a : Int) (g : Int) : dl (a / g) ≤ dl a := dlen_mono (Int.natAbs_ediv_le_natAbs a g)
theorem dl_small {a : Int} (h : -9223372036854775808 ≤ a ∧ a ≤ 9223372036854775807) : dl a ≤ 3 := by
  refine dlen_le ?_
  have : (wB : Int) ^ 3 = 1000000000000000000000000000 := by decide
  rw [this]
  omega
/-- Both parts of a ratio have at most so many digits. -/
def RB (L : Nat) (r : Rat) : Prop := dl r.num ≤ L ∧ dl (r.den : Int) ≤ L
theorem RB.more {L M : Nat} {r : Rat} (h : RB L r) (hm : L ≤ M) : RB M r := ⟨Nat.le_trans h.1 hm, Nat.le_trans h.2 hm⟩
theorem dl_makeN (n d : Int) : dl (makeN n d) = dl n := by
  unfold makeN
  split
  · exact dl_neg n
  · rfl
theorem dl_makeD (d : Int) : dl (makeD d) = dl d := by
  unfold makeD
  split
  · exact dl_neg d
  · rfl
theorem rb_make {n d : Int} {L : Nat} (hn : dl n ≤ L) (hd : dl d ≤ L) (h0 : d ≠ 0) : RB L (Rat.divInt n d) := by
  constructor
  · rw [make_num h0]
    exact Nat.le_trans (dl_div _ _) (by rw [dl_makeN]; exact hn)
  · rw [make_den h0]
    exact Nat.le_trans (dl_div _ _) (by rw [dl_makeD]; exact hd)
theorem rden_ne (r : Rat) : (r.den : Int) ≠ 0 := by have := r.den_nz; omega
theorem rb_add {a b : Rat} {L M : Nat} (ha : RB L a) (hb : RB M b) : RB (L + M + 1) (a + b) := by
  rw [rat_add]
  refine rb_make (dl_add ?_ ?_) ?_ (Int.mul_ne_zero (rden_ne a) (rden_ne b))
  · exact Nat.le_trans (dl_mul _ _) (Nat.add_le_add ha.1 hb.2)
  · exact Nat.le_trans (dl_mul _ _) (by have := hb.1; have := ha.2; omega)
  · exact Nat.le_trans (dl_mul _ _) (by have := hb.2; have := ha.2; omega)
theorem rb_neg {a : Rat} {L : Nat} (ha : RB L a) : RB L (-a) := by
  unfold RB
  rw [Rat.neg_num, Rat.neg_den, dl_neg]
  exact ha
theorem rb_sub {a b : Rat} {L M : Nat} (ha : RB L a) (hb : RB M b) : RB (L + M + 1) (a - b) := by
  rw [Rat.sub_eq_add_neg]
  exact rb_add ha (rb_neg hb)
theorem rb_mul {a b : Rat} {L M : Nat} (ha : RB L a) (hb : RB M b) : RB (L + M) (a * b) := by
  rw [rat_mul]
  refine rb_make ?_ ?_ (Int.mul_ne_zero (rden_ne a) (rden_ne b))
  · exact Nat.le_trans (dl_mul _ _) (Nat.add_le_add ha.1 hb.1)
  · exact Nat.le_trans (dl_mul _ _) (Nat.add_le_add ha.2 hb.2)
theorem rb_div {a b : Rat} {L M : Nat} (ha : RB L a) (hb : RB M b) (h0 : b ≠ 0) : RB (L + M) (a / b) := by
  rw [rat_div]
  refine rb_make ?_ ?_ (Int.mul_ne_zero (rden_ne a) (fun e => h0 (Rat.num_eq_zero.1 e)))
  · exact Nat.le_trans (dl_mul _ _) (Nat.add_le_add ha.1 hb.2)
  · exact Nat.le_trans (dl_mul _ _) (Nat.add_le_add ha.2 hb.1)
theorem rb_int {n : Int} (h : -9223372036854775808 ≤ n ∧ n ≤ 9223372036854775807) : RB 3 (n : Rat) := ⟨by rw [Rat.num_intCast]; exact dl_small h, by rw [Rat.den_intCast]; exact dl_small ⟨by decide, by decide⟩⟩
theorem rb_of {n d : Int} (h : -9223372036854775808 ≤ n ∧ n ≤ 9223372036854775807) (g : -9223372036854775808 ≤ d ∧ d ≤ 9223372036854775807) (h0 : d ≠ 0) : RB 3 (Rat.divInt n d) := rb_make (dl_small h) (dl_small g) h0

end Go.Proofs.YtpdkbhjcpddnpaaGreatDoor
end

section
namespace Go.Proofs.YtpdkbhjcpddnpaaGreatDoor

theorem signD_neg (n : Int) : signD (-n) = -signD n := by
  unfold signD
  split <;> split <;> (try split) <;> (try split) <;> omega
theorem signD_zero {n : Int} : signD n = 0 ↔ n = 0 := by
  unfold signD
  split
  · omega
  · split <;> omega
theorem signD_cases (n : Int) : (signD n = -1 ∧ n < 0) ∨ (signD n = 0 ∧ n = 0) ∨ (signD n = 1 ∧ 0 < n) := by
  unfold signD
  split
  · omega
  · split <;> omega
theorem signD_pos {n : Int} (h : 0 < n) : signD n = 1 := by
  unfold signD
  rw [if_neg (by omega), if_neg (by omega)]
theorem dig_zero : digD 0 = [] := canD_zero
theorem dig_neg (n : Int) : digD (-n) = digD n := by unfold digD; rw [Int.natAbs_neg]
theorem dig_val (n : Int) : valD (digD n) = (n.natAbs : Int) := canD_val _
theorem dig_ok (n : Int) : okD (digD n) := canD_ok _
theorem dig_nil {n : Int} : digD n = [] ↔ n = 0 := by
  unfold digD
  rw [canD_nil]
  omega
theorem dig_of {n : Int} {v : Int} (h : v = (n.natAbs : Int)) : canD v.toNat = digD n := by
  unfold digD
  rw [h, Int.toNat_natCast]
theorem add_same {a b : Int} (h : signD a = signD b) : (a + b).natAbs = a.natAbs + b.natAbs ∧ signD (a + b) = signD a := by
  rcases signD_cases a with ⟨h1, h2⟩ | ⟨h1, h2⟩ | ⟨h1, h2⟩ <;> rcases signD_cases b with ⟨h3, h4⟩ | ⟨h3, h4⟩ | ⟨h3, h4⟩ <;> rcases signD_cases (a + b) with ⟨h5, h6⟩ | ⟨h5, h6⟩ | ⟨h5, h6⟩ <;> omega
theorem add_gt {a b : Int} (h : signD a ≠ signD b) (hb : signD b ≠ 0) (hl : b.natAbs < a.natAbs) : (a + b).natAbs = a.natAbs - b.natAbs ∧ signD (a + b) = signD a := by
  rcases signD_cases a with ⟨h1, h2⟩ | ⟨h1, h2⟩ | ⟨h1, h2⟩ <;> rcases signD_cases b with ⟨h3, h4⟩ | ⟨h3, h4⟩ | ⟨h3, h4⟩ <;> rcases signD_cases (a + b) with ⟨h5, h6⟩ | ⟨h5, h6⟩ | ⟨h5, h6⟩ <;> omega
theorem add_lt {a b : Int} (h : signD a ≠ signD b) (ha : signD a ≠ 0) (hl : a.natAbs < b.natAbs) : (a + b).natAbs = b.natAbs - a.natAbs ∧ signD (a + b) = signD b := by
  rw [Int.add_comm]
  exact add_gt (fun e => h e.symm) ha hl
theorem add_eq {a b : Int} (h : signD a ≠ signD b) (hl : a.natAbs = b.natAbs) : a + b = 0 := by
  rcases signD_cases a with ⟨h1, h2⟩ | ⟨h1, h2⟩ | ⟨h1, h2⟩ <;> rcases signD_cases b with ⟨h3, h4⟩ | ⟨h3, h4⟩ | ⟨h3, h4⟩ <;> omega
theorem dl_pos {n : Int} (h : n ≠ 0) : 0 < dl n := by
  unfold dl
  rcases Nat.eq_zero_or_pos (digD n).length with e | e
  · exact absurd (dig_nil.1 (List.eq_nil_of_length_eq_zero e)) h
  · exact e
theorem dl_zero : dl 0 = 0 := by unfold dl; rw [dig_zero]; rfl

end Go.Proofs.YtpdkbhjcpddnpaaGreatDoor
end
