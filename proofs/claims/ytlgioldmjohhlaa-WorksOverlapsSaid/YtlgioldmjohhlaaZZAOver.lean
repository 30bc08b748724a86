/- Plain laws of stacks that overlap: what an accepted stack is; turned round and with the opposite offsets it is accepted as well; their number is even, and does not grow with the overlap. -/
import Derived.Test.YtlgioldmjohhlaaZWRefStack2
namespace Go.Proofs.Ytlgioldmjohhlaa.Over
open Go.RowKit

theorem scan_zero {f : Nat → Int} {n : Nat} : ∀ (m k : Nat), n - k = m → ((scan f n k).2 = 0 ↔ ∀ i, k ≤ i → i < n → f i = 0)
  | 0, k, h => by
    rw [scan_end (by omega)]
    exact ⟨fun _ i h1 h2 => by omega, fun _ => rfl⟩
  | m + 1, k, h => by
    rw [scan_step (by omega)]
    by_cases hz : f k = 0
    · rw [if_pos hz, scan_zero m (k + 1) (by omega)]
      exact ⟨fun h i h1 h2 => by
        rcases Nat.lt_or_ge k i with h3 | h3
        · exact h i h3 h2
        · obtain rfl : i = k := by omega
          exact hz, fun h i h1 h2 => h i (by omega) h2⟩
    · rw [if_neg hz]
      exact ⟨fun h => absurd h hz, fun h => h k (Nat.le_refl _) (by omega)⟩
theorem scan_val {f : Nat → Int} {n : Nat} : ∀ (m k : Nat), n - k = m → (scan f n k).2 = 0 ∨ ∃ i, (scan f n k).2 = f i
  | 0, k, h => by
    rw [scan_end (by omega)]
    exact .inl rfl
  | m + 1, k, h => by
    rw [scan_step (by omega)]
    by_cases hz : f k = 0
    · rw [if_pos hz]
      exact scan_val m (k + 1) (by omega)
    · rw [if_neg hz]
      exact .inr ⟨k, rfl⟩

theorem check_zero (xs : List Int) (ov : Int) : (checkStackV xs ov).2 = 0 ↔ stackE xs.length ov = 0 ∧ (∀ i, i < xs.length → offErr xs i = 0) ∧ ∀ i, i < xs.length → gapErr xs ov i = 0 := by
  have h1 := scan_zero (f := offErr xs) (n := xs.length) _ 0 rfl
  have h2 := scan_zero (f := gapErr xs ov) (n := xs.length) _ 0 rfl
  unfold checkStackV
  by_cases hE : stackE xs.length ov = 0
  · rw [if_neg (by simp [hE])]
    by_cases hO : (scan (offErr xs) xs.length 0).2 = 0
    · rw [if_neg (by simp [hO]), h2]
      exact ⟨fun h => ⟨hE, fun i hi => h1.1 hO i (Nat.zero_le _) hi, fun i hi => h i (Nat.zero_le _) hi⟩, fun h i _ hi => h.2.2 i hi⟩
    · rw [if_pos hO]
      exact ⟨fun h => absurd h hO, fun h => h1.2 fun i _ hi => h.2.1 i hi⟩
  · rw [if_pos hE]
    exact ⟨fun h => absurd h hE, fun h => absurd h.1 hE⟩
theorem check_gap (xs : List Int) (ov : Int) (hE : stackE xs.length ov = 0) (hO : ∀ i, i < xs.length → offErr xs i = 0) : (checkStackV xs ov).2 = 0 ∨ (checkStackV xs ov).2 = 14 := by
  have h1 := (scan_zero (f := offErr xs) (n := xs.length) _ 0 rfl).2 fun i _ hi => hO i hi
  unfold checkStackV
  rw [if_neg (by simp [hE]), if_neg (by simp [h1])]
  rcases scan_val (f := gapErr xs ov) (n := xs.length) _ 0 rfl with h | ⟨i, h⟩
  · exact .inl h
  · rw [h]
    unfold gapErr
    split
    · exact .inr rfl
    · exact .inl rfl

theorem hasB_false (xs : List Int) (x : Int) : hasB xs x = false ↔ ∀ i, i < xs.length → xs.getD i 0 ≠ x := by
  unfold hasB
  rw [Bool.eq_false_iff, Ne, List.contains_iff_mem]
  constructor
  · intro h i hi e
    exact h (by
      have : xs[i] = x := by simpa [List.getD, hi] using e
      exact this ▸ List.getElem_mem hi)
  · intro h hm
    obtain ⟨i, hi, e⟩ := List.getElem_of_mem hm
    exact h i hi (by simp [List.getD, hi, e])
theorem off_zero (xs : List Int) (i : Nat) : offErr xs i = 0 ↔ (0 ≤ xs.getD i 0 ∧ xs.getD i 0 ≤ xs.length - 1) ∧ hasB (xs.take i) (xs.getD i 0) = false := by
  unfold offErr
  rw [firstV_zero, firstV_zero, unless_ne (by decide), unless_ne (by decide)]
  simp [withinB, firstV]

/-- The offsets are 0 to n-1 in some order. -/
structure Perm (xs : List Int) : Prop where
  rng : ∀ i, i < xs.length → 0 ≤ xs.getD i 0 ∧ xs.getD i 0 ≤ xs.length - 1
  ne : ∀ i j, i < j → j < xs.length → xs.getD i 0 ≠ xs.getD j 0
theorem take_getD (xs : List Int) {i k : Nat} (h : k < i) : (xs.take i).getD k 0 = xs.getD k 0 := by simp [List.getD, h]
theorem perm_iff (xs : List Int) : (∀ i, i < xs.length → offErr xs i = 0) ↔ Perm xs := by
  constructor
  · intro h
    refine ⟨fun i hi => ((off_zero xs i).1 (h i hi)).1, fun i j hij hj => ?_⟩
    have := (hasB_false _ _).1 ((off_zero xs j).1 (h j hj)).2 i (by simp; omega)
    rwa [take_getD xs hij] at this
  · intro h i hi
    refine (off_zero xs i).2 ⟨h.rng i hi, (hasB_false _ _).2 fun k hk => ?_⟩
    have hki : k < i := by simp at hk; omega
    rw [take_getD xs hki]
    exact h.ne k i hki hi
theorem gap_zero (xs : List Int) (ov : Int) (i : Nat) : gapErr xs ov i = 0 ↔ (1 < xs.length → ov ≤ sizeV (xs.getD i 0 - xs.getD ((i + xs.length - 1) % xs.length) 0)) := by
  unfold gapErr
  by_cases h1 : 1 < xs.length
  · simp [h1]
  · simp [h1]
theorem prev_eq {n i : Nat} (hi : i < n) : (i + n - 1) % n = if i = 0 then n - 1 else i - 1 := by
  by_cases h : i = 0
  · rw [if_pos h, h, Nat.zero_add, Nat.mod_eq_of_lt (by omega)]
  · rw [if_neg h, show i + n - 1 = (i - 1) + n by omega, Nat.add_mod_right, Nat.mod_eq_of_lt (by omega)]

/-- Two stacks are accepted alike. -/
theorem check_same {xs ys : List Int} (ov : Int) (hl : ys.length = xs.length) (hE : stackE xs.length ov = 0) (hx : Perm xs) (hy : Perm ys)
    (hg : (∀ i, i < xs.length → gapErr xs ov i = 0) ↔ (∀ i, i < ys.length → gapErr ys ov i = 0)) : (checkStackV xs ov).2 = (checkStackV ys ov).2 := by
  have z1 := check_zero xs ov
  have z2 := check_zero ys ov
  have ex := (perm_iff xs).2 hx
  have ey := (perm_iff ys).2 hy
  rcases check_gap xs ov hE ex with h1 | h1 <;> rcases check_gap ys ov (by rw [hl]; exact hE) ey with h2 | h2
  · rw [h1, h2]
  · exact absurd (z2.2 ⟨by rw [hl]; exact hE, ey, hg.1 (z1.1 h1).2.2⟩) (by rw [h2]; decide)
  · exact absurd (z1.2 ⟨hE, ex, hg.2 (z2.1 h2).2.2⟩) (by rw [h1]; decide)
  · rw [h1, h2]

/-- The opposite offsets. -/
structure Opp (xs ys : List Int) : Prop where
  len : ys.length = xs.length
  at_ : ∀ i, i < xs.length → ys.getD i 0 = (xs.length : Int) - 1 - xs.getD i 0
theorem Opp.perm {xs ys : List Int} (h : Opp xs ys) (hx : Perm xs) : Perm ys := by
  refine ⟨fun i hi => ?_, fun i j hij hj => ?_⟩
  · rw [h.len] at hi ⊢
    have := hx.rng i hi
    rw [h.at_ i hi]
    omega
  · rw [h.len] at hj
    have := hx.ne i j hij hj
    rw [h.at_ i (by omega), h.at_ j hj]
    omega
theorem Opp.gap {xs ys : List Int} (h : Opp xs ys) (ov : Int) (i : Nat) (hi : i < xs.length) : gapErr ys ov i = 0 ↔ gapErr xs ov i = 0 := by
  rw [gap_zero, gap_zero, h.len, h.at_ i hi, h.at_ _ (Nat.mod_lt _ (by omega))]
  unfold sizeV
  constructor <;> (intro q h1; have := q h1; omega)
theorem Opp.check {xs ys : List Int} (h : Opp xs ys) (ov : Int) (hE : stackE xs.length ov = 0) (hx : Perm xs) : (checkStackV xs ov).2 = (checkStackV ys ov).2 :=
  check_same ov h.len hE hx (h.perm hx) ⟨fun q i hi => (h.gap ov i (by rw [← h.len]; exact hi)).2 (q i (by rw [← h.len]; exact hi)), fun q i hi => (h.gap ov i hi).1 (q i (by rw [h.len]; exact hi))⟩

/-- The opposite order. -/
structure Back (xs ys : List Int) : Prop where
  len : ys.length = xs.length
  at_ : ∀ i, i < xs.length → ys.getD i 0 = xs.getD (xs.length - 1 - i) 0
theorem Back.turn {xs ys : List Int} (h : Back xs ys) : Back ys xs := ⟨h.len.symm, fun i hi => by
  rw [h.len] at hi ⊢
  rw [h.at_ _ (by omega)]
  congr 1
  omega⟩
theorem Back.perm {xs ys : List Int} (h : Back xs ys) (hx : Perm xs) : Perm ys := by
  refine ⟨fun i hi => ?_, fun i j hij hj => ?_⟩
  · rw [h.len] at hi ⊢
    rw [h.at_ i hi]
    exact hx.rng _ (by omega)
  · rw [h.len] at hj
    rw [h.at_ i (by omega), h.at_ j hj]
    exact (hx.ne (xs.length - 1 - j) (xs.length - 1 - i) (by omega) (by omega)).symm
theorem Back.gap {xs ys : List Int} (h : Back xs ys) (ov : Int) (hz : ∀ i, i < xs.length → gapErr xs ov i = 0) : ∀ i, i < ys.length → gapErr ys ov i = 0 := by
  intro i hi
  rw [h.len] at hi
  rw [gap_zero, h.len]
  intro h1
  rw [prev_eq hi]
  by_cases h0 : i = 0
  · subst h0
    rw [if_pos rfl, h.at_ 0 hi, h.at_ (xs.length - 1) (by omega), show xs.length - 1 - 0 = xs.length - 1 by omega, show xs.length - 1 - (xs.length - 1) = 0 by omega]
    have := (gap_zero xs ov 0).1 (hz 0 hi) h1
    rw [prev_eq hi, if_pos rfl] at this
    unfold sizeV at *
    omega
  · rw [if_neg h0, h.at_ i hi, h.at_ (i - 1) (by omega)]
    have := (gap_zero xs ov (xs.length - 1 - (i - 1))).1 (hz _ (by omega)) h1
    rw [prev_eq (by omega), if_neg (by omega), show xs.length - 1 - (i - 1) - 1 = xs.length - 1 - i by omega] at this
    unfold sizeV at *
    omega
theorem Back.check {xs ys : List Int} (h : Back xs ys) (ov : Int) (hE : stackE xs.length ov = 0) (hx : Perm xs) : (checkStackV xs ov).2 = (checkStackV ys ov).2 :=
  check_same ov h.len hE hx (h.perm hx) ⟨h.gap ov, h.turn.gap ov⟩

/-- Every stack that comes is accepted. -/
theorem stacksV_ok {count : Nat} {ov : Int} : ∀ (d : Nat) (xs zs : List Int), zs ∈ stacksV count ov d xs → (checkStackV zs ov).2 = 0
  | 0, xs, zs, h => by
    simp only [stacksV] at h
    split at h
    · simp at h; subst h; assumption
    · simp at h
  | d + 1, xs, zs, h => by
    obtain ⟨i, _, _, hz⟩ := stacksUpto_mem count (show zs ∈ stacksUpto count ov d xs count from h)
    exact stacksV_ok d _ zs hz

/-- The number of stacks as a sum. -/
def sumTo (f : Nat → Nat) : Nat → Nat
  | 0 => 0
  | n + 1 => sumTo f n + f n
def cntOf (count : Nat) (ov : Int) (d : Nat) (xs : List Int) (i : Nat) : Nat := if hasB xs (i : Int) || nearB xs ov (i : Int) then 0 else (stacksV count ov d (xs ++ [(i : Int)])).length
theorem upto_sum (count : Nat) (ov : Int) (d : Nat) (xs : List Int) : ∀ k, (stacksUpto count ov d xs k).length = sumTo (cntOf count ov d xs) k
  | 0 => by simp [stacksUpto, sumTo]
  | k + 1 => by
    rw [stacksUpto_succ, List.length_append, upto_sum count ov d xs k, sumTo, cntOf]
    split <;> simp
theorem stacks_sum (count : Nat) (ov : Int) (d : Nat) (xs : List Int) : (stacksV count ov (d + 1) xs).length = sumTo (cntOf count ov d xs) count := upto_sum count ov d xs count
theorem sumTo_congr {f g : Nat → Nat} : ∀ {n : Nat}, (∀ i, i < n → f i = g i) → sumTo f n = sumTo g n
  | 0, _ => rfl
  | n + 1, h => by rw [sumTo, sumTo, sumTo_congr fun i hi => h i (by omega), h n (by omega)]
theorem sumTo_le {f g : Nat → Nat} : ∀ {n : Nat}, (∀ i, i < n → f i ≤ g i) → sumTo f n ≤ sumTo g n
  | 0, _ => Nat.le_refl _
  | n + 1, h => Nat.add_le_add (sumTo_le fun i hi => h i (by omega)) (h n (by omega))
theorem sumTo_front (f : Nat → Nat) : ∀ n, sumTo f (n + 1) = f 0 + sumTo (fun i => f (i + 1)) n
  | 0 => by simp [sumTo]
  | n + 1 => by
    rw [sumTo, sumTo_front f n, sumTo]
    omega
theorem sumTo_turn : ∀ (n : Nat) (f : Nat → Nat), sumTo (fun i => f (n - 1 - i)) n = sumTo f n
  | 0, _ => rfl
  | n + 1, f => by
    rw [sumTo, sumTo_front f n, show n + 1 - 1 - n = 0 by omega, ← sumTo_turn n (fun i => f (i + 1)), Nat.add_comm]
    congr 1
    exact sumTo_congr fun i hi => by
      show f (n + 1 - 1 - i) = f (n - 1 - i + 1)
      congr 1
      omega
theorem sumTo_even : ∀ (n : Nat) (f : Nat → Nat), (∀ i, i < n → f i = f (n - 1 - i)) → (∀ i, 2 * i + 1 = n → f i % 2 = 0) → sumTo f n % 2 = 0
  | 0, _, _, _ => rfl
  | 1, f, _, h => by
    have := h 0 rfl
    simpa [sumTo] using this
  | n + 2, f, hs, hm => by
    rw [sumTo, sumTo_front]
    have h0 := hs 0 (by omega)
    rw [show n + 2 - 1 - 0 = n + 1 by omega] at h0
    have ih := sumTo_even n (fun i => f (i + 1)) (fun i hi => by
      show f (i + 1) = f (n - 1 - i + 1)
      rw [hs (i + 1) (by omega)]
      congr 1
      omega) (fun i hi => hm (i + 1) (by omega))
    omega

theorem near_mono {xs : List Int} {ov ov' i : Int} (h : ov ≤ ov') (hn : nearB xs ov i = true) : nearB xs ov' i = true := by
  simp only [nearB, Bool.and_eq_true, decide_eq_true_eq] at *
  exact ⟨hn.1, by omega⟩
/-- Their number does not grow with the overlap. -/
theorem stacks_mono (count : Nat) (ov : Int) (h0 : 0 ≤ ov) : ∀ (d : Nat) (xs : List Int), (stacksV count (ov + 1) d xs).length ≤ (stacksV count ov d xs).length
  | 0, xs => by
    simp only [stacksV]
    by_cases h : (checkStackV xs (ov + 1)).2 = 0
    · have h2 : (checkStackV xs ov).2 = 0 := by
        obtain ⟨h3, h4, h5⟩ := (check_zero _ _).1 h
        refine (check_zero _ _).2 ⟨?_, h4, fun i hi => (gap_zero _ _ _).2 fun h1 => ?_⟩
        · have := (unless_ne (by decide)).1 h3
          refine (unless_ne (by decide)).2 ?_
          simp only [withinB, Bool.and_eq_true, decide_eq_true_eq] at *
          omega
        · have := (gap_zero _ _ _).1 (h5 i hi) h1
          omega
      rw [if_pos h, if_pos h2]
      simp
    · rw [if_neg h]
      exact Nat.zero_le _
  | d + 1, xs => by
    rw [stacks_sum, stacks_sum]
    refine sumTo_le fun i _ => ?_
    unfold cntOf
    cases hh : hasB xs (i : Int)
    · cases hn : nearB xs ov (i : Int)
      · cases hn2 : nearB xs (ov + 1) (i : Int)
        · simpa using stacks_mono count ov h0 d (xs ++ [(i : Int)])
        · simp
      · rw [near_mono (by omega) hn]
        simp
    · simp

def oppV (c : Nat) (x : Int) : Int := (c : Int) - 1 - x
theorem opp_has (c : Nat) (xs : List Int) (x : Int) : hasB (xs.map (oppV c)) (oppV c x) = hasB xs x := by
  cases h : hasB xs x
  · rw [hasB_false] at h ⊢
    intro i hi
    rw [List.length_map] at hi
    have := h i hi
    simp [List.getD, hi] at this ⊢
    unfold oppV
    omega
  · unfold hasB at *
    rw [List.contains_iff_mem] at *
    exact List.mem_map.2 ⟨x, h, rfl⟩
theorem opp_near (c : Nat) (xs : List Int) (ov x : Int) : nearB (xs.map (oppV c)) ov (oppV c x) = nearB xs ov x := by
  unfold nearB
  rw [List.length_map]
  by_cases h : 0 < xs.length
  · have e : (xs.map (oppV c)).getD (xs.length - 1) 0 = oppV c (xs.getD (xs.length - 1) 0) := by simp [List.getD, show xs.length - 1 < xs.length by omega]
    have e2 : sizeV (oppV c x - oppV c (xs.getD (xs.length - 1) 0)) = sizeV (x - xs.getD (xs.length - 1) 0) := by unfold sizeV oppV; omega
    rw [e, e2]
  · simp [h]
theorem opp_opp (xs : List Int) (c : Nat) (hl : xs.length = c) : Opp xs (xs.map (oppV c)) := ⟨by simp, fun i hi => by
  simp only [List.getD, List.getElem?_map, List.getElem?_eq_getElem hi, Option.map_some, Option.getD_some, hl]
  rfl⟩
theorem opp_ok (xs : List Int) (c : Nat) (ov : Int) (hl : xs.length = c) (h : (checkStackV xs ov).2 = 0) : (checkStackV (xs.map (oppV c)) ov).2 = 0 := by
  obtain ⟨h1, h2, _⟩ := (check_zero xs ov).1 h
  rw [← (opp_opp xs c hl).check ov h1 ((perm_iff xs).1 h2), h]
theorem opp_twice (xs : List Int) (c : Nat) : (xs.map (oppV c)).map (oppV c) = xs := by
  rw [List.map_map]
  have : oppV c ∘ oppV c = id := by funext x; simp [oppV]; omega
  rw [this, List.map_id]
/-- As many stacks begin so as begin with the opposite offsets. -/
theorem opp_cnt (count : Nat) (ov : Int) : ∀ (d : Nat) (xs : List Int), xs.length + d = count → (stacksV count ov d (xs.map (oppV count))).length = (stacksV count ov d xs).length
  | 0, xs, hl => by
    simp only [stacksV]
    by_cases h : (checkStackV xs ov).2 = 0
    · rw [if_pos h, if_pos (opp_ok xs count ov hl h)]
      simp
    · have h2 : ¬ (checkStackV (xs.map (oppV count)) ov).2 = 0 := fun h3 => h (by
        have := opp_ok (xs.map (oppV count)) count ov (by simpa using hl) h3
        rwa [opp_twice] at this)
      rw [if_neg h, if_neg h2]
  | d + 1, xs, hl => by
    rw [stacks_sum, stacks_sum, ← sumTo_turn count (cntOf count ov d xs)]
    refine sumTo_congr fun i hi => ?_
    unfold cntOf
    have e : (i : Int) = oppV count ((count - 1 - i : Nat) : Int) := by unfold oppV; omega
    rw [show hasB (xs.map (oppV count)) (i : Int) = hasB xs ((count - 1 - i : Nat) : Int) by rw [e, opp_has],
      show nearB (xs.map (oppV count)) ov (i : Int) = nearB xs ov ((count - 1 - i : Nat) : Int) by rw [e, opp_near],
      show xs.map (oppV count) ++ [(i : Int)] = (xs ++ [((count - 1 - i : Nat) : Int)]).map (oppV count) by rw [List.map_append, e]; simp [← e],
      opp_cnt count ov d _ (by simp; omega)]
theorem opp_cntOf (count : Nat) (ov : Int) (d : Nat) (xs : List Int) (hx : xs.map (oppV count) = xs) (hl : xs.length + d + 1 = count) (i : Nat) (hi : i < count) : cntOf count ov d xs i = cntOf count ov d xs (count - 1 - i) := by
  have e : (i : Int) = oppV count ((count - 1 - i : Nat) : Int) := by unfold oppV; omega
  unfold cntOf
  have h1 : hasB xs (i : Int) = hasB xs ((count - 1 - i : Nat) : Int) := by
    have := opp_has count xs ((count - 1 - i : Nat) : Int)
    rwa [hx, ← e] at this
  have h2 : nearB xs ov (i : Int) = nearB xs ov ((count - 1 - i : Nat) : Int) := by
    have := opp_near count xs ov ((count - 1 - i : Nat) : Int)
    rwa [hx, ← e] at this
  have h3 : xs ++ [(i : Int)] = (xs ++ [((count - 1 - i : Nat) : Int)]).map (oppV count) := by rw [List.map_append, hx, List.map_singleton, ← e]
  rw [h1, h2, h3, opp_cnt count ov d _ (by simp; omega)]
/-- The number of stacks is even. -/
theorem stacks_even (count : Nat) (ov : Int) (h : 1 < count) : (stacksV count ov count []).length % 2 = 0 := by
  obtain ⟨d, rfl⟩ : ∃ d, count = d + 2 := ⟨count - 2, by omega⟩
  rw [stacks_sum]
  refine sumTo_even _ _ (fun i hi => opp_cntOf (d + 2) ov (d + 1) [] rfl (by simp) i hi) fun m hm => ?_
  unfold cntOf
  split
  · rfl
  · rw [stacks_sum]
    have hx : ([] ++ [(m : Int)]).map (oppV (d + 2)) = [] ++ [(m : Int)] := by
      simp [oppV]
      omega
    refine sumTo_even _ _ (fun i hi => opp_cntOf (d + 2) ov d _ hx (by simp; omega) i hi) fun m' hm' => ?_
    obtain rfl : m' = m := by omega
    unfold cntOf
    rw [if_pos (by simp [hasB])]

end Go.Proofs.Ytlgioldmjohhlaa.Over
