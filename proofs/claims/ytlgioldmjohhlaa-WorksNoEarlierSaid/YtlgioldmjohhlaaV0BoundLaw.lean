/- Plain facts: the program's best bound and set are the specification's. -/
import Derived.Test.YtlgioldmjohhlaaU9RefBest
namespace Go.Proofs.Ytlgioldmjohhlaa
open Go.RowKit

def Asc (l : List Int) : Prop := l.Pairwise (· < ·)
def InR (n : Nat) (l : List Int) : Prop := ∀ x ∈ l, 0 ≤ x ∧ x < (n : Int)

theorem asc_ext : ∀ (l1 l2 : List Int), Asc l1 → Asc l2 → (∀ x, x ∈ l1 ↔ x ∈ l2) → l1 = l2
  | [], [], _, _, _ => rfl
  | [], b :: l2, _, _, h => by have := (h b).2 (by simp); simp at this
  | a :: l1, [], _, _, h => by have := (h a).1 (by simp); simp at this
  | a :: l1, b :: l2, h1, h2, h => by
    have h1' := List.pairwise_cons.1 h1
    have h2' := List.pairwise_cons.1 h2
    have hab : a = b := by
      rcases List.mem_cons.1 ((h a).1 (by simp)) with e | e
      · exact e
      · rcases List.mem_cons.1 ((h b).2 (by simp)) with e2 | e2
        · exact e2.symm
        · have := h2'.1 a e
          have := h1'.1 b e2
          omega
    subst hab
    rw [asc_ext l1 l2 h1'.2 h2'.2 fun x => ?_]
    constructor
    · intro hx
      rcases List.mem_cons.1 ((h x).1 (by simp [hx])) with e | e
      · have := h1'.1 x hx; omega
      · exact e
    · intro hx
      rcases List.mem_cons.1 ((h x).2 (by simp [hx])) with e | e
      · have := h2'.1 x hx; omega
      · exact e

theorem asc_getD {l : List Int} : Asc l ↔ ∀ i, 0 < i → i < l.length → l.getD (i - 1) 0 < l.getD i 0 := by
  constructor
  · intro h i h0 hi
    have := List.pairwise_iff_getElem.1 h (i - 1) i (by omega) hi (by omega)
    simpa [List.getD, hi, show i - 1 < l.length by omega] using this
  · intro h
    have key : ∀ d i, i + d < l.length → 0 < d → l.getD i 0 < l.getD (i + d) 0 := by
      intro d
      induction d with
      | zero => intro i _ h0; omega
      | succ d ih =>
        intro i hi _
        have h1 := h (i + d + 1) (by omega) (by omega)
        rw [show i + d + 1 - 1 = i + d by omega] at h1
        rw [show i + (d + 1) = i + d + 1 by omega]
        by_cases hd : d = 0
        · subst hd; simpa using h1
        · have := ih i (by omega) (by omega); omega
    refine List.pairwise_iff_getElem.2 fun i j hi hj hij => ?_
    have := key (j - i) i (by omega) (by omega)
    rw [show i + (j - i) = j by omega] at this
    simpa [List.getD, hi, hj] using this

/-! Errors of tasks. -/
theorem taskOne_zero {ts : List Task} {l : List Int} {i : Nat} : taskOne ts l i = 0 ↔ (0 ≤ l.getD i 0 ∧ l.getD i 0 < (ts.length : Int)) ∧ (0 < i → l.getD (i - 1) 0 < l.getD i 0) ∧ (ts.getD (l.getD i 0).toNat default).machine = (ts.getD (l.getD 0 0).toNat default).machine := by
  unfold taskOne
  cases hw : withinB (l.getD i 0) 0 ((ts.length : Int) - 1) with
  | false =>
    rw [if_pos rfl]
    constructor
    · intro h; cases h
    · rintro ⟨h, _⟩
      have : withinB (l.getD i 0) 0 ((ts.length : Int) - 1) = true := by
        unfold withinB
        rw [decide_eq_true h.1, decide_eq_true (by omega)]
        rfl
      rw [hw] at this
      cases this
  | true =>
    have hw2 : 0 ≤ l.getD i 0 ∧ l.getD i 0 ≤ (ts.length : Int) - 1 := by
      unfold withinB at hw
      rw [Bool.and_eq_true, decide_eq_true_eq, decide_eq_true_eq] at hw
      exact hw
    rw [if_neg (by simp)]
    constructor
    · intro h
      obtain ⟨h1, h2⟩ := firstV_zero.1 h
      obtain ⟨h3, _⟩ := firstV_zero.1 h2
      have h4 := (unless_ne (by decide)).1 h1
      have h5 := (unless_ne (by decide)).1 h3
      rw [Bool.or_eq_true, decide_eq_true_eq, decide_eq_true_eq] at h4
      rw [decide_eq_true_eq] at h5
      exact ⟨by omega, fun h0 => by rcases h4 with h4 | h4; · omega
                                    · exact h4, h5⟩
    · rintro ⟨_, h2, h3⟩
      refine firstV_zero.2 ⟨(unless_ne (by decide)).2 ?_, firstV_zero.2 ⟨(unless_ne (by decide)).2 (decide_eq_true h3), rfl⟩⟩
      rw [Bool.or_eq_true, decide_eq_true_eq, decide_eq_true_eq]
      by_cases h0 : i = 0
      · exact .inl h0
      · exact .inr (h2 (by omega))
theorem tasksE_zero {ts : List Task} {l : List Int} : tasksE ts l = 0 ↔ l ≠ [] ∧ Asc l ∧ InR ts.length l ∧ ∀ x ∈ l, (ts.getD x.toNat default).machine = (ts.getD (l.getD 0 0).toNat default).machine := by
  unfold tasksE
  by_cases h0 : l.length = 0
  · rw [if_pos h0]
    constructor
    · intro h; cases h
    · rintro ⟨h, _⟩; exact absurd (List.eq_nil_of_length_eq_zero h0) h
  · rw [if_neg h0]
    have hmem : ∀ {x : Int}, x ∈ l → ∃ i, i < l.length ∧ l.getD i 0 = x := fun {x} hx => by
      obtain ⟨i, hi, rfl⟩ := List.getElem_of_mem hx
      exact ⟨i, hi, by simp [List.getD, hi]⟩
    constructor
    · intro h
      have h1 := fun i hi => taskOne_zero.1 (scan_zero h i hi)
      refine ⟨fun e => h0 (by rw [e]; rfl), asc_getD.2 fun i h2 h3 => (h1 i h3).2.1 h2, fun x hx => ?_, fun x hx => ?_⟩
      · obtain ⟨i, hi, rfl⟩ := hmem hx
        exact (h1 i hi).1
      · obtain ⟨i, hi, rfl⟩ := hmem hx
        exact (h1 i hi).2.2
    · rintro ⟨_, h2, h3, h4⟩
      rw [scan_all _ 0 rfl fun i _ hi => taskOne_zero.2 ⟨h3 _ (getD_mem hi), fun h => asc_getD.1 h2 i h hi, h4 _ (getD_mem hi)⟩]
theorem other_zero {ts : List Task} {l : List Int} : anyOther ts l = false ↔ ∀ x ∈ l, (ts.getD x.toNat default).machine = (ts.getD (l.getD 0 0).toNat default).machine := by
  unfold anyOther anyB otherB
  rw [List.any_eq_false]
  simp

/-! Which row comes first. -/
theorem cmp_trans : ∀ (a b c : List Int), a.length = b.length → b.length = c.length → cmpV a b < 0 → cmpV b c < 0 → cmpV a c < 0
  | [], [], [], _, _, h, _ => h
  | x :: a, y :: b, z :: c, h1, h2, h3, h4 => by
    simp only [cmpV] at h3 h4 ⊢
    simp only [List.length_cons, Nat.add_right_cancel_iff] at h1 h2
    by_cases e1 : x < y
    · by_cases e2 : y < z
      · rw [if_pos (by omega)]; decide
      · rw [if_neg e2] at h4
        by_cases e3 : z < y
        · rw [if_pos e3] at h4; exact absurd h4 (by decide)
        · rw [if_pos (by omega)]; decide
    · rw [if_neg e1] at h3
      by_cases e2 : y < x
      · rw [if_pos e2] at h3; exact absurd h3 (by decide)
      · rw [if_neg e2] at h3
        obtain rfl : x = y := by omega
        by_cases e3 : x < z
        · rw [if_pos e3]; decide
        · rw [if_neg e3] at h4 ⊢
          by_cases e4 : z < x
          · rw [if_pos e4] at h4; exact absurd h4 (by decide)
          · rw [if_neg e4] at h4 ⊢
            exact cmp_trans a b c h1 h2 h3 h4
  | [], [], _ :: _, _, h, _, _ => by simp at h
  | [], _ :: _, _, h, _, _, _ => by simp at h
  | _ :: _, [], _, h, _, _, _ => by simp at h
  | _ :: _, _ :: _, [], _, h, _, _ => by simp at h
theorem cmp_self : ∀ a : List Int, cmpV a a = 0
  | [] => rfl
  | x :: a => by simp only [cmpV]; rw [if_neg (by omega), if_neg (by omega)]; exact cmp_self a
theorem cmp_prefix (a b : List Int) {x y : Int} (h : x < y) : ∀ p : List Int, cmpV (p ++ x :: a) (p ++ y :: b) < 0
  | [] => by simp only [List.nil_append, cmpV]; rw [if_pos h]; decide
  | q :: p => by
    simp only [List.cons_append, cmpV]
    rw [if_neg (by omega), if_neg (by omega)]
    exact cmp_prefix a b h p

def Before (a b : List Int) : Prop := a.length < b.length ∨ (a.length = b.length ∧ cmpV a b < 0)
def Better (ts : List Task) (a b : List Int) : Prop := busyV ts b < busyV ts a ∨ (busyV ts a = busyV ts b ∧ Before a b)
theorem Before.trans {a b c : List Int} (h : Before a b) (k : Before b c) : Before a c := by
  rcases h with h | ⟨h, h'⟩ <;> rcases k with k | ⟨k, k'⟩
  · exact .inl (by omega)
  · exact .inl (by omega)
  · exact .inl (by omega)
  · exact .inr ⟨by omega, cmp_trans a b c h k h' k'⟩
theorem Before.irrefl {a : List Int} : ¬ Before a a := by
  rintro (h | ⟨_, h⟩)
  · omega
  · rw [cmp_self] at h; exact absurd h (by decide)
theorem Better.trans {ts : List Task} {a b c : List Int} (h : Better ts a b) (k : Better ts b c) : Better ts a c := by
  rcases h with h | ⟨h, h'⟩ <;> rcases k with k | ⟨k, k'⟩
  · exact .inl (by omega)
  · exact .inl (by omega)
  · exact .inl (by omega)
  · exact .inr ⟨by omega, h'.trans k'⟩
theorem Better.irrefl {ts : List Task} {a : List Int} : ¬ Better ts a a := by
  rintro (h | ⟨_, h⟩)
  · omega
  · exact h.irrefl
theorem better_iff {ts : List Task} {lb l : List Int} : betterB (some lb) (busyV ts lb) l (busyV ts l) = true ↔ Better ts l lb := by
  unfold betterB Better Before
  simp only [Option.isNone_some, Option.getD_some, Bool.false_or, Bool.or_eq_true, Bool.and_eq_true, decide_eq_true_eq]

/-! Sets as bits. -/
theorem bits_asc (set n : Nat) : Asc (bitsUpto set n) := by
  unfold bitsUpto Asc
  refine List.Pairwise.map _ (R := (· < ·)) (fun a b h => by omega) (List.Pairwise.filter _ ?_)
  exact List.pairwise_lt_range
theorem bits_inR (set n : Nat) : InR n (bitsUpto set n) := fun x hx => by
  obtain ⟨i, rfl, h, _⟩ := bits_mem.1 hx
  omega
theorem bits_of {n : Nat} {l : List Int} (h1 : Asc l) (h2 : InR n l) (h3 : l ≠ []) : ∃ set, 0 < set ∧ set < 2 ^ n ∧ bitsUpto set n = l := by
  have hset : ∀ l : List Int, InR n l → ∃ set : Nat, ∀ i : Nat, set.testBit i = true ↔ (i : Int) ∈ l := by
    intro l
    induction l with
    | nil => exact fun _ => ⟨0, fun i => by simp⟩
    | cons x l ih =>
      intro h
      obtain ⟨s, hs⟩ := ih fun y hy => h y (by simp [hy])
      have hx := h x (by simp)
      refine ⟨2 ^ x.toNat ||| s, fun i => ?_⟩
      rw [Nat.testBit_or, Bool.or_eq_true, Nat.testBit_two_pow, decide_eq_true_eq, hs, List.mem_cons]
      constructor
      · rintro (h | h)
        · exact .inl (by omega)
        · exact .inr h
      · rintro (h | h)
        · exact .inl (by omega)
        · exact .inr h
  obtain ⟨s, hs⟩ := hset l h2
  have hlt : s < 2 ^ n := Nat.lt_pow_two_of_testBit s fun i hi => by
    cases hb : s.testBit i with
    | false => rfl
    | true => have := h2 _ ((hs i).1 hb); omega
  refine ⟨s, ?_, hlt, asc_ext _ _ (bits_asc s n) h1 fun x => ?_⟩
  · rcases Nat.eq_zero_or_pos s with h | h
    · exfalso
      subst h
      obtain ⟨x, hx⟩ := List.exists_mem_of_ne_nil l h3
      have hxr := h2 x hx
      have := (hs x.toNat).2 (by rw [show ((x.toNat : Nat) : Int) = x by omega]; exact hx)
      simp at this
    · exact h
  · rw [bits_mem]
    constructor
    · rintro ⟨i, rfl, _, hb⟩; exact (hs i).1 hb
    · intro hx
      have hxr := h2 x hx
      exact ⟨x.toNat, by omega, by omega, (hs _).2 (by rw [show ((x.toNat : Nat) : Int) = x by omega]; exact hx)⟩

/-! The program's search over all sets. -/
theorem bb_inv (ts : List Task) : ∀ k, ((bbUpto ts k) = (none, 0) ∧ ∀ set, 0 < set → set < k → anyOther ts (bitsUpto set ts.length) = true) ∨
    ∃ s0, 0 < s0 ∧ s0 < k ∧ bbUpto ts k = (some (bitsUpto s0 ts.length), busyV ts (bitsUpto s0 ts.length)) ∧ anyOther ts (bitsUpto s0 ts.length) = false ∧ ∀ set, 0 < set → set < k → anyOther ts (bitsUpto set ts.length) = false → ¬ Better ts (bitsUpto set ts.length) (bitsUpto s0 ts.length)
  | 0 => .inl ⟨rfl, fun set _ h => by omega⟩
  | k + 1 => by
    rw [bbUpto]
    by_cases hk : k = 0
    · rw [if_pos hk]; exact .inl ⟨rfl, fun set _ h => by omega⟩
    · rw [if_neg hk]
      unfold bbStep
      by_cases ho : anyOther ts (bitsUpto k ts.length) = true
      · rw [if_pos ho]
        rcases bb_inv ts k with ⟨h1, h2⟩ | ⟨s0, h1, h2, h3, h4, h5⟩
        · refine .inl ⟨h1, fun set h3 h4 => ?_⟩
          by_cases e : set = k
          · subst e; exact ho
          · exact h2 set h3 (by omega)
        · refine .inr ⟨s0, h1, by omega, h3, h4, fun set h6 h7 h8 => ?_⟩
          by_cases e : set = k
          · subst e; rw [ho] at h8; cases h8
          · exact h5 set h6 (by omega) h8
      · rw [if_neg ho]
        have ho' : anyOther ts (bitsUpto k ts.length) = false := by simpa using ho
        rcases bb_inv ts k with ⟨h1, h2⟩ | ⟨s0, h1, h2, h3, h4, h5⟩
        · rw [h1, if_pos (by rfl)]
          refine .inr ⟨k, by omega, by omega, rfl, ho', fun set h3 h4 h5 => ?_⟩
          by_cases e : set = k
          · subst e; exact Better.irrefl
          · rw [h2 set h3 (by omega)] at h5; cases h5
        · rw [h3]
          by_cases hb : betterB (some (bitsUpto s0 ts.length)) (busyV ts (bitsUpto s0 ts.length)) (bitsUpto k ts.length) (busyV ts (bitsUpto k ts.length)) = true
          · rw [if_pos hb]
            refine .inr ⟨k, by omega, by omega, rfl, ho', fun set h6 h7 h8 h9 => ?_⟩
            by_cases e : set = k
            · subst e; exact Better.irrefl h9
            · exact h5 set h6 (by omega) h8 (h9.trans (better_iff.1 hb))
          · rw [if_neg hb]
            refine .inr ⟨s0, h1, by omega, rfl, h4, fun set h6 h7 h8 h9 => ?_⟩
            by_cases e : set = k
            · subst e; exact hb (better_iff.2 h9)
            · exact h5 set h6 (by omega) h8 h9

/-! The specification's lists of sets. -/
theorem subs_prefix {count : Nat} : ∀ (d : Nat) (xs l : List Int), l ∈ subsV count d xs → ∃ ys, l = xs ++ ys
  | 0, xs, l, h => ⟨[], by simp [subsV] at h; simp [h]⟩
  | d + 1, xs, l, h => by
    simp only [subsV, List.mem_flatten, List.mem_map] at h
    obtain ⟨L, ⟨j, _, rfl⟩, hl⟩ := h
    obtain ⟨ys, hy⟩ := subs_prefix d _ l hl
    exact ⟨((nextV xs + j : Nat) : Int) :: ys, by rw [hy]; simp⟩
theorem next_last {xs : List Int} (h : xs ≠ []) (h2 : ∀ x ∈ xs, 0 ≤ x) : ((nextV xs : Nat) : Int) = xs.getLast h + 1 := by
  have hl : 0 < xs.length := Nat.pos_of_ne_zero (fun e => h (List.eq_nil_of_length_eq_zero e))
  have e : xs.getD (xs.length - 1) 0 = xs.getLast h := by
    rw [List.getLast_eq_getElem]
    simp [List.getD, show xs.length - 1 < xs.length by omega]
  unfold nextV
  rw [if_neg (by omega), e]
  have := h2 _ (List.getLast_mem h)
  omega
theorem asc_snoc {xs : List Int} {y : Int} : Asc (xs ++ [y]) ↔ Asc xs ∧ ∀ x ∈ xs, x < y := by
  unfold Asc
  rw [List.pairwise_append]
  simp
theorem asc_last {xs : List Int} (h : xs ≠ []) (ha : Asc xs) : ∀ x ∈ xs, x ≤ xs.getLast h := fun x hx => by
  rw [← List.dropLast_concat_getLast h] at ha hx
  rw [asc_snoc] at ha
  rcases List.mem_append.1 hx with hx | hx
  · exact Int.le_of_lt (ha.2 x hx)
  · rw [List.mem_singleton] at hx; omega
theorem next_asc {xs : List Int} (ha : Asc xs) (h2 : ∀ x ∈ xs, 0 ≤ x) {y : Int} (hy : 0 ≤ y) : (∀ x ∈ xs, x < y) ↔ ((nextV xs : Nat) : Int) ≤ y := by
  by_cases h : xs = []
  · subst h
    exact ⟨fun _ => by simpa [nextV] using hy, fun _ x hx => by cases hx⟩
  · rw [next_last h h2]
    constructor
    · intro h3; have := h3 _ (List.getLast_mem h); omega
    · intro h3 x hx; have := asc_last h ha x hx; omega
theorem inR_snoc {n : Nat} {xs : List Int} {y : Int} : InR n (xs ++ [y]) ↔ InR n xs ∧ 0 ≤ y ∧ y < (n : Int) := by
  unfold InR
  simp only [List.mem_append, List.mem_singleton]
  constructor
  · intro h; exact ⟨fun x hx => h x (.inl hx), h y (.inr rfl)⟩
  · rintro ⟨h1, h2⟩ x (hx | rfl)
    · exact h1 x hx
    · exact h2
theorem subs_sound {n : Nat} : ∀ (d : Nat) (xs l : List Int), Asc xs → InR n xs → l ∈ subsV n d xs → Asc l ∧ InR n l
  | 0, xs, l, h1, h2, h => by simp [subsV] at h; subst h; exact ⟨h1, h2⟩
  | d + 1, xs, l, h1, h2, h => by
    simp only [subsV, List.mem_flatten, List.mem_map] at h
    obtain ⟨L, ⟨j, hj, rfl⟩, hl⟩ := h
    have hj' := List.mem_range.1 hj
    exact subs_sound d _ l (asc_snoc.2 ⟨h1, (next_asc h1 (fun x hx => (h2 x hx).1) (by omega)).2 (by omega)⟩) (inR_snoc.2 ⟨h2, by omega, by omega⟩) hl
theorem subs_complete {n : Nat} : ∀ (d : Nat) (xs ys : List Int), ys.length = d → Asc (xs ++ ys) → InR n (xs ++ ys) → xs ++ ys ∈ subsV n d xs
  | 0, xs, ys, h, _, _ => by
    obtain rfl := List.eq_nil_of_length_eq_zero h
    simp [subsV]
  | d + 1, xs, [], h, _, _ => by simp at h
  | d + 1, xs, y :: ys, h, h1, h2 => by
    have hy := h2 y (by simp)
    have h1' : Asc ((xs ++ [y]) ++ ys) := by simpa using h1
    have h2' : InR n ((xs ++ [y]) ++ ys) := by simpa using h2
    have ha := (List.pairwise_append.1 h1').1
    have hx := (List.pairwise_append.1 ha).1
    have hall : ∀ x ∈ xs, x < y := fun x hx => (List.pairwise_append.1 ha).2.2 x hx y (by simp)
    have hnext := (next_asc hx (fun x hx => (h2 x (by simp [hx])).1) hy.1).1 hall
    simp only [subsV, List.mem_flatten, List.mem_map]
    refine ⟨_, ⟨y.toNat - nextV xs, List.mem_range.2 (by omega), rfl⟩, ?_⟩
    have e : ((nextV xs + (y.toNat - nextV xs) : Nat) : Int) = y := by omega
    rw [e]
    have := subs_complete d (xs ++ [y]) ys (by simpa using h) h1' h2'
    simpa using this
theorem subs_order {n : Nat} : ∀ (d : Nat) (xs : List Int), (subsV n d xs).Pairwise fun a b => cmpV a b < 0
  | 0, xs => by simp [subsV]
  | d + 1, xs => by
    simp only [subsV]
    rw [List.pairwise_flatten]
    refine ⟨fun L hL => ?_, ?_⟩
    · obtain ⟨j, _, rfl⟩ := List.mem_map.1 hL
      exact subs_order d _
    · rw [List.pairwise_map]
      refine List.Pairwise.imp (R := (· < ·)) (fun {i j} hij a ha b hb => ?_) List.pairwise_lt_range
      obtain ⟨as_, rfl⟩ := subs_prefix d _ a ha
      obtain ⟨bs_, rfl⟩ := subs_prefix d _ b hb
      rw [List.append_assoc, List.append_assoc]
      exact cmp_prefix _ _ (by omega) xs

def allUpto (n : Nat) : Nat → List (List Int)
  | 0 => []
  | k + 1 => allUpto n k ++ subsV n (k + 1) []
theorem all_mem {n : Nat} {l : List Int} : ∀ k, l ∈ allUpto n k ↔ ∃ s, 0 < s ∧ s ≤ k ∧ l ∈ subsV n s []
  | 0 => by simp [allUpto]; intro s h1 h2; omega
  | k + 1 => by
    rw [allUpto, List.mem_append, all_mem k]
    constructor
    · rintro (⟨s, h1, h2, h3⟩ | h)
      · exact ⟨s, h1, by omega, h3⟩
      · exact ⟨k + 1, by omega, by omega, h⟩
    · rintro ⟨s, h1, h2, h3⟩
      by_cases e : s = k + 1
      · subst e; exact .inr h3
      · exact .inl ⟨s, h1, by omega, h3⟩
theorem all_order (n : Nat) : ∀ k, (allUpto n k).Pairwise Before
  | 0 => by simp [allUpto]
  | k + 1 => by
    rw [allUpto, List.pairwise_append]
    refine ⟨all_order n k, ?_, fun a ha b hb => ?_⟩
    · refine List.Pairwise.imp_of_mem (fun {a b} ha hb h => ?_) (subs_order (n := n) (k + 1) [])
      exact .inr ⟨by rw [subsV_len _ _ _ ha, subsV_len _ _ _ hb], h⟩
    · obtain ⟨s, h1, h2, h3⟩ := (all_mem k).1 ha
      have := subsV_len _ _ _ h3
      have := subsV_len _ _ _ hb
      simp at *
      exact .inl (by omega)

theorem rb_fold (ts : List Task) : ∀ k, rbUpto ts k = (allUpto ts.length k).foldl (rbStep ts) ([], -1)
  | 0 => rfl
  | k + 1 => by rw [rbUpto, allUpto, List.foldl_append, rb_fold ts k]

def RbInv (ts : List Task) (P : List (List Int)) (s : List Int × Int) : Prop :=
  (s = ([], -1) ∧ ∀ x ∈ P, tasksE ts x ≠ 0) ∨ ∃ pre post, P = pre ++ s.1 :: post ∧ tasksE ts s.1 = 0 ∧ s.2 = busyV ts s.1 ∧ (∀ x ∈ pre, tasksE ts x = 0 → busyV ts x < busyV ts s.1) ∧ ∀ x ∈ post, tasksE ts x = 0 → busyV ts x ≤ busyV ts s.1
theorem rb_inv {ts : List Task} (hnn : ∀ l, tasksE ts l = 0 → 0 ≤ busyV ts l) : ∀ (L P : List (List Int)) (s : List Int × Int), RbInv ts P s → RbInv ts (P ++ L) (L.foldl (rbStep ts) s)
  | [], P, s, h => by simpa using h
  | x :: L, P, s, h => by
    have hstep : RbInv ts (P ++ [x]) (rbStep ts s x) := by
      unfold rbStep
      by_cases hx : tasksE ts x = 0
      · rw [if_neg (by simpa using hx)]
        have hn := hnn x hx
        rcases h with ⟨rfl, h⟩ | ⟨pre, post, h1, h2, h3, h4, h5⟩
        · rw [if_pos (show (([], -1) : List Int × Int).2 < busyV ts x by dsimp only; omega)]
          exact .inr ⟨P, [], rfl, hx, rfl, fun y hy hy2 => absurd hy2 (h y hy), fun y hy => by cases hy⟩
        · by_cases hc : s.2 < busyV ts x
          · rw [if_pos hc]
            refine .inr ⟨P, [], rfl, hx, rfl, fun y hy hy2 => ?_, fun y hy => by cases hy⟩
            rw [h1] at hy
            rw [h3] at hc
            dsimp only
            rcases List.mem_append.1 hy with hy | hy
            · have := h4 y hy hy2; omega
            · rcases List.mem_cons.1 hy with rfl | hy
              · exact hc
              · have := h5 y hy hy2; omega
          · rw [if_neg hc]
            rw [h3] at hc
            refine .inr ⟨pre, post ++ [x], by rw [h1]; simp, h2, h3, h4, fun y hy hy2 => ?_⟩
            rcases List.mem_append.1 hy with hy | hy
            · exact h5 y hy hy2
            · rw [List.mem_singleton] at hy; subst hy; omega
      · rw [if_pos hx]
        rcases h with ⟨h0, h⟩ | ⟨pre, post, h1, h2, h3, h4, h5⟩
        · refine .inl ⟨h0, fun y hy => ?_⟩
          rcases List.mem_append.1 hy with hy | hy
          · exact h y hy
          · rw [List.mem_singleton] at hy; subst hy; exact hx
        · refine .inr ⟨pre, post ++ [x], by rw [h1]; simp, h2, h3, h4, fun y hy hy2 => ?_⟩
          rcases List.mem_append.1 hy with hy | hy
          · exact h5 y hy hy2
          · rw [List.mem_singleton] at hy; subst hy; exact absurd hy2 hx
    have := rb_inv hnn L (P ++ [x]) _ hstep
    rw [List.append_assoc] at this
    exact this

theorem busyR_nn {ts : List Task} {hs tl : List Int} (hh : ∀ j, 0 ≤ hs.getD j 0) (ht : ∀ j, 0 ≤ tl.getD j 0) : ∀ (l : List Int) (h t s : Int), (∀ x ∈ l, 0 ≤ (ts.getD x.toNat default).length) → 0 ≤ h → 0 ≤ t → 0 ≤ s → 0 ≤ busyR ts hs tl l h t s
  | [], h, t, s, _, h1, h2, h3 => by simp only [busyR]; omega
  | x :: l, h, t, s, hx, h1, h2, h3 => by
    rw [busyR]
    have := hh x.toNat
    have := ht x.toNat
    have := hx x (by simp)
    exact busyR_nn hh ht l _ _ _ (fun y hy => hx y (by simp [hy])) (by omega) (by omega) (by omega)
theorem busyV_nn {ts : List Task} (ha : AcyOk ts) (hl : LenOk ts) (hm : MachOk ts) (hp : PosOk ts) {l : List Int} (h : InR ts.length l) : 0 ≤ busyV ts l := by
  have h1 := fun j => (headsV_ok ha hl hm hp j).1
  have h2 := fun j => ((tailsV_ok ha.1 hl).2 j).1
  exact busyR_nn h1 h2 l _ _ _ (fun x hx => (hl _ (by have := h x hx; omega)).1) (h1 _) (h2 _) (Int.le_refl _)

/-- The best bounds are the same, and so are their sets; the set is one of tasks of one machine. -/
theorem bestBound_same {ts : List Task} (ha : AcyOk ts) (hl : LenOk ts) (hm : MachOk ts) (hp : PosOk ts) (h0 : 0 < ts.length) :
    bbUpto ts (2 ^ ts.length) = (some (rbUpto ts ts.length).1, (rbUpto ts ts.length).2) ∧ tasksE ts (rbUpto ts ts.length).1 = 0 ∧ (rbUpto ts ts.length).2 = busyV ts (rbUpto ts ts.length).1 := by
  have h7 := ha.1.1
  have hin : ∀ l, l ∈ allUpto ts.length ts.length ↔ Asc l ∧ InR ts.length l ∧ l ≠ [] := fun l => by
    rw [all_mem]
    constructor
    · rintro ⟨s, h1, h2, h3⟩
      obtain ⟨h4, h5⟩ := subs_sound s [] l (List.Pairwise.nil) (fun x hx => by cases hx) h3
      have := subsV_len _ _ _ h3
      refine ⟨h4, h5, fun e => ?_⟩
      subst e
      simp at this
      omega
    · rintro ⟨h1, h2, h3⟩
      have hle : l.length ≤ ts.length := by
        obtain ⟨set, _, _, hs⟩ := bits_of h1 h2 h3
        rw [← hs]
        exact bits_len _ _
      exact ⟨l.length, Nat.pos_of_ne_zero (fun e => h3 (List.eq_nil_of_length_eq_zero e)), hle, subs_complete l.length [] l rfl h1 h2⟩
  have hnn : ∀ l, tasksE ts l = 0 → 0 ≤ busyV ts l := fun l hE => busyV_nn ha hl hm hp (tasksE_zero.1 hE).2.2.1
  have hrb : RbInv ts (allUpto ts.length ts.length) (rbUpto ts ts.length) := by
    rw [rb_fold]
    have := rb_inv hnn (allUpto ts.length ts.length) [] ([], -1) (.inl ⟨rfl, fun x hx => by cases hx⟩)
    simpa using this
  have hone : tasksE ts [0] = 0 := tasksE_zero.2 ⟨by simp, List.pairwise_singleton _ _, fun x hx => by simp at hx; subst hx; omega, fun x hx => by simp at hx; subst hx; rfl⟩
  have hmem1 : [0] ∈ allUpto ts.length ts.length := (hin [0]).2 ⟨List.pairwise_singleton _ _, fun x hx => by simp at hx; subst hx; omega, by simp⟩
  rcases hrb with ⟨_, h⟩ | ⟨pre, post, h1, h2, h3, h4, h5⟩
  · exact absurd hone (h _ hmem1)
  · generalize rbUpto ts ts.length = R at *
    obtain ⟨l, v⟩ := R
    dsimp only at *
    obtain ⟨e1, e2, e3, e4⟩ := tasksE_zero.1 h2
    obtain ⟨s1, b1, b2, b3⟩ := bits_of e2 e3 e1
    have ho : anyOther ts l = false := other_zero.2 e4
    rcases bb_inv ts (2 ^ ts.length) with ⟨_, h⟩ | ⟨s0, c1, c2, c3, c4, c5⟩
    · have := h s1 b1 b2
      rw [b3, ho] at this
      cases this
    · have hpos := bits_pos c1 c2
      generalize hlb : bitsUpto s0 ts.length = lb at *
      have hlbA : Asc lb := by rw [← hlb]; exact bits_asc _ _
      have hlbR : InR ts.length lb := by rw [← hlb]; exact bits_inR _ _
      have hlbN : lb ≠ [] := fun e => by rw [e] at hpos; simp at hpos
      have hlbE : tasksE ts lb = 0 := tasksE_zero.2 ⟨hlbN, hlbA, hlbR, other_zero.1 c4⟩
      have hlbm := (hin lb).2 ⟨hlbA, hlbR, hlbN⟩
      have hnb := c5 s1 b1 b2 (by rw [b3]; exact ho)
      rw [b3] at hnb
      have hord := all_order ts.length ts.length
      rw [h1] at hlbm hord
      have heq : lb = l := by
        rcases List.mem_append.1 hlbm with hx | hx
        · exact absurd (.inl (h4 lb hx hlbE)) hnb
        · rcases List.mem_cons.1 hx with hx | hx
          · exact hx
          · have hb := (List.pairwise_cons.1 (List.pairwise_append.1 hord).2.1).1 lb hx
            have := h5 lb hx hlbE
            by_cases hv : busyV ts lb < busyV ts l
            · exact absurd (.inl hv) hnb
            · exact absurd (.inr ⟨by omega, hb⟩) hnb
      rw [c3, heq, h3]
      exact ⟨rfl, h2, rfl⟩

end Go.Proofs.Ytlgioldmjohhlaa
