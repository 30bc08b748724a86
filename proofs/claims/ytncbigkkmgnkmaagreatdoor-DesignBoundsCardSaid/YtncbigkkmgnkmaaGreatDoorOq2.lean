/- Plain facts on choices and sets in lexicographic order: what comes next, and where all of them end. No program is in sight.
Plain facts on cores: heights, the area of widths as the sum of rows. No program is in sight.
Plain facts on the best steps of a core: the first of the greatest areas among all sets of widths. No program is in sight.
Plain facts: the root by bits; all sets of so many numbers, as the specification lists them. No program is in sight. -/
import Derived.Test.YtncbigkkmgnkmaaGreatDoorRows

section
namespace Go.Proofs.YtncbigkkmgnkmaaGreatDoor
/-- All choices: for each slot (with so many parts) a number, lexicographically ascending. -/
def allC : List Nat → List (List Int)
  | [] => [[]]
  | n :: ns => (List.range n).flatMap fun (x : Nat) => (allC ns).map fun l => (x : Int) :: l
/-- The next choice; none behind the last one. -/
def nextC : List Nat → List Int → Option (List Int)
  | n :: ns, x :: l => match nextC ns l with
    | some m => some (x :: m)
    | none => if x + 1 < (n : Int) then some ((x + 1) :: List.replicate ns.length 0) else none
  | _, _ => none
theorem allC_ne {ns : List Nat} (h : ∀ n ∈ ns, 0 < n) : allC ns ≠ [] := by
  induction ns with
  | nil => simp [allC]
  | cons n ns ih =>
    have h1 := ih fun m hm => h m (List.mem_cons_of_mem _ hm)
    have h2 := h n (List.mem_cons_self ..)
    obtain ⟨y, hy⟩ := List.exists_mem_of_ne_nil _ h1
    refine List.ne_nil_of_mem (a := (0 : Int) :: y) ?_
    rw [allC, List.mem_flatMap]
    exact ⟨0, List.mem_range.2 h2, List.mem_map.2 ⟨y, hy, rfl⟩⟩
/-- A list that goes from its head by steps of a function to an end. -/
def Steps (f : List Int → Option (List Int)) : List (List Int) → Prop
  | [] => True
  | [x] => f x = none
  | x :: y :: l => f x = some y ∧ Steps f (y :: l)
theorem steps_block {ns : List Nat} {n : Nat} {x : Int} {z : List Int} (hx : x + 1 < (n : Int) → z = (x + 1) :: List.replicate ns.length 0) (hn : ¬ x + 1 < (n : Int) → False) :
    ∀ {l r : List (List Int)}, Steps (nextC ns) l → l ≠ [] → Steps (nextC (n :: ns)) (z :: r) → Steps (nextC (n :: ns)) (l.map (fun y => x :: y) ++ z :: r)
  | [], _, _, h, _ => absurd rfl h
  | [a], r, h1, _, h2 => by
    by_cases h : x + 1 < (n : Int)
    · refine ⟨?_, h2⟩
      have h1 : nextC ns a = none := h1
      simp only [nextC, h1, if_pos h, hx h]
    · exact absurd (hn h) id
  | a :: b :: l, r, h1, _, h2 => by
    have h3 := steps_block hx hn (l := b :: l) (r := r) h1.2 (by simp) h2
    refine ⟨?_, h3⟩
    simp only [nextC, h1.1]
theorem steps_last {ns : List Nat} {n : Nat} {x : Int} (hx : ¬ x + 1 < (n : Int)) :
    ∀ {l : List (List Int)}, Steps (nextC ns) l → Steps (nextC (n :: ns)) (l.map (fun y => x :: y))
  | [], _ => trivial
  | [a], h1 => by
    have h1 : nextC ns a = none := h1
    show nextC (n :: ns) (x :: a) = none
    simp only [nextC, h1, if_neg hx]
  | a :: b :: l, h1 => by
    have h3 := steps_last hx (l := b :: l) h1.2
    refine ⟨?_, h3⟩
    simp only [nextC, h1.1]
theorem allC_head {ns : List Nat} (h : ∀ n ∈ ns, 0 < n) : ∃ r, allC ns = List.replicate ns.length 0 :: r := by
  induction ns with
  | nil => exact ⟨[], rfl⟩
  | cons n ns ih =>
    obtain ⟨r, hr⟩ := ih fun m hm => h m (List.mem_cons_of_mem _ hm)
    obtain ⟨k, rfl⟩ : ∃ k, n = k + 1 := ⟨n - 1, by have := h n (List.mem_cons_self ..); omega⟩
    rw [allC, List.range_succ_eq_map, List.flatMap_cons, hr]
    exact ⟨_, rfl⟩
theorem allC_steps : ∀ {ns : List Nat}, (∀ n ∈ ns, 0 < n) → Steps (nextC ns) (allC ns)
  | [], _ => rfl
  | n :: ns, h => by
    have h1 : ∀ m ∈ ns, 0 < m := fun m hm => h m (List.mem_cons_of_mem _ hm)
    have ih := allC_steps h1
    have hne := allC_ne h1
    obtain ⟨r0, hr0⟩ := allC_head h1
    -- from x on
    have key : ∀ k x : Nat, x + k + 1 = n → Steps (nextC (n :: ns)) ((List.range' x (k + 1)).flatMap fun (x : Nat) => (allC ns).map fun l => (x : Int) :: l) := by
      intro k
      induction k with
      | zero =>
        intro x hx
        rw [List.range'_succ, List.range'_zero, List.flatMap_cons, List.flatMap_nil, List.append_nil]
        exact steps_last (by omega) ih
      | succ k ihk =>
        intro x hx
        rw [List.range'_succ, List.flatMap_cons]
        have h2 := ihk (x + 1) (by omega)
        have e : ∃ t, ((List.range' (x + 1) (k + 1)).flatMap fun (x : Nat) => (allC ns).map fun l => (x : Int) :: l) = (((x + 1 : Nat) : Int) :: List.replicate ns.length 0) :: t := by
          rw [List.range'_succ, List.flatMap_cons, hr0]
          exact ⟨_, rfl⟩
        obtain ⟨t, ht⟩ := e
        rw [ht] at h2 ⊢
        exact steps_block (x := (x : Int)) (n := n) (fun _ => by push_cast; rfl) (fun h => by omega) ih hne h2
    obtain ⟨k, rfl⟩ : ∃ k, n = k + 1 := ⟨n - 1, by have := h n (List.mem_cons_self ..); omega⟩
    rw [allC, List.range_eq_range']
    exact key k 0 (by omega)
theorem next_none : ∀ {ns : List Nat} {l : List Int}, l.length = ns.length → (∀ j, j < ns.length → l.getD j 0 + 1 = (ns.getD j 0 : Int)) → nextC ns l = none
  | [], _, _, _ => by simp [nextC]
  | n :: ns, [], h, _ => by simp at h
  | n :: ns, x :: l, h, hm => by
    have h1 := next_none (ns := ns) (l := l) (by simpa using h) fun j hj => by
      have := hm (j + 1) (by simpa using hj)
      simpa using this
    have h2 := hm 0 (by simp)
    simp only [List.getD_cons_zero] at h2
    rw [nextC, h1]
    simp only [h2]
    rw [if_neg (by omega)]
theorem next_some : ∀ {ns : List Nat} {l : List Int} {i : Nat}, l.length = ns.length → i < ns.length → (∀ j, i < j → j < ns.length → l.getD j 0 + 1 = (ns.getD j 0 : Int)) → l.getD i 0 + 1 < (ns.getD i 0 : Int) →
    nextC ns l = some (l.take i ++ (l.getD i 0 + 1) :: List.replicate (ns.length - i - 1) 0)
  | [], _, i, _, h, _, _ => by simp at h
  | n :: ns, [], i, h, _, _, _ => by simp at h
  | n :: ns, x :: l, 0, h, _, hm, hlt => by
    have h1 := next_none (ns := ns) (l := l) (by simpa using h) fun j hj => by
      have := hm (j + 1) (by omega) (by simpa using hj)
      simpa using this
    simp only [List.getD_cons_zero] at hlt
    rw [nextC, h1]
    simp [hlt]
  | n :: ns, x :: l, i + 1, h, hi, hm, hlt => by
    have h1 := next_some (ns := ns) (l := l) (i := i) (by simpa using h) (by simpa using hi) (fun j hj hk => by
      have := hm (j + 1) (by omega) (by simpa using hk)
      simpa using this) (by simpa using hlt)
    rw [nextC, h1]
    simp
theorem Steps.at_ {f : List Int → Option (List Int)} : ∀ {l : List (List Int)} {i : Nat}, Steps f l → i + 1 < l.length → f (l.getD i []) = some (l.getD (i + 1) [])
  | [], i, _, h => by simp at h
  | [_], i, _, h => by simp at h
  | a :: b :: l, 0, h, _ => h.1
  | a :: b :: l, i + 1, h, hi => by
    have := Steps.at_ (l := b :: l) (i := i) h.2 (by simpa using hi)
    simpa using this
theorem Steps.last {f : List Int → Option (List Int)} : ∀ {l : List (List Int)} {i : Nat}, Steps f l → i + 1 = l.length → f (l.getD i []) = none
  | [], i, _, h => by simp at h
  | [a], i, hs, h => by
    obtain rfl : i = 0 := by simpa using h
    exact hs
  | a :: b :: l, 0, _, h => by simp at h
  | a :: b :: l, i + 1, h, hi => by
    have := Steps.last (l := b :: l) (i := i) h.2 (by simpa using hi)
    simpa using this
/-- All choices fit the slots. -/
theorem allC_mem : ∀ {ns : List Nat} {l : List Int}, l ∈ allC ns ↔ l.length = ns.length ∧ ∀ j, j < ns.length → 0 ≤ l.getD j 0 ∧ l.getD j 0 < (ns.getD j 0 : Int)
  | [], l => by
    rw [allC, List.mem_singleton]
    constructor
    · rintro rfl; exact ⟨rfl, fun j hj => by simp at hj⟩
    · rintro ⟨h, _⟩; exact List.eq_nil_of_length_eq_zero h
  | n :: ns, l => by
    rw [allC, List.mem_flatMap]
    constructor
    · rintro ⟨x, hx, hl⟩
      obtain ⟨m, hm, rfl⟩ := List.mem_map.1 hl
      obtain ⟨h1, h2⟩ := allC_mem.1 hm
      refine ⟨by simp [h1], fun j hj => ?_⟩
      rcases j with _ | j
      · have := List.mem_range.1 hx
        simp only [List.getD_cons_zero]
        omega
      · simpa using h2 j (by simpa using hj)
    · rintro ⟨h1, h2⟩
      rcases l with _ | ⟨x, l⟩
      · simp at h1
      · have h3 := h2 0 (by simp)
        simp only [List.getD_cons_zero] at h3
        refine ⟨x.toNat, List.mem_range.2 (by omega), List.mem_map.2 ⟨l, allC_mem.2 ⟨by simpa using h1, fun j hj => ?_⟩, ?_⟩⟩
        · have := h2 (j + 1) (by simpa using hj)
          simpa using this
        · rw [Int.toNat_of_nonneg h3.1]
/-- The numbers from x on, so many. -/
def upS (x : Int) : Nat → List Int
  | 0 => []
  | d + 1 => x :: upS (x + 1) d
theorem upS_length (x : Int) (d : Nat) : (upS x d).length = d := by
  induction d generalizing x with
  | zero => rfl
  | succ d ih => simp [upS, ih]
theorem upS_get {x : Int} {d : Nat} : ∀ {j : Nat}, j < d → (upS x d).getD j 0 = x + j := by
  induction d generalizing x with
  | zero => intro j h; omega
  | succ d ih =>
    intro j h
    rcases j with _ | j
    · simp [upS]
    · rw [upS, List.getD_cons_succ, ih (by omega)]
      push_cast
      omega
/-- All ascending lists of d numbers from lo on below n. -/
def allS (n : Nat) : Nat → Nat → List (List Int)
  | 0, _ => [[]]
  | d + 1, lo => (List.range' lo (n - lo)).flatMap fun (x : Nat) => (allS n d (x + 1)).map fun l => (x : Int) :: l
def nextS (n : Nat) : List Int → Option (List Int)
  | [] => none
  | x :: l => match nextS n l with
    | some m => some (x :: m)
    | none => if x + 1 + (l.length : Int) < (n : Int) then some (upS (x + 1) (l.length + 1)) else none
theorem allS_mem_length {n : Nat} : ∀ {d lo : Nat} {l : List Int}, l ∈ allS n d lo → l.length = d
  | 0, lo, l, h => by rw [allS, List.mem_singleton] at h; rw [h]; rfl
  | d + 1, lo, l, h => by
    rw [allS, List.mem_flatMap] at h
    obtain ⟨x, _, hl⟩ := h
    obtain ⟨m, hm, rfl⟩ := List.mem_map.1 hl
    simp [allS_mem_length hm]
theorem allS_empty {n : Nat} : ∀ {d lo : Nat}, n < lo + d → allS n d lo = [] ∨ d = 0
  | 0, lo, h => .inr rfl
  | d + 1, lo, h => .inl (by
    rw [allS, List.flatMap_eq_nil_iff]
    intro x hx
    have hx := List.mem_range'_1.1 hx
    rw [List.map_eq_nil_iff]
    rcases allS_empty (n := n) (d := d) (lo := x + 1) (by omega) with h1 | h1
    · exact h1
    · omega)
theorem range'_cons {lo k : Nat} : List.range' lo (k + 1) = lo :: List.range' (lo + 1) k := List.range'_succ ..
theorem allS_head {n : Nat} : ∀ {d lo : Nat}, lo + d ≤ n → ∃ r, allS n d lo = upS (lo : Int) d :: r
  | 0, lo, _ => ⟨[], rfl⟩
  | d + 1, lo, h => by
    obtain ⟨r, hr⟩ := allS_head (n := n) (d := d) (lo := lo + 1) (by omega)
    obtain ⟨k, hk⟩ : ∃ k, n - lo = k + 1 := ⟨n - lo - 1, by omega⟩
    rw [allS, hk, range'_cons, List.flatMap_cons, hr]
    exact ⟨_, rfl⟩
theorem steps_blockS {n d : Nat} {x : Int} (hx : x + 1 + (d : Int) < (n : Int)) :
    ∀ {l r : List (List Int)}, (∀ y ∈ l, y.length = d) → Steps (nextS n) l → l ≠ [] → Steps (nextS n) (upS (x + 1) (d + 1) :: r) → Steps (nextS n) (l.map (fun y => x :: y) ++ upS (x + 1) (d + 1) :: r)
  | [], _, _, _, h, _ => absurd rfl h
  | [a], r, hd, h1, _, h2 => by
    refine ⟨?_, h2⟩
    have h1 : nextS n a = none := h1
    have h3 := hd a (by simp)
    simp only [nextS, h1, h3, if_pos hx]
  | a :: b :: l, r, hd, h1, _, h2 => by
    have h3 := steps_blockS hx (l := b :: l) (r := r) (fun y hy => hd y (List.mem_cons_of_mem _ hy)) h1.2 (by simp) h2
    refine ⟨?_, h3⟩
    simp only [nextS, h1.1]
theorem steps_lastS {n d : Nat} {x : Int} (hx : ¬ x + 1 + (d : Int) < (n : Int)) :
    ∀ {l : List (List Int)}, (∀ y ∈ l, y.length = d) → Steps (nextS n) l → Steps (nextS n) (l.map (fun y => x :: y))
  | [], _, _ => trivial
  | [a], hd, h1 => by
    have h1 : nextS n a = none := h1
    show nextS n (x :: a) = none
    simp only [nextS, h1, hd a (by simp), if_neg hx]
  | a :: b :: l, hd, h1 => by
    have h3 := steps_lastS hx (l := b :: l) (fun y hy => hd y (List.mem_cons_of_mem _ hy)) h1.2
    refine ⟨?_, h3⟩
    simp only [nextS, h1.1]
theorem allS_steps {n : Nat} : ∀ (d lo : Nat), Steps (nextS n) (allS n d lo)
  | 0, lo => rfl
  | d + 1, lo => by
    have ih := allS_steps (n := n) d
    have key : ∀ k x : Nat, x + k = n → Steps (nextS n) ((List.range' x k).flatMap fun (x : Nat) => (allS n d (x + 1)).map fun l => (x : Int) :: l) := by
      intro k
      induction k with
      | zero => intro x _; exact trivial
      | succ k ihk =>
        intro x hx
        rw [range'_cons, List.flatMap_cons]
        have h2 := ihk (x + 1) (by omega)
        by_cases hlt : (x : Int) + 1 + (d : Int) < (n : Int)
        · obtain ⟨t, ht⟩ : ∃ t, ((List.range' (x + 1) k).flatMap fun (x : Nat) => (allS n d (x + 1)).map fun l => (x : Int) :: l) = upS ((x : Int) + 1) (d + 1) :: t := by
            obtain ⟨j, rfl⟩ : ∃ j, k = j + 1 := ⟨k - 1, by omega⟩
            obtain ⟨r, hr⟩ := allS_head (n := n) (d := d) (lo := x + 1 + 1) (by omega)
            rw [range'_cons, List.flatMap_cons, hr]
            exact ⟨_, rfl⟩
          rw [ht] at h2 ⊢
          obtain ⟨r, hr⟩ := allS_head (n := n) (d := d) (lo := x + 1) (by omega)
          exact steps_blockS hlt (fun y hy => allS_mem_length hy) (ih (x + 1)) (by rw [hr]; simp) h2
        · have e : ((List.range' (x + 1) k).flatMap fun (x : Nat) => (allS n d (x + 1)).map fun l => (x : Int) :: l) = [] := by
            rw [List.flatMap_eq_nil_iff]
            intro y hy
            have hy := List.mem_range'_1.1 hy
            rw [List.map_eq_nil_iff]
            rcases allS_empty (n := n) (d := d) (lo := y + 1) (by omega) with h1 | h1
            · exact h1
            · subst h1; omega
          rw [e, List.append_nil]
          exact steps_lastS hlt (fun y hy => allS_mem_length hy) (ih (x + 1))
    rw [allS]
    by_cases h : lo ≤ n
    · exact key _ lo (by omega)
    · rw [show n - lo = 0 by omega]; exact trivial
theorem nextS_none {n : Nat} : ∀ {l : List Int}, (∀ j, j < l.length → l.getD j 0 = (n : Int) - l.length + j) → nextS n l = none
  | [], _ => rfl
  | x :: l, hm => by
    have h1 := nextS_none (n := n) (l := l) fun j hj => by
      have := hm (j + 1) (by simpa using hj)
      simp only [List.getD_cons_succ, List.length_cons] at this
      rw [this]; push_cast; omega
    have h2 := hm 0 (by simp)
    simp only [List.getD_cons_zero, List.length_cons] at h2
    rw [nextS, h1]
    simp only
    rw [if_neg (by push_cast at h2; omega)]
theorem nextS_some {n : Nat} : ∀ {l : List Int} {i : Nat}, i < l.length → (∀ j, i < j → j < l.length → l.getD j 0 = (n : Int) - l.length + j) → l.getD i 0 < (n : Int) - l.length + i →
    nextS n l = some (l.take i ++ upS (l.getD i 0 + 1) (l.length - i))
  | [], i, h, _, _ => by simp at h
  | x :: l, 0, _, hm, hlt => by
    have h1 := nextS_none (n := n) (l := l) fun j hj => by
      have := hm (j + 1) (by omega) (by simpa using hj)
      simp only [List.getD_cons_succ, List.length_cons] at this
      rw [this]; push_cast; omega
    simp only [List.getD_cons_zero, List.length_cons] at hlt
    rw [nextS, h1]
    simp only
    rw [if_pos (by push_cast at hlt; omega)]
    simp
  | x :: l, i + 1, hi, hm, hlt => by
    have h1 := nextS_some (n := n) (l := l) (i := i) (by simpa using hi) (fun j hj hk => by
      have := hm (j + 1) (by omega) (by simpa using hk)
      simp only [List.getD_cons_succ, List.length_cons] at this
      rw [this]; push_cast; omega) (by
      simp only [List.getD_cons_succ, List.length_cons] at hlt
      push_cast at hlt; omega)
    rw [nextS, h1]
    simp

end Go.Proofs.YtncbigkkmgnkmaaGreatDoor
end

section
namespace Go.Proofs.YtncbigkkmgnkmaaGreatDoor
/-- The greatest number whose square is at most n. -/
def rootN : Nat → Nat
  | 0 => 0
  | n + 1 => if (rootN n + 1) * (rootN n + 1) ≤ n + 1 then rootN n + 1 else rootN n
theorem rootN_spec (n : Nat) : rootN n * rootN n ≤ n ∧ n < (rootN n + 1) * (rootN n + 1) := by
  induction n with
  | zero => simp [rootN]
  | succ n ih =>
    rw [rootN]
    split
    · rename_i h
      refine ⟨h, ?_⟩
      have : (rootN n + 1 + 1) * (rootN n + 1 + 1) = (rootN n + 1) * (rootN n + 1) + 2 * (rootN n + 1) + 1 := by grind
      omega
    · omega
theorem sq_mono {a b : Int} (h0 : 0 ≤ a) (h : a ≤ b) : a * a ≤ b * b := Int.mul_le_mul h h h0 (by omega)
theorem root_unique {a b n : Int} (ha : 0 ≤ a) (hb : 0 ≤ b) (h1 : a * a ≤ n) (h2 : n < (a + 1) * (a + 1)) (h3 : b * b ≤ n) (h4 : n < (b + 1) * (b + 1)) : a = b := by
  rcases Int.lt_trichotomy a b with h | h | h
  · have := sq_mono (a := a + 1) (b := b) (by omega) (by omega); omega
  · exact h
  · have := sq_mono (a := b + 1) (b := a) (by omega) (by omega); omega
/-- The height of a width. -/
def hgt (d w : Int) : Int := (rootN (d * d - w * w).toNat : Int)
theorem hgt_spec {d w : Int} (h0 : 0 ≤ w) (h : w ≤ d) : 0 ≤ hgt d w ∧ hgt d w * hgt d w + w * w ≤ d * d ∧ d * d < (hgt d w + 1) * (hgt d w + 1) + w * w := by
  have h1 := sq_mono h0 h
  have h2 := rootN_spec (d * d - w * w).toNat
  have e : (((d * d - w * w).toNat : Nat) : Int) = d * d - w * w := Int.toNat_of_nonneg (by omega)
  unfold hgt
  generalize rootN (d * d - w * w).toNat = r at *
  have h3 : (r : Int) * r ≤ d * d - w * w := by rw [← e]; exact_mod_cast h2.1
  have h4 : d * d - w * w < ((r : Int) + 1) * (r + 1) := by rw [← e]; exact_mod_cast h2.2
  exact ⟨by omega, by omega, by omega⟩
theorem hgt_of {d w h : Int} (h0 : 0 ≤ w) (hd : w ≤ d) (hh : 0 ≤ h) (h1 : h * h ≤ d * d - w * w) (h2 : d * d - w * w < (h + 1) * (h + 1)) : hgt d w = h := by
  obtain ⟨a, b, c⟩ := hgt_spec h0 hd
  exact root_unique a hh (n := d * d - w * w) (by omega) (by omega) h1 h2
theorem hgt_lt {d w : Int} (h0 : 1 ≤ w) (h : w ≤ d) : hgt d w < d := by
  obtain ⟨a, b, c⟩ := hgt_spec (by omega) h
  rcases Int.lt_or_le (hgt d w) d with h1 | h1
  · exact h1
  · have := sq_mono (a := d) (b := hgt d w) (by omega) h1
    have := Int.mul_pos (show 0 < w by omega) (show 0 < w by omega)
    omega
theorem hgt_mono {d w v : Int} (h0 : 0 ≤ v) (h : v ≤ w) (hd : w ≤ d) : hgt d w ≤ hgt d v := by
  obtain ⟨a, b, c⟩ := hgt_spec (d := d) (w := w) (by omega) hd
  obtain ⟨a2, b2, c2⟩ := hgt_spec (d := d) (w := v) h0 (by omega)
  rcases Int.lt_or_le (hgt d v) (hgt d w) with h1 | h1
  · have := sq_mono (a := hgt d v + 1) (b := hgt d w) (by omega) (by omega)
    have := sq_mono h0 h
    omega
  · exact h1
/-- The area of widths above a height. -/
def areaF (d : Int) : Int → List Int → Int
  | _, [] => 0
  | last, w :: l => w * (hgt d w - last) + areaF d (hgt d w) l
def areaD (d : Int) (l : List Int) : Int := areaF d 0 l
/-- Widths that descend, from 1 on to the diameter. -/
def WidthsOk (d : Int) : List Int → Prop
  | [] => True
  | w :: l => 1 ≤ w ∧ w ≤ d ∧ (∀ v ∈ l, v < w) ∧ WidthsOk d l
/-- The width of a row: that of the first strip that reaches it. -/
def rowW (d : Int) (l : List Int) (r : Int) : Int := (l.find? fun w => decide (r ≤ hgt d w)).getD 0
def rowsF (d : Int) (l : List Int) (a : Int) : Nat → Int
  | 0 => 0
  | k + 1 => rowsF d l a k + rowW d l (a + (k : Int) + 1)
theorem rowsF_nil (d a : Int) (k : Nat) : rowsF d [] a k = 0 := by
  induction k with
  | zero => rfl
  | succ k ih => rw [rowsF, ih]; simp [rowW]
theorem rowsF_add (d : Int) (l : List Int) (a : Int) (j : Nat) : ∀ k, rowsF d l a (j + k) = rowsF d l a j + rowsF d l (a + j) k
  | 0 => by simp [rowsF]
  | k + 1 => by
    rw [show j + (k + 1) = (j + k) + 1 by omega, rowsF, rowsF_add d l a j k, rowsF]
    have e : a + ((j + k : Nat) : Int) + 1 = a + (j : Int) + (k : Int) + 1 := by push_cast; omega
    rw [e]
    omega
theorem rowsF_const {d : Int} {l : List Int} {a v : Int} : ∀ {k : Nat}, (∀ j : Nat, j < k → rowW d l (a + (j : Int) + 1) = v) → rowsF d l a k = v * k
  | 0, _ => by simp [rowsF]
  | k + 1, h => by
    rw [rowsF, rowsF_const (k := k) (fun j hj => h j (by omega)), h k (by omega)]
    push_cast
    rw [Int.mul_add, Int.mul_one]
theorem rowsF_congr {d : Int} {l m : List Int} {a : Int} : ∀ {k : Nat}, (∀ j : Nat, j < k → rowW d l (a + (j : Int) + 1) = rowW d m (a + (j : Int) + 1)) → rowsF d l a k = rowsF d m a k
  | 0, _ => rfl
  | k + 1, h => by rw [rowsF, rowsF, rowsF_congr (k := k) (fun j hj => h j (by omega)), h k (by omega)]
theorem WidthsOk.mem {d : Int} : ∀ {l : List Int}, WidthsOk d l → ∀ w ∈ l, 1 ≤ w ∧ w ≤ d
  | [], _, _, h => by cases h
  | x :: l, h, w, hw => by
    rcases List.mem_cons.1 hw with rfl | hw
    · exact ⟨h.1, h.2.1⟩
    · exact WidthsOk.mem h.2.2.2 w hw
/-- The area is that of all rows. -/
theorem area_rows {d : Int} : ∀ {l : List Int} {a : Int} {k : Nat}, WidthsOk d l → 0 ≤ a → (∀ w ∈ l, a ≤ hgt d w) → a + (k : Int) = d → areaF d a l = rowsF d l a k
  | [], a, k, _, _, _, _ => by rw [areaF, rowsF_nil]
  | w :: l, a, k, hw, ha, hl, hk => by
    have h1 := hl w (List.mem_cons_self ..)
    have h2 := hgt_lt hw.1 hw.2.1
    obtain ⟨j, hj⟩ := Int.eq_ofNat_of_zero_le (show 0 ≤ hgt d w - a by omega)
    obtain ⟨m, rfl⟩ : ∃ m, k = j + m := ⟨k - j, by omega⟩
    have hmono : ∀ v ∈ l, hgt d w ≤ hgt d v := fun v hv => hgt_mono (by have := hw.2.2.2.mem v hv; omega) (Int.le_of_lt (hw.2.2.1 v hv)) hw.2.1
    have ih := area_rows (l := l) (a := hgt d w) (k := m) hw.2.2.2 (by omega) hmono (by push_cast at hk; omega)
    rw [areaF, ih, rowsF_add]
    have e1 : rowsF d (w :: l) a j = w * (hgt d w - a) := by
      rw [rowsF_const (v := w) (fun i hi => by
        unfold rowW
        rw [List.find?_cons, show decide (a + (i : Int) + 1 ≤ hgt d w) = true from decide_eq_true (by omega)]
        rfl), hj]
    have e2 : rowsF d (w :: l) (a + j) m = rowsF d l (hgt d w) m := by
      rw [show a + (j : Int) = hgt d w by omega]
      refine rowsF_congr fun i hi => ?_
      unfold rowW
      rw [List.find?_cons, show decide (hgt d w + (i : Int) + 1 ≤ hgt d w) = false from decide_eq_false (by omega)]
    rw [e1, e2]
theorem area_all {d : Int} {l : List Int} {k : Nat} (h : WidthsOk d l) (hk : (k : Int) = d) : areaD d l = rowsF d l 0 k :=
  area_rows h (Int.le_refl _) (fun w hw => (hgt_spec (by have := h.mem w hw; omega) (h.mem w hw).2).1) (by omega)
theorem rowW_nonneg {d : Int} {l : List Int} (h : WidthsOk d l) (r : Int) : 0 ≤ rowW d l r ∧ (rowW d l r ≠ 0 → rowW d l r ∈ l ∧ r ≤ hgt d (rowW d l r)) := by
  unfold rowW
  cases hf : l.find? fun w => decide (r ≤ hgt d w) with
  | none => exact ⟨Int.le_refl _, fun h => absurd rfl h⟩
  | some w =>
    have h1 := List.mem_of_find?_eq_some hf
    have h2 := List.find?_some hf
    have h3 := h.mem w h1
    exact ⟨by show 0 ≤ w; omega, fun _ => ⟨h1, by simpa using h2⟩⟩
theorem area_bd {d : Int} {l : List Int} (hd : 1 ≤ d) (h : WidthsOk d l) : 0 ≤ areaD d l ∧ areaD d l < d * d := by
  obtain ⟨k, hk⟩ := Int.eq_ofNat_of_zero_le (show 0 ≤ d by omega)
  rw [area_all h hk.symm]
  have hb : ∀ r, 0 ≤ rowW d l r ∧ rowW d l r ≤ d := fun r => by
    obtain ⟨h1, h2⟩ := rowW_nonneg h r
    refine ⟨h1, ?_⟩
    by_cases e : rowW d l r = 0
    · omega
    · exact (h.mem _ (h2 e).1).2
  have hz : ∀ r, d ≤ r → rowW d l r = 0 := fun r hr => by
    by_cases e : rowW d l r = 0
    · exact e
    · obtain ⟨h3, h4⟩ := (rowW_nonneg h r).2 e
      have h5 := h.mem _ h3
      have := hgt_lt h5.1 h5.2
      omega
  have key : ∀ j : Nat, 0 ≤ rowsF d l 0 j ∧ rowsF d l 0 j ≤ d * j := by
    intro j
    induction j with
    | zero => simp [rowsF]
    | succ j ih =>
      rw [rowsF]
      have := hb (0 + (j : Int) + 1)
      push_cast
      rw [Int.mul_add, Int.mul_one]
      omega
  obtain ⟨m, rfl⟩ : ∃ m, k = m + 1 := ⟨k - 1, by omega⟩
  rw [rowsF, hz (0 + (m : Int) + 1) (by push_cast at hk; omega)]
  have h1 := key m
  have e : (m : Int) = d - 1 := by push_cast at hk; omega
  rw [e, Int.mul_sub, Int.mul_one] at h1
  omega
end Go.Proofs.YtncbigkkmgnkmaaGreatDoor
end

section
namespace Go.Proofs.YtncbigkkmgnkmaaGreatDoor
/-- Numbers that ascend from lo on below n. -/
def AscS (n : Nat) : Int → List Int → Prop
  | _, [] => True
  | lo, x :: l => lo ≤ x ∧ x < (n : Int) ∧ AscS n (x + 1) l
theorem allS_mem {n : Nat} : ∀ {d lo : Nat} {l : List Int}, l ∈ allS n d lo ↔ l.length = d ∧ AscS n (lo : Int) l
  | 0, lo, l => by
    rw [allS, List.mem_singleton]
    constructor
    · rintro rfl; exact ⟨rfl, trivial⟩
    · rintro ⟨h, _⟩; exact List.eq_nil_of_length_eq_zero h
  | d + 1, lo, l => by
    rw [allS, List.mem_flatMap]
    constructor
    · rintro ⟨x, hx, hl⟩
      have hx := List.mem_range'_1.1 hx
      obtain ⟨m, hm, rfl⟩ := List.mem_map.1 hl
      obtain ⟨h1, h2⟩ := allS_mem.1 hm
      exact ⟨by simp [h1], by omega, by omega, by push_cast at h2; exact h2⟩
    · rintro ⟨h1, h2⟩
      rcases l with _ | ⟨x, l⟩
      · simp at h1
      · obtain ⟨h3, h4, h5⟩ := h2
        refine ⟨x.toNat, List.mem_range'_1.2 (by omega), List.mem_map.2 ⟨l, allS_mem.2 ⟨by simpa using h1, ?_⟩, ?_⟩⟩
        · rw [show ((x.toNat + 1 : Nat) : Int) = x + 1 by omega]; exact h5
        · rw [Int.toNat_of_nonneg (by omega)]
def pickL (ws : List Int) (set : List Int) : List Int := set.map fun i => ws.getD i.toNat 0
def candL (ws : List Int) (most : Nat) : List (List Int) := (List.range (min most ws.length)).flatMap fun c => (allS ws.length (c + 1) 0).map (pickL ws)
theorem WidthsOk.at_ {d : Int} : ∀ {l : List Int}, WidthsOk d l → ∀ i j, i < j → j < l.length → l.getD j 0 < l.getD i 0
  | [], _, i, j, _, h => by simp at h
  | x :: l, h, 0, j + 1, _, hj => by
    rw [List.getD_cons_succ, List.getD_cons_zero]
    refine h.2.2.1 _ ?_
    rw [List.getD_eq_getElem?_getD, List.getElem?_eq_getElem (by simpa using hj)]
    exact List.getElem_mem _
  | x :: l, h, i + 1, j + 1, hij, hj => by
    rw [List.getD_cons_succ, List.getD_cons_succ]
    exact WidthsOk.at_ h.2.2.2 i j (by omega) (by simpa using hj)
theorem getD_mem {l : List Int} {i : Nat} (h : i < l.length) : l.getD i 0 ∈ l := by
  rw [List.getD_eq_getElem?_getD, List.getElem?_eq_getElem h]
  exact List.getElem_mem _
theorem pick_ok {d : Int} {ws : List Int} (h : WidthsOk d ws) : ∀ {l : List Int} {lo : Int}, 0 ≤ lo → AscS ws.length lo l → WidthsOk d (pickL ws l) ∧ (∀ v ∈ pickL ws l, v ∈ ws) ∧ ∀ i : Nat, (i : Int) < lo → i < ws.length → ∀ v ∈ pickL ws l, v < ws.getD i 0
  | [], lo, _, _ => ⟨trivial, (fun v hv => by cases hv), (fun i _ _ v hv => by cases hv)⟩
  | x :: l, lo, h0, ha => by
    obtain ⟨h1, h2, h3⟩ := ha
    obtain ⟨i1, i2, i3⟩ := pick_ok h (l := l) (lo := x + 1) (by omega) h3
    have hx : x.toNat < ws.length := by omega
    have hm := getD_mem hx
    have hw := h.mem _ hm
    refine ⟨⟨hw.1, hw.2, fun v hv => i3 x.toNat (by omega) hx v hv, i1⟩, ?_, ?_⟩
    · intro v hv
      rcases List.mem_cons.1 hv with rfl | hv
      · exact hm
      · exact i2 v hv
    · intro i hi hil v hv
      rcases List.mem_cons.1 hv with rfl | hv
      · exact h.at_ i x.toNat (by omega) hx
      · exact i3 i (by omega) hil v hv
/-- The first of the greatest. -/
def bestF (f : List Int → Int) : List (List Int) → List Int × Int → List Int × Int
  | [], b => b
  | s :: l, b => bestF f l (if b.2 < f s then (s, f s) else b)
theorem bestF_app (f : List Int → Int) : ∀ (l m : List (List Int)) (b : List Int × Int), bestF f (l ++ m) b = bestF f m (bestF f l b)
  | [], _, _ => rfl
  | s :: l, m, b => by rw [List.cons_append, bestF, bestF, bestF_app f l m]
def bestD (d : Int) (ws : List Int) (most : Nat) : List Int × Int := bestF (areaD d) (candL ws most) ([], 0)
end Go.Proofs.YtncbigkkmgnkmaaGreatDoor
end

section
namespace Go.Proofs.YtncbigkkmgnkmaaGreatDoor
/-- What holds before each bit: r is a part of the root, the bit is half of a power of two. -/
def RootI (n : Int) (k : Nat) (r b : Int) : Prop := k ≤ 31 ∧ 0 ≤ r ∧ r * r ≤ n ∧ b = 2 ^ k / 2 ∧ n < (r + 2 ^ k) * (r + 2 ^ k)
/-- The first number that may follow a set. -/
def nextV (xs : List Int) : Nat := if xs.length = 0 then 0 else (xs.getD (xs.length - 1) 0).toNat + 1
/-- All sets of numbers below count that begin with xs and have d more, each one ascending. -/
def subsV (count : Nat) : Nat → List Int → List (List Int)
  | 0, xs => [xs]
  | d + 1, xs => ((List.range (count - nextV xs)).map fun j => subsV count d (xs ++ [((nextV xs + j : Nat) : Int)])).flatten
def subsUpto (count d : Nat) (xs : List Int) (k : Nat) : List (List Int) := ((List.range k).map fun j => subsV count d (xs ++ [((nextV xs + j : Nat) : Int)])).flatten
end Go.Proofs.YtncbigkkmgnkmaaGreatDoor
end
