/- Plain facts on choices and sets in lexicographic order: what comes next, and where all of them end. No program is in sight. -/
import Derived.Test.YtnfbdkdjoekifaaGreatDoorRows

section
namespace Go.Proofs.YtnfbdkdjoekifaaGreatDoor
/-- All choices: for each slot (with so many parts) a number, lexicographically ascending. -/
def allC : List Nat → List (List Int)
  | [] => [[]]
  | n :: ns => (List.range n).flatMap fun (x : Nat) => (allC ns).map fun l => (x : Int) :: l
/-- The next choice; none behind the last one. -/
def nextC : List Nat → List Int → Option (List Int)
  | n :: ns, x :: l => match nextC ns l with
    | some m => some (x :: m)
    | none => if x + 1 < (n : Int) then some ((x + 1) :: List.replicate ns.length 0) else none
  | _, _ => none
theorem allC_ne {ns : List Nat} (h : ∀ n ∈ ns, 0 < n) : allC ns ≠ [] := by
  induction ns with
  | nil => simp [allC]
  | cons n ns ih =>
    have h1 := ih fun m hm => h m (List.mem_cons_of_mem _ hm)
    have h2 := h n (List.mem_cons_self ..)
    obtain ⟨y, hy⟩ := List.exists_mem_of_ne_nil _ h1
    refine List.ne_nil_of_mem (a := (0 : Int) :: y) ?_
    rw [allC, List.mem_flatMap]
    exact ⟨0, List.mem_range.2 h2, List.mem_map.2 ⟨y, hy, rfl⟩⟩
/-- A list that goes from its head by steps of a function to an end. -/
def Steps (f : List Int → Option (List Int)) : List (List Int) → Prop
  | [] => True
  | [x] => f x = none
  | x :: y :: l => f x = some y ∧ Steps f (y :: l)
theorem steps_block {ns : List Nat} {n : Nat} {x : Int} {z : List Int} (hx : x + 1 < (n : Int) → z = (x + 1) :: List.replicate ns.length 0) (hn : ¬ x + 1 < (n : Int) → False) :
    ∀ {l r : List (List Int)}, Steps (nextC ns) l → l ≠ [] → Steps (nextC (n :: ns)) (z :: r) → Steps (nextC (n :: ns)) (l.map (fun y => x :: y) ++ z :: r)
  | [], _, _, h, _ => absurd rfl h
  | [a], r, h1, _, h2 => by
    by_cases h : x + 1 < (n : Int)
    · refine ⟨?_, h2⟩
      have h1 : nextC ns a = none := h1
      simp only [nextC, h1, if_pos h, hx h]
    · exact absurd (hn h) id
  | a :: b :: l, r, h1, _, h2 => by
    have h3 := steps_block hx hn (l := b :: l) (r := r) h1.2 (by simp) h2
    refine ⟨?_, h3⟩
    simp only [nextC, h1.1]
theorem steps_last {ns : List Nat} {n : Nat} {x : Int} (hx : ¬ x + 1 < (n : Int)) :
    ∀ {l : List (List Int)}, Steps (nextC ns) l → Steps (nextC (n :: ns)) (l.map (fun y => x :: y))
  | [], _ => trivial
  | [a], h1 => by
    have h1 : nextC ns a = none := h1
    show nextC (n :: ns) (x :: a) = none
    simp only [nextC, h1, if_neg hx]
  | a :: b :: l, h1 => by
    have h3 := steps_last hx (l := b :: l) h1.2
    refine ⟨?_, h3⟩
    simp only [nextC, h1.1]
theorem allC_head {ns : List Nat} (h : ∀ n ∈ ns, 0 < n) : ∃ r, allC ns = List.replicate ns.length 0 :: r := by
  induction ns with
  | nil => exact ⟨[], rfl⟩
  | cons n ns ih =>
    obtain ⟨r, hr⟩ := ih fun m hm => h m (List.mem_cons_of_mem _ hm)
    obtain ⟨k, rfl⟩ : ∃ k, n = k + 1 := ⟨n - 1, by have := h n (List.mem_cons_self ..); omega⟩
    rw [allC, List.range_succ_eq_map, List.flatMap_cons, hr]
    exact ⟨_, rfl⟩
theorem allC_steps : ∀ {ns : List Nat}, (∀ n ∈ ns, 0 < n) → Steps (nextC ns) (allC ns)
  | [], _ => rfl
  | n :: ns, h => by
    have h1 : ∀ m ∈ ns, 0 < m := fun m hm => h m (List.mem_cons_of_mem _ hm)
    have ih := allC_steps h1
    have hne := allC_ne h1
    obtain ⟨r0, hr0⟩ := allC_head h1
    -- from x on
    have key : ∀ k x : Nat, x + k + 1 = n → Steps (nextC (n :: ns)) ((List.range' x (k + 1)).flatMap fun (x : Nat) => (allC ns).map fun l => (x : Int) :: l) := by
      intro k
      induction k with
      | zero =>
        intro x hx
        rw [List.range'_succ, List.range'_zero, List.flatMap_cons, List.flatMap_nil, List.append_nil]
        exact steps_last (by omega) ih
      | succ k ihk =>
        intro x hx
        rw [List.range'_succ, List.flatMap_cons]
        have h2 := ihk (x + 1) (by omega)
        have e : ∃ t, ((List.range' (x + 1) (k + 1)).flatMap fun (x : Nat) => (allC ns).map fun l => (x : Int) :: l) = (((x + 1 : Nat) : Int) :: List.replicate ns.length 0) :: t := by
          rw [List.range'_succ, List.flatMap_cons, hr0]
          exact ⟨_, rfl⟩
        obtain ⟨t, ht⟩ := e
        rw [ht] at h2 ⊢
        exact steps_block (x := (x : Int)) (n := n) (fun _ => by push_cast; rfl) (fun h => by omega) ih hne h2
    obtain ⟨k, rfl⟩ : ∃ k, n = k + 1 := ⟨n - 1, by have := h n (List.mem_cons_self ..); omega⟩
    rw [allC, List.range_eq_range']
    exact key k 0 (by omega)
theorem next_none : ∀ {ns : List Nat} {l : List Int}, l.length = ns.length → (∀ j, j < ns.length → l.getD j 0 + 1 = (ns.getD j 0 : Int)) → nextC ns l = none
  | [], _, _, _ => by simp [nextC]
  | n :: ns, [], h, _ => by simp at h
  | n :: ns, x :: l, h, hm => by
    have h1 := next_none (ns := ns) (l := l) (by simpa using h) fun j hj => by
      have := hm (j + 1) (by simpa using hj)
      simpa using this
    have h2 := hm 0 (by simp)
    simp only [List.getD_cons_zero] at h2
    rw [nextC, h1]
    simp only [h2]
    rw [if_neg (by omega)]
theorem next_some : ∀ {ns : List Nat} {l : List Int} {i : Nat}, l.length = ns.length → i < ns.length → (∀ j, i < j → j < ns.length → l.getD j 0 + 1 = (ns.getD j 0 : Int)) → l.getD i 0 + 1 < (ns.getD i 0 : Int) →
    nextC ns l = some (l.take i ++ (l.getD i 0 + 1) :: List.replicate (ns.length - i - 1) 0)
  | [], _, i, _, h, _, _ => by simp at h
  | n :: ns, [], i, h, _, _, _ => by simp at h
  | n :: ns, x :: l, 0, h, _, hm, hlt => by
    have h1 := next_none (ns := ns) (l := l) (by simpa using h) fun j hj => by
      have := hm (j + 1) (by omega) (by simpa using hj)
      simpa using this
    simp only [List.getD_cons_zero] at hlt
    rw [nextC, h1]
    simp [hlt]
  | n :: ns, x :: l, i + 1, h, hi, hm, hlt => by
    have h1 := next_some (ns := ns) (l := l) (i := i) (by simpa using h) (by simpa using hi) (fun j hj hk => by
      have := hm (j + 1) (by omega) (by simpa using hk)
      simpa using this) (by simpa using hlt)
    rw [nextC, h1]
    simp
theorem Steps.at_ {f : List Int → Option (List Int)} : ∀ {l : List (List Int)} {i : Nat}, Steps f l → i + 1 < l.length → f (l.getD i []) = some (l.getD (i + 1) [])
  | [], i, _, h => by simp at h
  | [_], i, _, h => by simp at h
  | a :: b :: l, 0, h, _ => h.1
  | a :: b :: l, i + 1, h, hi => by
    have := Steps.at_ (l := b :: l) (i := i) h.2 (by simpa using hi)
    simpa using this
theorem Steps.last {f : List Int → Option (List Int)} : ∀ {l : List (List Int)} {i : Nat}, Steps f l → i + 1 = l.length → f (l.getD i []) = none
  | [], i, _, h => by simp at h
  | [a], i, hs, h => by
    obtain rfl : i = 0 := by simpa using h
    exact hs
  | a :: b :: l, 0, _, h => by simp at h
  | a :: b :: l, i + 1, h, hi => by
    have := Steps.last (l := b :: l) (i := i) h.2 (by simpa using hi)
    simpa using this
/-- All choices fit the slots. -/
theorem allC_mem : ∀ {ns : List Nat} {l : List Int}, l ∈ allC ns ↔ l.length = ns.length ∧ ∀ j, j < ns.length → 0 ≤ l.getD j 0 ∧ l.getD j 0 < (ns.getD j 0 : Int)
  | [], l => by
    rw [allC, List.mem_singleton]
    constructor
    · rintro rfl; exact ⟨rfl, fun j hj => by simp at hj⟩
    · rintro ⟨h, _⟩; exact List.eq_nil_of_length_eq_zero h
  | n :: ns, l => by
    rw [allC, List.mem_flatMap]
    constructor
    · rintro ⟨x, hx, hl⟩
      obtain ⟨m, hm, rfl⟩ := List.mem_map.1 hl
      obtain ⟨h1, h2⟩ := allC_mem.1 hm
      refine ⟨by simp [h1], fun j hj => ?_⟩
      rcases j with _ | j
      · have := List.mem_range.1 hx
        simp only [List.getD_cons_zero]
        omega
      · simpa using h2 j (by simpa using hj)
    · rintro ⟨h1, h2⟩
      rcases l with _ | ⟨x, l⟩
      · simp at h1
      · have h3 := h2 0 (by simp)
        simp only [List.getD_cons_zero] at h3
        refine ⟨x.toNat, List.mem_range.2 (by omega), List.mem_map.2 ⟨l, allC_mem.2 ⟨by simpa using h1, fun j hj => ?_⟩, ?_⟩⟩
        · have := h2 (j + 1) (by simpa using hj)
          simpa using this
        · rw [Int.toNat_of_nonneg h3.1]
/-- The numbers from x on, so many. -/
def upS (x : Int) : Nat → List Int
  | 0 => []
  | d + 1 => x :: upS (x + 1) d
theorem upS_length (x : Int) (d : Nat) : (upS x d).length = d := by
  induction d generalizing x with
  | zero => rfl
  | succ d ih => simp [upS, ih]
theorem upS_get {x : Int} {d : Nat} : ∀ {j : Nat}, j < d → (upS x d).getD j 0 = x + j := by
  induction d generalizing x with
  | zero => intro j h; omega
  | succ d ih =>
    intro j h
    rcases j with _ | j
    · simp [upS]
    · rw [upS, List.getD_cons_succ, ih (by omega)]
      push_cast
      omega
/-- All ascending lists of d numbers from lo on below n. -/
def allS (n : Nat) : Nat → Nat → List (List Int)
  | 0, _ => [[]]
  | d + 1, lo => (List.range' lo (n - lo)).flatMap fun (x : Nat) => (allS n d (x + 1)).map fun l => (x : Int) :: l
def nextS (n : Nat) : List Int → Option (List Int)
  | [] => none
  | x :: l => match nextS n l with
    | some m => some (x :: m)
    | none => if x + 1 + (l.length : Int) < (n : Int) then some (upS (x + 1) (l.length + 1)) else none
theorem allS_mem_length {n : Nat} : ∀ {d lo : Nat} {l : List Int}, l ∈ allS n d lo → l.length = d
  | 0, lo, l, h => by rw [allS, List.mem_singleton] at h; rw [h]; rfl
  | d + 1, lo, l, h => by
    rw [allS, List.mem_flatMap] at h
    obtain ⟨x, _, hl⟩ := h
    obtain ⟨m, hm, rfl⟩ := List.mem_map.1 hl
    simp [allS_mem_length hm]
theorem allS_empty {n : Nat} : ∀ {d lo : Nat}, n < lo + d → allS n d lo = [] ∨ d = 0
  | 0, lo, h => .inr rfl
  | d + 1, lo, h => .inl (by
    rw [allS, List.flatMap_eq_nil_iff]
    intro x hx
    have hx := List.mem_range'_1.1 hx
    rw [List.map_eq_nil_iff]
    rcases allS_empty (n := n) (d := d) (lo := x + 1) (by omega) with h1 | h1
    · exact h1
    · omega)
theorem range'_cons {lo k : Nat} : List.range' lo (k + 1) = lo :: List.range' (lo + 1) k := List.range'_succ ..
theorem allS_head {n : Nat} : ∀ {d lo : Nat}, lo + d ≤ n → ∃ r, allS n d lo = upS (lo : Int) d :: r
  | 0, lo, _ => ⟨[], rfl⟩
  | d + 1, lo, h => by
    obtain ⟨r, hr⟩ := allS_head (n := n) (d := d) (lo := lo + 1) (by omega)
    obtain ⟨k, hk⟩ : ∃ k, n - lo = k + 1 := ⟨n - lo - 1, by omega⟩
    rw [allS, hk, range'_cons, List.flatMap_cons, hr]
    exact ⟨_, rfl⟩
theorem steps_blockS {n d : Nat} {x : Int} (hx : x + 1 + (d : Int) < (n : Int)) :
    ∀ {l r : List (List Int)}, (∀ y ∈ l, y.length = d) → Steps (nextS n) l → l ≠ [] → Steps (nextS n) (upS (x + 1) (d + 1) :: r) → Steps (nextS n) (l.map (fun y => x :: y) ++ upS (x + 1) (d + 1) :: r)
  | [], _, _, _, h, _ => absurd rfl h
  | [a], r, hd, h1, _, h2 => by
    refine ⟨?_, h2⟩
    have h1 : nextS n a = none := h1
    have h3 := hd a (by simp)
    simp only [nextS, h1, h3, if_pos hx]
  | a :: b :: l, r, hd, h1, _, h2 => by
    have h3 := steps_blockS hx (l := b :: l) (r := r) (fun y hy => hd y (List.mem_cons_of_mem _ hy)) h1.2 (by simp) h2
    refine ⟨?_, h3⟩
    simp only [nextS, h1.1]
theorem steps_lastS {n d : Nat} {x : Int} (hx : ¬ x + 1 + (d : Int) < (n : Int)) :
    ∀ {l : List (List Int)}, (∀ y ∈ l, y.length = d) → Steps (nextS n) l → Steps (nextS n) (l.map (fun y => x :: y))
  | [], _, _ => trivial
  | [a], hd, h1 => by
    have h1 : nextS n a = none := h1
    show nextS n (x :: a) = none
    simp only [nextS, h1, hd a (by simp), if_neg hx]
  | a :: b :: l, hd, h1 => by
    have h3 := steps_lastS hx (l := b :: l) (fun y hy => hd y (List.mem_cons_of_mem _ hy)) h1.2
    refine ⟨?_, h3⟩
    simp only [nextS, h1.1]
theorem allS_steps {n : Nat} : ∀ (d lo : Nat), Steps (nextS n) (allS n d lo)
  | 0, lo => rfl
  | d + 1, lo => by
    have ih := allS_steps (n := n) d
    have key : ∀ k x : Nat, x + k = n → Steps (nextS n) ((List.range' x k).flatMap fun (x : Nat) => (allS n d (x + 1)).map fun l => (x : Int) :: l) := by
      intro k
      induction k with
      | zero => intro x _; exact trivial
      | succ k ihk =>
        intro x hx
        rw [range'_cons, List.flatMap_cons]
        have h2 := ihk (x + 1) (by omega)
        by_cases hlt : (x : Int) + 1 + (d : Int) < (n : Int)
        · obtain ⟨t, ht⟩ : ∃ t, ((List.range' (x + 1) k).flatMap fun (x : Nat) => (allS n d (x + 1)).map fun l => (x : Int) :: l) = upS ((x : Int) + 1) (d + 1) :: t := by
            obtain ⟨j, rfl⟩ : ∃ j, k = j + 1 := ⟨k - 1, by omega⟩
            obtain ⟨r, hr⟩ := allS_head (n := n) (d := d) (lo := x + 1 + 1) (by omega)
            rw [range'_cons, List.flatMap_cons, hr]
            exact ⟨_, rfl⟩
          rw [ht] at h2 ⊢
          obtain ⟨r, hr⟩ := allS_head (n := n) (d := d) (lo := x + 1) (by omega)
          exact steps_blockS hlt (fun y hy => allS_mem_length hy) (ih (x + 1)) (by rw [hr]; simp) h2
        · have e : ((List.range' (x + 1) k).flatMap fun (x : Nat) => (allS n d (x + 1)).map fun l => (x : Int) :: l) = [] := by
            rw [List.flatMap_eq_nil_iff]
            intro y hy
            have hy := List.mem_range'_1.1 hy
            rw [List.map_eq_nil_iff]
            rcases allS_empty (n := n) (d := d) (lo := y + 1) (by omega) with h1 | h1
            · exact h1
            · subst h1; omega
          rw [e, List.append_nil]
          exact steps_lastS hlt (fun y hy => allS_mem_length hy) (ih (x + 1))
    rw [allS]
    by_cases h : lo ≤ n
    · exact key _ lo (by omega)
    · rw [show n - lo = 0 by omega]; exact trivial
theorem nextS_none {n : Nat} : ∀ {l : List Int}, (∀ j, j < l.length → l.getD j 0 = (n : Int) - l.length + j) → nextS n l = none
  | [], _ => rfl
  | x :: l, hm => by
    have h1 := nextS_none (n := n) (l := l) fun j hj => by
      have := hm (j + 1) (by simpa using hj)
      simp only [List.getD_cons_succ, List.length_cons] at this
      rw [this]; push_cast; omega
    have h2 := hm 0 (by simp)
    simp only [List.getD_cons_zero, List.length_cons] at h2
    rw [nextS, h1]
    simp only
    rw [if_neg (by push_cast at h2; omega)]
theorem nextS_some {n : Nat} : ∀ {l : List Int} {i : Nat}, i < l.length → (∀ j, i < j → j < l.length → l.getD j 0 = (n : Int) - l.length + j) → l.getD i 0 < (n : Int) - l.length + i →
    nextS n l = some (l.take i ++ upS (l.getD i 0 + 1) (l.length - i))
  | [], i, h, _, _ => by simp at h
  | x :: l, 0, _, hm, hlt => by
    have h1 := nextS_none (n := n) (l := l) fun j hj => by
      have := hm (j + 1) (by omega) (by simpa using hj)
      simp only [List.getD_cons_succ, List.length_cons] at this
      rw [this]; push_cast; omega
    simp only [List.getD_cons_zero, List.length_cons] at hlt
    rw [nextS, h1]
    simp only
    rw [if_pos (by push_cast at hlt; omega)]
    simp
  | x :: l, i + 1, hi, hm, hlt => by
    have h1 := nextS_some (n := n) (l := l) (i := i) (by simpa using hi) (fun j hj hk => by
      have := hm (j + 1) (by omega) (by simpa using hk)
      simp only [List.getD_cons_succ, List.length_cons] at this
      rw [this]; push_cast; omega) (by
      simp only [List.getD_cons_succ, List.length_cons] at hlt
      push_cast at hlt; omega)
    rw [nextS, h1]
    simp

end Go.Proofs.YtnfbdkdjoekifaaGreatDoor
end
