/- Plain facts: the search for the best schedule: what it computes, what it leaves as it was, how large its numbers become. -/
import Derived.Test.YtlgioldmjohhlaaSOpened
namespace Go.Proofs.Ytlgioldmjohhlaa
open Go.RowKit

/-- What the search holds: starts, when each machine is free, the best schedule so far and its end. -/
structure Srch where
  starts : List Int
  free : List Int
  best : Option (List Int)
  last : Int

/-- How many tasks have not been started. -/
def unset (n d : Nat) : Nat := (List.range n).countP fun i => !d.testBit i

theorem countP_lt {p q : Nat → Bool} : ∀ (l : List Nat), (∀ x ∈ l, p x = true → q x = true) → (∃ x ∈ l, q x = true ∧ p x = false) → l.countP p < l.countP q
  | [], _, h => by simp at h
  | y :: l, h1, h2 => by
    have hle : l.countP p ≤ l.countP q := List.countP_mono_left fun x hx => h1 x (List.mem_cons_of_mem _ hx)
    rw [List.countP_cons, List.countP_cons]
    obtain ⟨x, hx, hq, hp⟩ := h2
    rcases List.mem_cons.1 hx with rfl | hx
    · rw [hq, hp]; simp; omega
    · have hlt := countP_lt l (fun x hx => h1 x (List.mem_cons_of_mem _ hx)) ⟨x, hx, hq, hp⟩
      have hy := h1 y (by simp)
      cases hpy : p y with
      | false => simp; split <;> omega
      | true => rw [hy hpy]; simp; omega

theorem unset_lt {n d i : Nat} (hi : i < n) (h : d.testBit i = false) : unset n (d ||| 2 ^ i) < unset n d := by
  refine countP_lt _ (fun x _ hx => ?_) ⟨i, by simpa using hi, by simp [h], by simp [Nat.testBit_or, Nat.testBit_two_pow_self]⟩
  simp only [Bool.not_eq_true', Nat.testBit_or, Bool.or_eq_false_iff] at hx ⊢
  exact hx.1

theorem unset_le (n d : Nat) : unset n d ≤ n := by
  have := List.countP_le_length (p := fun i => !d.testBit i) (l := List.range n)
  simpa [unset] using this

/-- The earliest start of a task, from those on which it depends. -/
def startV (ts : List Task) (starts : List Int) (s0 : Int) (aft : List Int) : Int := aft.foldl (fun s n => mx s (starts.getD n.toNat 0 + (ts.getD n.toNat default).length)) s0
def startOf (ts : List Task) (st : Srch) (i : Nat) : Int := startV ts st.starts (mx (ts.getD i default).release (st.free.getD (ts.getD i default).machine.toNat 0)) (ts.getD i default).after
def endOf (ts : List Task) (st : Srch) (i : Nat) : Int := startOf ts st i + (ts.getD i default).length
/-- Nothing better can follow. -/
def cutB (tails : List Int) (st : Srch) (i : Nat) (e : Int) : Bool := st.best.isSome && decide (st.last ≤ e + tails.getD i 0)
def leafV (ts : List Task) (st : Srch) : Srch := if st.best.isNone || decide (lastV ts st.starts < st.last) then { st with best := some st.starts, last := lastV ts st.starts } else st
def stepV (ts : List Task) (tails : List Int) (rec_ : Nat → Srch → Srch) (d : Nat) (st : Srch) (i : Nat) : Srch :=
  if readyB ts d i then
    if cutB tails st i (endOf ts st i) then st
    else
      let st2 := rec_ (d ||| 2 ^ i) { st with starts := st.starts.set i (startOf ts st i), free := st.free.set (ts.getD i default).machine.toNat (endOf ts st i) }
      { st2 with free := st2.free.set (ts.getD i default).machine.toNat (st.free.getD (ts.getD i default).machine.toNat 0) }
  else st
def tryF (ts : List Task) (tails : List Int) : Nat → Nat → Srch → Srch
  | 0, _, st => st
  | f + 1, d, st => if d = 2 ^ ts.length - 1 then leafV ts st else (List.range ts.length).foldl (stepV ts tails (tryF ts tails f) d) st

/-- The numbers are in range while fuel f is left and d has been started. -/
def SrchOk (ts : List Task) (f d : Nat) (st : Srch) : Prop :=
  st.starts.length = ts.length ∧ st.free.length = 4 ∧ (∀ j, 0 ≤ st.free.getD j 0 ∧ st.free.getD j 0 ≤ 10000 * (9 - f : Nat)) ∧ (∀ j, 0 ≤ st.starts.getD j 0 ∧ st.starts.getD j 0 ≤ 90000) ∧
  (∀ j, d.testBit j = true → st.starts.getD j 0 + (ts.getD j default).length ≤ 10000 * (9 - f : Nat)) ∧ (∀ b, st.best = some b → b.length = ts.length ∧ ∀ j, 0 ≤ b.getD j 0 ∧ b.getD j 0 ≤ 90000) ∧ 0 ≤ st.last ∧ st.last ≤ 1000000

theorem getD_set (l : List Int) (k j : Nat) (x : Int) : (l.set k x).getD j 0 = if k = j ∧ j < l.length then x else l.getD j 0 := by
  simp only [List.getD, List.getElem?_set]
  by_cases h : k = j
  · subst h
    by_cases h2 : k < l.length
    · simp [h2]
    · simp [h2]
  · simp [h]

theorem set_back (l : List Int) (k : Nat) (x : Int) : (l.set k x).set k (l.getD k 0) = l := by
  rw [List.set_set]
  by_cases h : k < l.length
  · simp [List.getD, h]
  · exact List.set_eq_of_length_le (by omega)

/-- A valid plan: machines, lengths and releases in range. -/
def MachOk (ts : List Task) : Prop := ∀ i, i < ts.length → 0 ≤ (ts.getD i default).machine ∧ (ts.getD i default).machine < 4

theorem start_bound {ts : List Task} {starts : List Int} {K : Int} : ∀ (aft : List Int) (s0 : Int), 0 ≤ s0 → s0 ≤ K → (∀ n ∈ aft, starts.getD n.toNat 0 + (ts.getD n.toNat default).length ≤ K) → 0 ≤ startV ts starts s0 aft ∧ startV ts starts s0 aft ≤ K
  | [], s0, h1, h2, _ => ⟨h1, h2⟩
  | n :: aft, s0, h1, h2, h3 => by
    have hn := h3 n (by simp)
    show 0 ≤ startV ts starts (mx s0 _) aft ∧ _
    refine start_bound aft _ ?_ ?_ (fun x hx => h3 x (by simp [hx]))
    · unfold mx; split <;> omega
    · unfold mx; split <;> omega

theorem startOf_bound {ts : List Task} (ha : AcyOk ts) (hl : LenOk ts) {f d i : Nat} {st : Srch} (hf : f ≤ 8) (h : SrchOk ts f d st) (hi : i < ts.length) (hr : readyB ts d i = true) : 0 ≤ startOf ts st i ∧ startOf ts st i ≤ 10000 * (9 - f : Nat) := by
  obtain ⟨h1, h2, h3, h4, h5, _⟩ := h
  obtain ⟨_, _, hl3, hl4⟩ := hl i hi
  have hfm := h3 (ts.getD i default).machine.toNat
  refine start_bound _ _ ?_ ?_ fun n hn => ?_
  · unfold mx; split <;> omega
  · unfold mx; split <;> omega
  · obtain ⟨hn1, hn2⟩ := after_in ha.1 hi n hn
    obtain ⟨x, rfl⟩ : ∃ x : Nat, n = (x : Int) := ⟨n.toNat, by omega⟩
    rw [Int.toNat_natCast]
    exact h5 x ((readyB_iff.1 hr).2 x ((needs_closed ha.1 hi).1 x hn))

theorem lastR_bound {ts : List Task} {xs : List Int} (hl : ∀ i, i < xs.length → (ts.getD i default).length ≤ 10000) (hx : ∀ j, 0 ≤ xs.getD j 0 ∧ xs.getD j 0 ≤ 90000) : ∀ (k i : Nat) (o : Int), i + k = xs.length → 0 ≤ o → o ≤ 1000000 → 0 ≤ lastR ts xs k i o ∧ lastR ts xs k i o ≤ 1000000
  | 0, _, _, _, h1, h2 => ⟨h1, h2⟩
  | k + 1, i, o, h0, h1, h2 => by
    have := hl i (by omega)
    have := hx i
    refine lastR_bound hl hx k (i + 1) _ (by omega) ?_ ?_
    · unfold mx; split <;> omega
    · unfold mx; split <;> omega

/-- What the search leaves as it was. -/
def Good (ts : List Task) (f d : Nat) (st r : Srch) : Prop := SrchOk ts f d r ∧ r.free = st.free ∧ ∀ j, d.testBit j = true → r.starts.getD j 0 = st.starts.getD j 0

theorem leaf_good {ts : List Task} (hl : LenOk ts) {f d : Nat} {st : Srch} (h : SrchOk ts f d st) : Good ts f d st (leafV ts st) := by
  unfold leafV
  split
  · obtain ⟨h1, h2, h3, h4, h5, h6, h7, h8⟩ := h
    obtain ⟨b1, b2⟩ := lastR_bound (ts := ts) (xs := st.starts) (fun i hi => (hl i (by omega)).2.1) h4 st.starts.length 0 0 (by omega) (by omega) (by omega)
    exact ⟨⟨h1, h2, h3, h4, h5, fun b hb => (by injection hb with hb; subst hb; exact ⟨h1, h4⟩), b1, b2⟩, rfl, fun _ _ => rfl⟩
  · exact ⟨h, rfl, fun _ _ => rfl⟩

theorem step_ok {ts : List Task} (ha : AcyOk ts) (hl : LenOk ts) {f d i : Nat} {st : Srch} (hf : f + 1 ≤ 8) (h : SrchOk ts (f + 1) d st) (hi : i < ts.length) (hr : readyB ts d i = true) :
    SrchOk ts f (d ||| 2 ^ i) { st with starts := st.starts.set i (startOf ts st i), free := st.free.set (ts.getD i default).machine.toNat (endOf ts st i) } := by
  obtain ⟨b1, b2⟩ := startOf_bound ha hl hf h hi hr
  obtain ⟨h1, h2, h3, h4, h5, h6, h7, h8⟩ := h
  obtain ⟨l1, l2, _, _⟩ := hl i hi
  have he : endOf ts st i = startOf ts st i + (ts.getD i default).length := rfl
  have e9 : ((9 - f : Nat) : Int) = ((9 - (f + 1) : Nat) : Int) + 1 := by omega
  refine ⟨by simpa using h1, by simpa using h2, fun j => ?_, fun j => ?_, fun j hj => ?_, h6, h7, h8⟩
  · have := h3 j
    dsimp only
    rw [getD_set]
    split <;> omega
  · have := h4 j
    dsimp only
    rw [getD_set]
    split <;> omega
  · dsimp only
    rw [getD_set]
    by_cases e : i = j
    · subst e
      rw [if_pos ⟨rfl, by omega⟩]
      omega
    · rw [if_neg (fun hh => e hh.1)]
      rw [Nat.testBit_or, Nat.testBit_two_pow] at hj
      have hj' : d.testBit j = true := by simpa [e] using hj
      have := h5 j hj'
      omega

theorem step_good {ts : List Task} (ha : AcyOk ts) (hl : LenOk ts) {tails : List Int} {rec_ : Nat → Srch → Srch} {f d i : Nat} {st : Srch} (hf : f + 1 ≤ 8) (h : SrchOk ts (f + 1) d st) (hi : i < ts.length)
    (hrec : ∀ st', SrchOk ts f (d ||| 2 ^ i) st' → readyB ts d i = true → Good ts f (d ||| 2 ^ i) st' (rec_ (d ||| 2 ^ i) st')) : Good ts (f + 1) d st (stepV ts tails rec_ d st i) := by
  unfold stepV
  by_cases hr : readyB ts d i = true
  · rw [if_pos hr]
    split
    · exact ⟨h, rfl, fun _ _ => rfl⟩
    · obtain ⟨⟨g1, g2, g3, g4, g5, g6, g7, g8⟩, k1, k2⟩ := hrec _ (step_ok ha hl hf h hi hr) hr
      obtain ⟨h1, h2, h3, h4, h5, h6, h7, h8⟩ := h
      dsimp only at k1 k2 ⊢
      generalize rec_ (d ||| 2 ^ i) _ = r at *
      have hfree : r.free.set (ts.getD i default).machine.toNat (st.free.getD (ts.getD i default).machine.toNat 0) = st.free := by rw [k1, set_back]
      rw [hfree]
      have hst : ∀ j, d.testBit j = true → r.starts.getD j 0 = st.starts.getD j 0 := fun j hj => by
        have hij : ¬ i = j := fun e => by
          have := (readyB_iff.1 hr).1
          rw [e, hj] at this
          cases this
        rw [k2 j (by rw [Nat.testBit_or, hj]; rfl), getD_set, if_neg (fun hh => hij hh.1)]
      exact ⟨⟨g1, h2, h3, g4, fun j hj => by rw [hst j hj]; exact h5 j hj, g6, g7, g8⟩, rfl, hst⟩
  · rw [if_neg hr]
    exact ⟨h, rfl, fun _ _ => rfl⟩

theorem Good.trans {ts : List Task} {f d : Nat} {a b c : Srch} (h : Good ts f d a b) (k : Good ts f d b c) : Good ts f d a c := ⟨k.1, k.2.1.trans h.2.1, fun j hj => (k.2.2 j hj).trans (h.2.2 j hj)⟩

theorem try_good {ts : List Task} (ha : AcyOk ts) (hl : LenOk ts) {tails : List Int} : ∀ (f d : Nat) (st : Srch), f ≤ 8 → SrchOk ts f d st → Good ts f d st (tryF ts tails f d st)
  | 0, d, st, _, h => ⟨h, rfl, fun _ _ => rfl⟩
  | f + 1, d, st, hf, h => by
    unfold tryF
    split
    · exact leaf_good hl h
    · have : ∀ (l : List Nat) (s : Srch), (∀ i ∈ l, i < ts.length) → SrchOk ts (f + 1) d s → Good ts (f + 1) d s (l.foldl (stepV ts tails (tryF ts tails f) d) s) := by
        intro l
        induction l with
        | nil => exact fun s _ h => ⟨h, rfl, fun _ _ => rfl⟩
        | cons i l ih =>
          intro s hi h
          have g := step_good (tails := tails) (rec_ := tryF ts tails f) ha hl hf h (hi i (by simp)) (fun st' h' _ => try_good ha hl f _ st' (by omega) h')
          exact g.trans (ih _ (fun x hx => hi x (by simp [hx])) g.1)
      exact this _ _ (fun i hi => by simpa using hi) h

end Go.Proofs.Ytlgioldmjohhlaa
