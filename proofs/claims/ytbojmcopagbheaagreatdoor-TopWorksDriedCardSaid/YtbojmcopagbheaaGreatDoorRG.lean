/- Plain facts: possible schedules; no possible schedule ends earlier than heads and tails say.
Plain facts: the schedules that the search can reach; the best one ends no later than any possible schedule. -/
import Derived.Test.YtbojmcopagbheaaGreatDoorRA
import Derived.Test.YtbojmcopagbheaaGreatDoorXBest
import Derived.Test.YtbojmcopagbheaaGreatDoorRF

section
namespace Go.Proofs.YtbojmcopagbheaaGreatDoor
open Go.RowKit

/-- A possible schedule of a plan. -/
structure Feas (ts : List Task) (s : List Int) : Prop where
  len : s.length = ts.length
  rel : ∀ i, i < ts.length → (ts.getD i default).release ≤ s.getD i 0
  aft : ∀ i, i < ts.length → ∀ n ∈ (ts.getD i default).after, endAt ts s n.toNat ≤ s.getD i 0
  mac : ∀ i k, i < ts.length → k < i → (ts.getD k default).machine = (ts.getD i default).machine → endAt ts s k ≤ s.getD i 0 ∨ endAt ts s i ≤ s.getD k 0

def PosOk (ts : List Task) : Prop := ∀ i, i < ts.length → 1 ≤ (ts.getD i default).length

theorem startE_zero {ts : List Task} {ss : List Int} {i : Nat} : startE ts ss i = 0 ↔ (ts.getD i default).release ≤ ss.getD i 0 ∧ (∀ n ∈ (ts.getD i default).after, endAt ts ss n.toNat ≤ ss.getD i 0) ∧
    ∀ k, k < i → (ts.getD k default).machine = (ts.getD i default).machine → endAt ts ss k ≤ ss.getD i 0 ∨ endAt ts ss i ≤ ss.getD k 0 := by
  have hA : (!anyB (earlyB ts ss i) (afterOf ts i)) = true ↔ ∀ n ∈ (ts.getD i default).after, endAt ts ss n.toNat ≤ ss.getD i 0 := by
    unfold anyB earlyB afterOf
    rw [Bool.not_eq_true', List.any_eq_false]
    simp
  have hB : (!anyBusy ts ss i i) = true ↔ ∀ k, k < i → (ts.getD k default).machine = (ts.getD i default).machine → endAt ts ss k ≤ ss.getD i 0 ∨ endAt ts ss i ≤ ss.getD k 0 := by
    unfold anyBusy busyB
    rw [Bool.not_eq_true', List.any_eq_false]
    simp only [List.mem_range, Bool.and_eq_true, decide_eq_true_eq, not_and, Int.not_lt]
    constructor
    · intro h k hk hm
      rcases Int.lt_or_le (ss.getD k 0) (endAt ts ss i) with h1 | h1
      · exact .inl (h k hk hm h1)
      · exact .inr h1
    · intro h k hk hm h1
      rcases h k hk hm with h2 | h2
      · exact h2
      · omega
  unfold startE
  rw [← hA, ← hB]
  constructor
  · intro h
    obtain ⟨h1, h⟩ := firstV_zero.1 h
    obtain ⟨h2, h⟩ := firstV_zero.1 h
    obtain ⟨h3, _⟩ := firstV_zero.1 h
    exact ⟨by simpa using (unless_ne (by decide)).1 h1, (unless_ne (by decide)).1 h2, (unless_ne (by decide)).1 h3⟩
  · rintro ⟨h1, h2, h3⟩
    exact firstV_zero.2 ⟨(unless_ne (by decide)).2 (by simpa using h1), firstV_zero.2 ⟨(unless_ne (by decide)).2 h2, firstV_zero.2 ⟨(unless_ne (by decide)).2 h3, rfl⟩⟩⟩

theorem scan_all {f : Nat → Int} {n : Nat} : ∀ (d k : Nat), n - k = d → (∀ i, k ≤ i → i < n → f i = 0) → scan f n k = (0, 0)
  | 0, k, hd, _ => scan_end (by omega)
  | d + 1, k, hd, h => by
    rw [scan_step (by omega), if_pos (h k (Nat.le_refl _) (by omega))]
    exact scan_all d (k + 1) (by omega) fun i h1 h2 => h i (by omega) h2

theorem feas_of_sched {ts : List Task} {ss : List Int} (h : (schedV ts ss).2 = 0) : Feas ts ss ∧ ∀ j, j < ss.length → 0 ≤ ss.getD j 0 ∧ ss.getD j 0 ≤ 700000 := by
  unfold schedV at h
  by_cases hn : ss.length = ts.length
  · rw [if_neg (by simpa using hn)] at h
    by_cases h2 : (scan (rngE ss) ss.length 0).2 = 0
    · rw [if_neg (by simpa using h2)] at h
      have h3 := fun i (hi : i < ts.length) => startE_zero.1 (scan_zero h i (by omega))
      exact ⟨⟨hn, fun i hi => (h3 i hi).1, fun i hi => (h3 i hi).2.1, fun i k hi hk => (h3 i hi).2.2 k hk⟩, rng_ok h2⟩
    · rw [if_pos h2] at h
      exact absurd h h2
  · rw [if_pos hn] at h
    exact absurd h (by decide)

theorem sched_of_feas {ts : List Task} {ss : List Int} (h : Feas ts ss) (hr : ∀ j, j < ss.length → 0 ≤ ss.getD j 0 ∧ ss.getD j 0 ≤ 700000) : schedV ts ss = (0, 0) := by
  unfold schedV
  have h1 : scan (rngE ss) ss.length 0 = (0, 0) := scan_all _ 0 rfl fun i _ hi => by
    have := hr i hi
    unfold rngE
    exact (unless_ne (by decide)).2 (by unfold withinB; rw [decide_eq_true this.1, decide_eq_true this.2]; rfl)
  rw [if_neg (by simpa using h.len), if_neg (by rw [h1]; simp)]
  refine scan_all _ 0 rfl fun i _ hi => startE_zero.2 ?_
  have hl := h.len
  exact ⟨h.rel i (by omega), h.aft i (by omega), fun k hk => h.mac i k (by omega) hk⟩

/-! The end of a schedule. -/
theorem mx_le {a b U : Int} : mx a b ≤ U ↔ a ≤ U ∧ b ≤ U := by
  unfold mx
  split <;> omega
theorem lastR_le {ts : List Task} {xs : List Int} {U : Int} : ∀ (k i : Nat) (o : Int), lastR ts xs k i o ≤ U ↔ o ≤ U ∧ ∀ j, i ≤ j → j < i + k → endAt ts xs j ≤ U
  | 0, i, o => by
    simp only [lastR]
    exact ⟨fun h => ⟨h, fun j h1 h2 => by omega⟩, fun h => h.1⟩
  | k + 1, i, o => by
    rw [lastR, lastR_le k (i + 1), mx_le]
    constructor
    · rintro ⟨⟨h1, h2⟩, h3⟩
      refine ⟨h1, fun j h4 h5 => ?_⟩
      by_cases e : j = i
      · subst e; exact h2
      · exact h3 j (by omega) (by omega)
    · rintro ⟨h1, h2⟩
      exact ⟨⟨h1, h2 i (Nat.le_refl _) (by omega)⟩, fun j h4 h5 => h2 j (by omega) (by omega)⟩
theorem lastV_le {ts : List Task} {xs : List Int} {U : Int} : lastV ts xs ≤ U ↔ 0 ≤ U ∧ ∀ j, j < xs.length → endAt ts xs j ≤ U := by
  unfold lastV
  rw [lastR_le]
  exact ⟨fun h => ⟨h.1, fun j hj => h.2 j (Nat.zero_le _) (by omega)⟩, fun h => ⟨h.1, fun j _ hj => h.2 j (by omega)⟩⟩
theorem lastV_ge {ts : List Task} {xs : List Int} {j : Nat} (hj : j < xs.length) : endAt ts xs j ≤ lastV ts xs := (lastV_le.1 (Int.le_refl _)).2 j hj
theorem lastV_nn {ts : List Task} {xs : List Int} : 0 ≤ lastV ts xs := (lastV_le.1 (Int.le_refl _)).1

/-! Tails and heads. -/
theorem feas_tail {ts : List Task} (ha : AcyOk ts) (hp : PosOk ts) {s : List Int} (h : Feas ts s) : ∀ (f j : Nat), j < ts.length → (lastV ts s - s.getD j 0).toNat < f → endAt ts s j + (tailsV ts).getD j 0 ≤ lastV ts s
  | 0, _, _, hf => by omega
  | f + 1, j, hj, hf => by
    have hlen := h.len
    have h0 := lastV_ge (ts := ts) (xs := s) (j := j) (by omega)
    rcases (tails_facts ha).2.2.1 j hj with h1 | ⟨k, hk, hk2, hk3⟩
    · omega
    · have h2 := h.aft k hk (j : Int) hk2
      rw [Int.toNat_natCast] at h2
      have h3 := lastV_ge (ts := ts) (xs := s) (j := k) (by omega)
      have h4 := hp j hj
      have h5 := hp k hk
      unfold endAt at h0 h2 h3 ⊢
      have h6 := feas_tail ha hp h f k hk (by omega)
      unfold endAt at h6
      omega
theorem feas_tails {ts : List Task} (ha : AcyOk ts) (hp : PosOk ts) {s : List Int} (h : Feas ts s) {j : Nat} (hj : j < ts.length) : endAt ts s j + (tailsV ts).getD j 0 ≤ lastV ts s := feas_tail ha hp h _ j hj (Nat.lt_succ_self _)

theorem feas_nn {ts : List Task} (hl : LenOk ts) {s : List Int} (h : Feas ts s) {j : Nat} (hj : j < ts.length) : 0 ≤ s.getD j 0 := by
  have := h.rel j hj
  have := hl j hj
  omega
theorem feas_head {ts : List Task} (ha : AcyOk ts) (hl : LenOk ts) (hp : PosOk ts) {s : List Int} (h : Feas ts s) : ∀ (f j : Nat), j < ts.length → (s.getD j 0).toNat < f → (headsV ts).getD j 0 ≤ s.getD j 0
  | 0, _, _, hf => by omega
  | f + 1, j, hj, hf => by
    rw [← heads_fix ha hj]
    refine (maxF_le _ _ _).2 ⟨h.rel j hj, fun n hn => ?_⟩
    obtain ⟨h1, h2⟩ := after_nat ha.1 hj hn
    have h3 := h.aft j hj n hn
    have h4 := hp _ h1
    have h5 := feas_nn hl h h1
    unfold endAt at h3
    have h6 := feas_head ha hl hp h f n.toNat h1 (by omega)
    unfold lenAt
    omega
theorem feas_heads {ts : List Task} (ha : AcyOk ts) (hl : LenOk ts) (hp : PosOk ts) {s : List Int} (h : Feas ts s) {j : Nat} (hj : j < ts.length) : (headsV ts).getD j 0 ≤ s.getD j 0 := feas_head ha hl hp h _ j hj (Nat.lt_succ_self _)

end Go.Proofs.YtbojmcopagbheaaGreatDoor
end

section
namespace Go.Proofs.YtbojmcopagbheaaGreatDoor
open Go.RowKit

/-- The earliest start of a task, from starts and from when the machines are free. -/
def strt (ts : List Task) (ss fr : List Int) (i : Nat) : Int := startV ts ss (mx (ts.getD i default).release (fr.getD (ts.getD i default).machine.toNat 0)) (ts.getD i default).after
/-- The schedules that come from some starts on, tasks started one after the other. -/
def Leaf (ts : List Task) : Nat → Nat → List Int → List Int → List Int → Prop
  | 0, _, _, _, _ => False
  | f + 1, d, ss, fr, b => (d = 2 ^ ts.length - 1 ∧ b = ss) ∨ (d ≠ 2 ^ ts.length - 1 ∧ ∃ i, i < ts.length ∧ readyB ts d i = true ∧
      Leaf ts f (d ||| 2 ^ i) (ss.set i (strt ts ss fr i)) (fr.set (ts.getD i default).machine.toNat (strt ts ss fr i + (ts.getD i default).length)) b)

theorem startV_le {ts : List Task} {ss : List Int} {U : Int} : ∀ (l : List Int) (s0 : Int), startV ts ss s0 l ≤ U ↔ s0 ≤ U ∧ ∀ n ∈ l, endAt ts ss n.toNat ≤ U
  | [], s0 => by simp [startV]
  | n :: l, s0 => by
    have h := startV_le (ts := ts) (ss := ss) (U := U) l (mx s0 (endAt ts ss n.toNat))
    rw [show startV ts ss s0 (n :: l) = startV ts ss (mx s0 (endAt ts ss n.toNat)) l from rfl, h, mx_le]
    simp only [List.mem_cons, forall_eq_or_imp]
    exact and_assoc
theorem startV_congr {ts : List Task} {ss ss2 : List Int} : ∀ (l : List Int) (s0 : Int), (∀ n ∈ l, ss.getD n.toNat 0 = ss2.getD n.toNat 0) → startV ts ss s0 l = startV ts ss2 s0 l
  | [], _, _ => rfl
  | n :: l, s0, h => by
    rw [show startV ts ss s0 (n :: l) = startV ts ss (mx s0 (ss.getD n.toNat 0 + (ts.getD n.toNat default).length)) l from rfl, show startV ts ss2 s0 (n :: l) = startV ts ss2 (mx s0 (ss2.getD n.toNat 0 + (ts.getD n.toNat default).length)) l from rfl, h n (by simp)]
    exact startV_congr l _ fun x hx => h x (by simp [hx])
theorem strt_ge {ts : List Task} {ss fr : List Int} {i : Nat} : (ts.getD i default).release ≤ strt ts ss fr i ∧ fr.getD (ts.getD i default).machine.toNat 0 ≤ strt ts ss fr i ∧ ∀ n ∈ (ts.getD i default).after, endAt ts ss n.toNat ≤ strt ts ss fr i := by
  have h := (startV_le (ts := ts) (ss := ss) (ts.getD i default).after (mx (ts.getD i default).release (fr.getD (ts.getD i default).machine.toNat 0))).1 (Int.le_refl _)
  obtain ⟨h1, h2⟩ := h
  have h3 := mx_le.1 h1
  exact ⟨h3.1, h3.2, h2⟩
theorem strt_congr {ts : List Task} {ss ss2 fr : List Int} {i : Nat} (h : ∀ n ∈ (ts.getD i default).after, ss.getD n.toNat 0 = ss2.getD n.toNat 0) : strt ts ss fr i = strt ts ss2 fr i := startV_congr _ _ h

theorem ready_after {ts : List Task} (ha : AcyOk ts) {d i : Nat} (hi : i < ts.length) (h : readyB ts d i = true) {n : Int} (hn : n ∈ (ts.getD i default).after) : d.testBit n.toNat = true := by
  obtain ⟨h1, h2⟩ := after_nat ha.1 hi hn
  exact (readyB_iff.1 h).2 _ ((needs_closed ha.1 hi).1 _ (by rw [h2]; exact hn))
theorem ready_self {ts : List Task} {d i : Nat} (h : readyB ts d i = true) : d.testBit i = false := (readyB_iff.1 h).1
theorem full_bit {ts : List Task} {d : Nat} (h : d = 2 ^ ts.length - 1) {j : Nat} (hj : j < ts.length) : d.testBit j = true := by
  rw [h, Nat.testBit_two_pow_sub_one]; simpa using hj
theorem orb_iff {d i j : Nat} : (d ||| 2 ^ i).testBit j = true ↔ d.testBit j = true ∨ i = j := by
  rw [Nat.testBit_or, Bool.or_eq_true, Nat.testBit_two_pow, decide_eq_true_eq]

theorem leaf_congr {ts : List Task} (ha : AcyOk ts) : ∀ (f d : Nat) (ss ss2 fr b : List Int), ss.length = ts.length → ss2.length = ts.length → (∀ j, d.testBit j = true → ss.getD j 0 = ss2.getD j 0) → Leaf ts f d ss fr b → Leaf ts f d ss2 fr b
  | 0, _, _, _, _, _, _, _, _, h => h
  | f + 1, d, ss, ss2, fr, b, h1, h2, hj, h => by
    rcases h with ⟨hd, rfl⟩ | ⟨hd, i, hi, hr, h⟩
    · exact .inl ⟨hd, ext_of h1 h2 fun x hx => hj x (full_bit hd hx)⟩
    · refine .inr ⟨hd, i, hi, hr, ?_⟩
      rw [← strt_congr (ss := ss) (ss2 := ss2) fun n hn => hj _ (ready_after ha hi hr hn)]
      refine leaf_congr ha f _ _ _ _ _ (by simpa using h1) (by simpa using h2) (fun j hb => ?_) h
      rw [getD_set, getD_set, h1, h2]
      by_cases e : i = j ∧ j < ts.length
      · rw [if_pos e, if_pos e]
      · rw [if_neg e, if_neg e]
        rcases orb_iff.1 hb with hb | hb
        · exact hj j hb
        · subst hb; exact absurd ⟨rfl, hi⟩ e

/-- What has been started is possible. -/
structure Part (ts : List Task) (d : Nat) (ss fr : List Int) : Prop where
  len : ss.length = ts.length
  len4 : fr.length = 4
  rel : ∀ i, i < ts.length → d.testBit i = true → (ts.getD i default).release ≤ ss.getD i 0
  aft : ∀ i, i < ts.length → d.testBit i = true → ∀ n ∈ (ts.getD i default).after, d.testBit n.toNat = true ∧ endAt ts ss n.toNat ≤ ss.getD i 0
  mac : ∀ i k, i < ts.length → k < i → d.testBit i = true → d.testBit k = true → (ts.getD k default).machine = (ts.getD i default).machine → endAt ts ss k ≤ ss.getD i 0 ∨ endAt ts ss i ≤ ss.getD k 0
  free : ∀ i, i < ts.length → d.testBit i = true → endAt ts ss i ≤ fr.getD (ts.getD i default).machine.toNat 0

theorem endAt_set {ts : List Task} {ss : List Int} {i j : Nat} (x : Int) (h : i ≠ j) : endAt ts (ss.set i x) j = endAt ts ss j := by
  unfold endAt
  rw [getD_set, if_neg (fun e => h e.1)]
theorem getD_set_ne {ss : List Int} {i j : Nat} (x : Int) (h : i ≠ j) : (ss.set i x).getD j 0 = ss.getD j 0 := by rw [getD_set, if_neg (fun e => h e.1)]
theorem getD_set_eq {ss : List Int} {i : Nat} (x : Int) (h : i < ss.length) : (ss.set i x).getD i 0 = x := by rw [getD_set, if_pos ⟨rfl, h⟩]

theorem Part.step {ts : List Task} (ha : AcyOk ts) (hl : LenOk ts) (hm : MachOk ts) {d i : Nat} {ss fr : List Int} (h : Part ts d ss fr) (hi : i < ts.length) (hr : readyB ts d i = true) :
    Part ts (d ||| 2 ^ i) (ss.set i (strt ts ss fr i)) (fr.set (ts.getD i default).machine.toNat (strt ts ss fr i + (ts.getD i default).length)) := by
  obtain ⟨g1, g2, g3⟩ := strt_ge (ts := ts) (ss := ss) (fr := fr) (i := i)
  have hself := ready_self hr
  have hne : ∀ j, d.testBit j = true → i ≠ j := fun j hj e => by rw [e, hj] at hself; cases hself
  have hb : ∀ j, (d ||| 2 ^ i).testBit j = true → d.testBit j = true ∨ j = i := fun j hj => (orb_iff.1 hj).imp id Eq.symm
  have hli := (hl i hi).1
  have hlen := h.len
  have e0 := getD_set_eq (ss := ss) (i := i) (strt ts ss fr i) (by omega)
  have e1 : endAt ts (ss.set i (strt ts ss fr i)) i = strt ts ss fr i + (ts.getD i default).length := by unfold endAt; rw [e0]
  have hfm : ∀ j, j < ts.length → (fr.set (ts.getD i default).machine.toNat (strt ts ss fr i + (ts.getD i default).length)).getD (ts.getD j default).machine.toNat 0 = if (ts.getD i default).machine = (ts.getD j default).machine then strt ts ss fr i + (ts.getD i default).length else fr.getD (ts.getD j default).machine.toNat 0 := fun j hj => by
    have h1 := hm i hi
    have h2 := hm j hj
    have h4 := h.len4
    rw [getD_set]
    by_cases e : (ts.getD i default).machine = (ts.getD j default).machine
    · rw [if_pos e, if_pos (by rw [e]; omega)]
    · rw [if_neg e, if_neg (by omega)]
  refine ⟨by simpa using h.len, by simpa using h.len4, fun j hj hd => ?_, fun j hj hd n hn => ?_, fun j k hj hk hd1 hd2 hmm => ?_, fun j hj hd => ?_⟩
  · rcases hb j hd with hd | rfl
    · rw [getD_set_ne _ (hne j hd)]; exact h.rel j hj hd
    · rw [e0]; exact g1
  · rcases hb j hd with hd | rfl
    · obtain ⟨h1, h2⟩ := h.aft j hj hd n hn
      rw [getD_set_ne _ (hne j hd), endAt_set _ (hne _ h1)]
      exact ⟨orb_iff.2 (.inl h1), h2⟩
    · have h1 := ready_after ha hi hr hn
      rw [e0, endAt_set _ (hne _ h1)]
      exact ⟨orb_iff.2 (.inl h1), g3 n hn⟩
  · rcases hb j hd1 with ha1 | rfl
    · rcases hb k hd2 with ha2 | rfl
      · rw [getD_set_ne _ (hne j ha1), getD_set_ne _ (hne k ha2), endAt_set _ (hne j ha1), endAt_set _ (hne k ha2)]
        exact h.mac j k hj hk ha1 ha2 hmm
      · have h1 := h.free j hj ha1
        rw [← hmm] at h1
        rw [e0, e1, endAt_set _ (hne j ha1), getD_set_ne _ (hne j ha1)]
        exact .inr (Int.le_trans h1 g2)
    · rcases hb k hd2 with ha2 | rfl
      · have h1 := h.free k (by omega) ha2
        rw [hmm] at h1
        rw [e0, e1, endAt_set _ (hne k ha2), getD_set_ne _ (hne k ha2)]
        exact .inl (Int.le_trans h1 g2)
      · omega
  · rw [hfm j hj]
    rcases hb j hd with hd | rfl
    · have h1 := h.free j hj hd
      rw [endAt_set _ (hne j hd)]
      split
      · rename_i e
        rw [← e] at h1
        omega
      · exact h1
    · rw [e1, if_pos rfl]; exact Int.le_refl _

theorem leaf_feas {ts : List Task} (ha : AcyOk ts) (hl : LenOk ts) (hm : MachOk ts) : ∀ (f d : Nat) (ss fr b : List Int), Part ts d ss fr → Leaf ts f d ss fr b → Feas ts b ∧ ∀ j, d.testBit j = true → b.getD j 0 = ss.getD j 0
  | 0, _, _, _, _, _, h => h.elim
  | f + 1, d, ss, fr, b, hp, h => by
    rcases h with ⟨hd, rfl⟩ | ⟨hd, i, hi, hr, h⟩
    · exact ⟨⟨hp.len, fun i hi => hp.rel i hi (full_bit hd hi), fun i hi n hn => (hp.aft i hi (full_bit hd hi) n hn).2, fun i k hi hk => hp.mac i k hi hk (full_bit hd hi) (full_bit hd (by omega))⟩, fun _ _ => rfl⟩
    · obtain ⟨h1, h2⟩ := leaf_feas ha hl hm f _ _ _ _ (hp.step ha hl hm hi hr) h
      refine ⟨h1, fun j hj => ?_⟩
      rw [h2 j (orb_iff.2 (.inl hj)), getD_set_ne]
      intro e
      have := ready_self hr
      rw [e, hj] at this
      cases this

/-- The starts are no later than those of a possible schedule, whose order they follow. -/
structure Dom (ts : List Task) (d : Nat) (ss fr s : List Int) : Prop where
  len : ss.length = ts.length
  len4 : fr.length = 4
  le : ∀ j, j < ts.length → d.testBit j = true → ss.getD j 0 ≤ s.getD j 0
  ord : ∀ j i, j < ts.length → i < ts.length → d.testBit j = true → d.testBit i = false → s.getD j 0 ≤ s.getD i 0
  free : ∀ m, m < 4 → fr.getD m 0 = 0 ∨ ∃ j, j < ts.length ∧ d.testBit j = true ∧ (ts.getD j default).machine.toNat = m ∧ fr.getD m 0 = endAt ts ss j

theorem arg_min (p : Nat → Bool) (g : Nat → Int) : ∀ n : Nat, (∃ i, i < n ∧ p i = true) → ∃ i, i < n ∧ p i = true ∧ ∀ k, k < n → p k = true → g i ≤ g k
  | 0, ⟨_, h, _⟩ => by omega
  | n + 1, h => by
    by_cases h1 : ∃ i, i < n ∧ p i = true
    · obtain ⟨i, hi, hpi, hmin⟩ := arg_min p g n h1
      by_cases h2 : p n = true ∧ g n < g i
      · refine ⟨n, by omega, h2.1, fun k hk hpk => ?_⟩
        by_cases e : k = n
        · subst e; exact Int.le_refl _
        · have := hmin k (by omega) hpk; omega
      · refine ⟨i, by omega, hpi, fun k hk hpk => ?_⟩
        by_cases e : k = n
        · subst e
          have : ¬ g k < g i := fun h3 => h2 ⟨hpk, h3⟩
          omega
        · exact hmin k (by omega) hpk
    · obtain ⟨i, hi, hpi⟩ := h
      have hin : i = n := by
        by_cases e : i = n
        · exact e
        · exact absurd ⟨i, by omega, hpi⟩ h1
      subst hin
      refine ⟨i, by omega, hpi, fun k hk hpk => ?_⟩
      by_cases e : k = i
      · subst e; exact Int.le_refl _
      · exact absurd ⟨k, by omega, hpk⟩ h1

theorem some_ready_min {ts : List Task} (ha : AcyOk ts) (hp : PosOk ts) {s : List Int} (h : Feas ts s) {d : Nat} (hd : d < 2 ^ ts.length) (hne : d ≠ 2 ^ ts.length - 1) :
    ∃ i, i < ts.length ∧ readyB ts d i = true ∧ ∀ k, k < ts.length → d.testBit k = false → s.getD i 0 ≤ s.getD k 0 := by
  obtain ⟨i0, hi0, hr0⟩ := some_ready ha hd hne
  obtain ⟨i, hi, hpi, hmin⟩ := arg_min (fun i => !d.testBit i) (fun i => s.getD i 0) ts.length ⟨i0, hi0, by simp [ready_self hr0]⟩
  have hpi' : d.testBit i = false := by simpa using hpi
  have hmin' : ∀ k, k < ts.length → d.testBit k = false → s.getD i 0 ≤ s.getD k 0 := fun k hk hb => hmin k hk (by simp [hb])
  refine ⟨i, hi, readyB_iff.2 ⟨hpi', fun j hj => ?_⟩, hmin'⟩
  have hQ : ∀ x, (needsV ts i).testBit x = true → x < ts.length ∧ s.getD x 0 < s.getD i 0 := by
    refine needs_least ha.1 hi (fun x => x < ts.length ∧ s.getD x 0 < s.getD i 0) (fun x hx => ?_) (fun x h0 hQx y hxy => ?_)
    · obtain ⟨h1, h2⟩ := after_nat ha.1 hi hx
      have h3 := h.aft i hi _ hx
      rw [Int.toNat_natCast] at h1 h3
      have := hp x h1
      unfold endAt at h3
      exact ⟨h1, by omega⟩
    · have h00 := hQx.2
      obtain ⟨h1, h2⟩ := after_nat ha.1 h0 hxy
      have h3 := h.aft x h0 _ hxy
      rw [Int.toNat_natCast] at h1 h3
      have := hp y h1
      unfold endAt at h3
      exact ⟨h1, by omega⟩
  obtain ⟨h1, h2⟩ := hQ j hj
  cases hb : d.testBit j with
  | true => rfl
  | false => have := hmin' j h1 hb; omega

theorem dom_leaf {ts : List Task} (ha : AcyOk ts) (hl : LenOk ts) (hm : MachOk ts) (hp : PosOk ts) {s : List Int} (h : Feas ts s) : ∀ (f d : Nat) (ss fr : List Int), d < 2 ^ ts.length → unset ts.length d < f → Dom ts d ss fr s → ∃ b, Leaf ts f d ss fr b ∧ lastV ts b ≤ lastV ts s
  | 0, _, _, _, _, hu, _ => by omega
  | f + 1, d, ss, fr, hd, hu, hD => by
    by_cases hdone : d = 2 ^ ts.length - 1
    · refine ⟨ss, .inl ⟨hdone, rfl⟩, lastV_le.2 ⟨lastV_nn, fun j hj => ?_⟩⟩
      have hj' : j < ts.length := by rw [← hD.len]; exact hj
      have h1 := hD.le j hj' (full_bit hdone hj')
      have h2 := lastV_ge (ts := ts) (xs := s) (j := j) (by rw [h.len]; exact hj')
      unfold endAt at h2 ⊢
      omega
    · obtain ⟨i, hi, hr, hmin⟩ := some_ready_min ha hp h hd hdone
      have hself := ready_self hr
      have hne : ∀ j, d.testBit j = true → i ≠ j := fun j hj e => by rw [e, hj] at hself; cases hself
      have hb : ∀ j, (d ||| 2 ^ i).testBit j = true → d.testBit j = true ∨ j = i := fun j hj => (orb_iff.1 hj).imp id Eq.symm
      have hlen := hD.len
      have hle : strt ts ss fr i ≤ s.getD i 0 := by
        have hmi := hm i hi
        refine (startV_le _ _).2 ⟨mx_le.2 ⟨h.rel i hi, ?_⟩, fun n hn => ?_⟩
        · rcases hD.free (ts.getD i default).machine.toNat (by omega) with h1 | ⟨j, hj, hdj, hmj, h1⟩
          · have := feas_nn hl h hi; omega
          · have h2 := hD.le j hj hdj
            have h3 := hD.ord j i hj hi hdj hself
            have hmj' : (ts.getD j default).machine = (ts.getD i default).machine := by
              have := hm j hj
              omega
            have h4 : endAt ts s j ≤ s.getD i 0 ∨ endAt ts s i ≤ s.getD j 0 := by
              rcases Nat.lt_or_ge j i with hlt | hge
              · exact h.mac i j hi hlt hmj'
              · exact (h.mac j i hj (by have := hne j hdj; omega) hmj'.symm).symm
            have h5 := hp i hi
            rw [h1]
            unfold endAt at h4 ⊢
            omega
        · have h1 := ready_after ha hi hr hn
          obtain ⟨h2, _⟩ := after_nat ha.1 hi hn
          have h3 := hD.le _ h2 h1
          have h4 := h.aft i hi n hn
          unfold endAt at h4 ⊢
          omega
      have e0 := getD_set_eq (ss := ss) (i := i) (strt ts ss fr i) (by omega)
      have e1 : endAt ts (ss.set i (strt ts ss fr i)) i = strt ts ss fr i + (ts.getD i default).length := by unfold endAt; rw [e0]
      have hDom : Dom ts (d ||| 2 ^ i) (ss.set i (strt ts ss fr i)) (fr.set (ts.getD i default).machine.toNat (strt ts ss fr i + (ts.getD i default).length)) s := by
       refine ⟨by simpa using hlen, by simpa using hD.len4, fun j hj hdj => ?_, fun j k hj hk hdj hdk => ?_, fun q hq => ?_⟩
       · rcases hb j hdj with hdj | rfl
         · rw [getD_set_ne _ (hne j hdj)]; exact hD.le j hj hdj
         · rw [e0]; exact hle
       · have hk2 : d.testBit k = false := by
           cases hq : d.testBit k with
           | false => rfl
           | true => rw [orb_iff.2 (.inl hq)] at hdk; cases hdk
         rcases hb j hdj with hdj | rfl
         · exact hD.ord j k hj hk hdj hk2
         · exact hmin k hk hk2
       · have h4 := hD.len4
         rw [getD_set]
         by_cases e : (ts.getD i default).machine.toNat = q ∧ q < fr.length
         · rw [if_pos e]
           exact .inr ⟨i, hi, orb_iff.2 (.inr rfl), e.1, e1.symm⟩
         · rw [if_neg e]
           rcases hD.free q hq with h1 | ⟨j, hj, hdj, hmj, h1⟩
           · exact .inl h1
           · exact .inr ⟨j, hj, orb_iff.2 (.inl hdj), hmj, by rw [h1, endAt_set _ (hne j hdj)]⟩
      obtain ⟨b, hb1, hb2⟩ := dom_leaf ha hl hm hp h f (d ||| 2 ^ i) (ss.set i (strt ts ss fr i)) (fr.set (ts.getD i default).machine.toNat (strt ts ss fr i + (ts.getD i default).length))
        (Nat.or_lt_two_pow hd (Nat.pow_lt_pow_right (by decide) hi)) (by have := unset_lt hi hself; omega) hDom
      exact ⟨b, .inr ⟨hdone, i, hi, hr, hb1⟩, hb2⟩

/-! The search. -/
structure Res (ts : List Task) (f d : Nat) (st r : Srch) : Prop where
  low : ∀ b, Leaf ts f d st.starts st.free b → r.best.isSome = true ∧ r.last ≤ lastV ts b
  mono : st.best.isSome = true → r.best.isSome = true ∧ r.last ≤ st.last
  new : (r.best = st.best ∧ r.last = st.last) ∨ ∃ b, r.best = some b ∧ lastV ts b = r.last ∧ Leaf ts f d st.starts st.free b

theorem startOf_strt (ts : List Task) (st : Srch) (i : Nat) : startOf ts st i = strt ts st.starts st.free i := rfl

theorem leaf_res {ts : List Task} {f d : Nat} {st : Srch} (hd : d = 2 ^ ts.length - 1) : Res ts (f + 1) d st (leafV ts st) := by
  have hL : ∀ b, Leaf ts (f + 1) d st.starts st.free b → b = st.starts := fun b h => by
    rcases h with ⟨_, h⟩ | ⟨h, _⟩
    · exact h
    · exact absurd hd h
  unfold leafV
  split
  · rename_i hc
    refine ⟨fun b h => ?_, fun h => ?_, .inr ⟨_, rfl, rfl, .inl ⟨hd, rfl⟩⟩⟩
    · rw [hL b h]; exact ⟨rfl, Int.le_refl _⟩
    · refine ⟨rfl, ?_⟩
      simp only [Bool.or_eq_true, decide_eq_true_eq] at hc
      rcases hc with hc | hc
      · rw [Option.isNone_iff_eq_none] at hc; rw [hc] at h; cases h
      · exact Int.le_of_lt hc
  · rename_i hc
    simp only [Bool.or_eq_true, decide_eq_true_eq, not_or] at hc
    have h1 : st.best.isSome = true := by
      cases hb : st.best with
      | none => rw [hb] at hc; exact absurd rfl hc.1
      | some _ => rfl
    refine ⟨fun b h => ?_, fun h => ⟨h, Int.le_refl _⟩, .inl ⟨rfl, rfl⟩⟩
    rw [hL b h]
    exact ⟨h1, by omega⟩

theorem try_res {ts : List Task} (ha : AcyOk ts) (hl : LenOk ts) (hm : MachOk ts) (hp : PosOk ts) : ∀ (f d : Nat) (st : Srch), f ≤ 8 → d < 2 ^ ts.length → SrchOk ts f d st → Part ts d st.starts st.free → Res ts f d st (tryF ts (tailsV ts) f d st)
  | 0, d, st, _, _, _, _ => ⟨fun b h => h.elim, fun h => ⟨h, Int.le_refl _⟩, .inl ⟨rfl, rfl⟩⟩
  | f + 1, d, st, hf, hd, hok, hpart => by
    unfold tryF
    split
    · rename_i hdone
      exact leaf_res hdone
    · rename_i hdone
      have hrun : ∀ k, k ≤ ts.length → Good ts (f + 1) d st (uptoV ts (tailsV ts) f d st k) ∧
          (∀ i, i < k → readyB ts d i = true → ∀ b, Leaf ts f (d ||| 2 ^ i) (st.starts.set i (strt ts st.starts st.free i)) (st.free.set (ts.getD i default).machine.toNat (strt ts st.starts st.free i + (ts.getD i default).length)) b → (uptoV ts (tailsV ts) f d st k).best.isSome = true ∧ (uptoV ts (tailsV ts) f d st k).last ≤ lastV ts b) ∧
          (st.best.isSome = true → (uptoV ts (tailsV ts) f d st k).best.isSome = true ∧ (uptoV ts (tailsV ts) f d st k).last ≤ st.last) ∧
          (((uptoV ts (tailsV ts) f d st k).best = st.best ∧ (uptoV ts (tailsV ts) f d st k).last = st.last) ∨ ∃ b, (uptoV ts (tailsV ts) f d st k).best = some b ∧ lastV ts b = (uptoV ts (tailsV ts) f d st k).last ∧ Leaf ts (f + 1) d st.starts st.free b) := by
        intro k
        induction k with
        | zero => exact fun _ => ⟨⟨hok, rfl, fun _ _ => rfl⟩, fun i hi => by omega, fun h => ⟨h, Int.le_refl _⟩, .inl ⟨rfl, rfl⟩⟩
        | succ k ih =>
          intro hk
          obtain ⟨hg, h1, h2, h3⟩ := ih (by omega)
          rw [uptoV_succ]
          generalize uptoV ts (tailsV ts) f d st k = sk at *
          have hk' : k < ts.length := by omega
          have hg2 : Good ts (f + 1) d st (stepV ts (tailsV ts) (tryF ts (tailsV ts) f) d sk k) := hg.trans (step_good ha hl hf hg.1 hk' fun st' h _ => try_good ha hl f _ st' (by omega) h)
          refine ⟨hg2, ?_⟩
          clear hg2
          by_cases hr : readyB ts d k = true
          · have hself := ready_self hr
            have hlen1 : sk.starts.length = ts.length := hg.1.1
            have hs : startOf ts sk k = strt ts st.starts st.free k := by
              rw [startOf_strt, hg.2.1]
              exact strt_congr fun n hn => hg.2.2 _ (ready_after ha hk' hr hn)
            have he : endOf ts sk k = strt ts st.starts st.free k + (ts.getD k default).length := by unfold endOf; rw [hs]
            have hsame : ∀ b, Leaf ts f (d ||| 2 ^ k) (st.starts.set k (strt ts st.starts st.free k)) (st.free.set (ts.getD k default).machine.toNat (strt ts st.starts st.free k + (ts.getD k default).length)) b ↔
                Leaf ts f (d ||| 2 ^ k) (sk.starts.set k (strt ts st.starts st.free k)) (sk.free.set (ts.getD k default).machine.toNat (strt ts st.starts st.free k + (ts.getD k default).length)) b := fun b => by
              rw [hg.2.1]
              have hh : ∀ j, (d ||| 2 ^ k).testBit j = true → (st.starts.set k (strt ts st.starts st.free k)).getD j 0 = (sk.starts.set k (strt ts st.starts st.free k)).getD j 0 := fun j hj => by
                rw [getD_set, getD_set, hpart.len, hlen1]
                rcases orb_iff.1 hj with hj | rfl
                · rw [hg.2.2 j hj]
                · rw [if_pos ⟨rfl, hk'⟩, if_pos ⟨rfl, hk'⟩]
              exact ⟨leaf_congr ha f _ _ _ _ _ (by simpa using hpart.len) (by simpa using hlen1) hh, leaf_congr ha f _ _ _ _ _ (by simpa using hlen1) (by simpa using hpart.len) fun j hj => (hh j hj).symm⟩
            have hpart2 := hpart.step ha hl hm hk' hr
            by_cases hc : cutB (tailsV ts) sk k (endOf ts sk k) = true
            · rw [stepV_cut rfl hc]
              refine ⟨fun i hi hri b hb => ?_, h2, h3⟩
              by_cases e : i = k
              · subst e
                unfold cutB at hc
                simp only [Bool.and_eq_true, decide_eq_true_eq] at hc
                obtain ⟨hfb, hst⟩ := leaf_feas ha hl hm f _ _ _ _ hpart2 hb
                have h4 := feas_tails ha hp hfb hk'
                have h5 := hst i (orb_iff.2 (.inr rfl))
                rw [getD_set_eq _ (by rw [hpart.len]; exact hk')] at h5
                unfold endAt at h4
                rw [h5] at h4
                exact ⟨hc.1, by rw [he] at hc; omega⟩
              · exact h1 i (by omega) hri b hb
            · have hc' : cutB (tailsV ts) sk k (endOf ts sk k) = false := by simpa using hc
              have hok2 := step_ok ha hl hf hg.1 hk' hr
              have hres := try_res ha hl hm hp f (d ||| 2 ^ k) { sk with starts := sk.starts.set k (startOf ts sk k), free := sk.free.set (ts.getD k default).machine.toNat (endOf ts sk k) } (by omega)
                (Nat.or_lt_two_pow hd (Nat.pow_lt_pow_right (by decide) hk')) hok2 (by
                  have hskp : Part ts d sk.starts sk.free := by
                    rw [hg.2.1]
                    refine ⟨hlen1, hpart.len4, fun i hi hb => ?_, fun i hi hb n hn => ?_, fun i q hi hq hb1 hb2 hmm => ?_, fun i hi hb => ?_⟩
                    · rw [hg.2.2 i hb]; exact hpart.rel i hi hb
                    · obtain ⟨h4, h5⟩ := hpart.aft i hi hb n hn
                      unfold endAt at h5 ⊢
                      rw [hg.2.2 i hb, hg.2.2 _ h4]
                      exact ⟨h4, h5⟩
                    · unfold endAt
                      rw [hg.2.2 i hb1, hg.2.2 q hb2]
                      exact hpart.mac i q hi hq hb1 hb2 hmm
                    · unfold endAt
                      rw [hg.2.2 i hb]
                      exact hpart.free i hi hb
                  exact hskp.step ha hl hm hk' hr)
              rw [stepV_go hr rfl rfl hc' rfl rfl]
              rw [hs, he] at hres ⊢
              obtain ⟨r1, r2, r3⟩ := hres
              dsimp only at r1 r2 r3 ⊢
              generalize tryF ts (tailsV ts) f (d ||| 2 ^ k) _ = rr at *
              refine ⟨fun i hi hri b hb => ?_, fun h => ?_, ?_⟩
              · by_cases e : i = k
                · subst e
                  exact r1 b ((hsame b).1 hb)
                · obtain ⟨h4, h5⟩ := h1 i (by omega) hri b hb
                  obtain ⟨h6, h7⟩ := r2 h4
                  exact ⟨h6, by omega⟩
              · obtain ⟨h4, h5⟩ := h2 h
                obtain ⟨h6, h7⟩ := r2 h4
                exact ⟨h6, by omega⟩
              · rcases r3 with ⟨h4, h5⟩ | ⟨b, h4, h5, h6⟩
                · rw [h4, h5]; exact h3
                · exact .inr ⟨b, h4, h5, .inr ⟨hdone, k, hk', hr, (hsame b).2 h6⟩⟩
          · have hst : stepV ts (tailsV ts) (tryF ts (tailsV ts) f) d sk k = sk := by unfold stepV; rw [if_neg hr]
            rw [hst]
            refine ⟨fun i hi hri b hb => ?_, h2, h3⟩
            by_cases e : i = k
            · subst e; exact absurd hri hr
            · exact h1 i (by omega) hri b hb
      obtain ⟨hg, h1, h2, h3⟩ := hrun ts.length (Nat.le_refl _)
      refine ⟨fun b hb => ?_, h2, h3⟩
      rcases hb with ⟨h, _⟩ | ⟨_, i, hi, hr, hb⟩
      · exact absurd h hdone
      · exact h1 i hi hr b hb

theorem part_zero (ts : List Task) : Part ts 0 (List.replicate ts.length 0) [0, 0, 0, 0] :=
  ⟨by simp, rfl, fun i _ h => by simp at h, fun i _ h => by simp at h, fun i k _ _ h => by simp at h, fun i _ h => by simp at h⟩
theorem dom_zero (ts : List Task) (s : List Int) : Dom ts 0 (List.replicate ts.length 0) [0, 0, 0, 0] s :=
  ⟨by simp, rfl, fun i _ h => by simp at h, fun i k _ _ h => by simp at h, fun m hm => .inl (by
    match m, hm with
    | 0, _ => rfl
    | 1, _ => rfl
    | 2, _ => rfl
    | 3, _ => rfl)⟩

/-- The best schedule: there is one, it is possible, its end is the one said, it is reached by starting tasks one after the other, no such schedule ends earlier, and no possible one. -/
theorem best_min {ts : List Task} (ha : AcyOk ts) (hl : LenOk ts) (hm : MachOk ts) (hp : PosOk ts) : ∃ b, (bestV ts).best = some b ∧ Feas ts b ∧ lastV ts b = (bestV ts).last ∧ (∀ j, 0 ≤ b.getD j 0 ∧ b.getD j 0 ≤ 90000) ∧ (∀ s, Feas ts s → (bestV ts).last ≤ lastV ts s) ∧
    Leaf ts 8 0 (List.replicate ts.length 0) [0, 0, 0, 0] b ∧ ∀ s, Leaf ts 8 0 (List.replicate ts.length 0) [0, 0, 0, 0] s → (bestV ts).last ≤ lastV ts s := by
  have h7 := ha.1.1
  have hun : unset ts.length 0 < 8 := by have := unset_le ts.length 0; omega
  have hres := try_res ha hl hm hp 8 0 (srch0 ts.length) (Nat.le_refl _) (Nat.two_pow_pos _) (srch0_ok ts) (part_zero ts)
  have hgood := try_good (tails := tailsV ts) ha hl 8 0 (srch0 ts.length) (Nat.le_refl _) (srch0_ok ts)
  rw [show tryF ts (tailsV ts) 8 0 (srch0 ts.length) = bestV ts from rfl] at hres hgood
  obtain ⟨b0, hb0⟩ : ∃ b, Leaf ts 8 0 (List.replicate ts.length 0) [0, 0, 0, 0] b := by
    have : ∀ (f d : Nat) (ss fr : List Int), d < 2 ^ ts.length → unset ts.length d < f → ∃ b, Leaf ts f d ss fr b := by
      intro f
      induction f with
      | zero => intro d _ _ _ h; omega
      | succ f ih =>
        intro d ss fr hd hu
        by_cases hdone : d = 2 ^ ts.length - 1
        · exact ⟨ss, .inl ⟨hdone, rfl⟩⟩
        · obtain ⟨i, hi, hr⟩ := some_ready ha hd hdone
          obtain ⟨b, hb⟩ := ih (d ||| 2 ^ i) (ss.set i (strt ts ss fr i)) (fr.set (ts.getD i default).machine.toNat (strt ts ss fr i + (ts.getD i default).length)) (Nat.or_lt_two_pow hd (Nat.pow_lt_pow_right (by decide) hi)) (by have := unset_lt hi (ready_self hr); omega)
          exact ⟨b, .inr ⟨hdone, i, hi, hr, hb⟩⟩
    exact this 8 0 _ _ (Nat.two_pow_pos _) hun
  obtain ⟨hs, _⟩ := hres.low b0 hb0
  rcases hres.new with ⟨h1, _⟩ | ⟨b, h1, h2, h3⟩
  · rw [h1] at hs; cases hs
  · obtain ⟨hf, _⟩ := leaf_feas ha hl hm 8 0 _ _ b (part_zero ts) h3
    refine ⟨b, h1, hf, h2, (hgood.1.2.2.2.2.2.1 b h1).2, fun s hs => ?_, h3, fun s hs => (hres.low s hs).2⟩
    obtain ⟨q, hq1, hq2⟩ := dom_leaf ha hl hm hp hs 8 0 _ _ (Nat.two_pow_pos _) hun (dom_zero ts s)
    have := (hres.low q hq1).2
    omega

end Go.Proofs.YtbojmcopagbheaaGreatDoor
end
