/- Contracts: the specification's HeadsOf and TailsOf: as often as there are tasks, all are raised. Valid plans.
Plain facts: the heads and tails that come by the order of tasks are those that come by raising all, as often as there are tasks. -/
import Derived.Test.YtbojmcopagbheaaGreatDoorR1Heads
import Derived.Lib.MinMax

section
namespace Go.Proofs.YtbojmcopagbheaaGreatDoor
open Go.RowKit Go.Shelf

def raiseH (ts : List Task) (o : List Int) (i : Nat) : List Int := (ts.getD i default).after.foldl (relaxH ts i) (o.set i (max (o.getD i 0) (ts.getD i default).release))
def iterF (g : List Int → List Int) : Nat → List Int → List Int
  | 0, o => o
  | k + 1, o => iterF g k (g o)
def roundF (f : List Int → Nat → List Int) (n : Nat) (o : List Int) : List Int := (List.range n).foldl f o
def refHeadsV (ts : List Task) : List Int := iterF (roundF (raiseH ts) ts.length) (ts.length + 1) (List.replicate ts.length 0)
def refTailsV (ts : List Task) : List Int := iterF (roundF (tailsTask ts) ts.length) (ts.length + 1) (List.replicate ts.length 0)
theorem range_drop {n i : Nat} (h : i < n) : (List.range n).drop i = i :: (List.range n).drop (i + 1) := by
  rw [List.drop_eq_getElem_cons (by simpa using h)]
  simp
theorem out_zero (ts : List Task) : OutOk ts 0 (List.replicate ts.length 0) := out_start ts

end Go.Proofs.YtbojmcopagbheaaGreatDoor
end

section
namespace Go.Proofs.YtbojmcopagbheaaGreatDoor
open Go.RowKit

/-! The order: each task after all on which it depends. -/
def TopoFrom (ts : List Task) : Nat → List Nat → Prop
  | _, [] => True
  | d, i :: l => i < ts.length ∧ readyB ts d i = true ∧ TopoFrom ts (d ||| 2 ^ i) l
def doneV : Nat → List Nat → Nat
  | d, [] => d
  | d, i :: l => doneV (d ||| 2 ^ i) l
theorem topo_append {ts : List Task} : ∀ (l1 l2 : List Nat) (d : Nat), TopoFrom ts d l1 → TopoFrom ts (doneV d l1) l2 → TopoFrom ts d (l1 ++ l2)
  | [], _, _, _, h => h
  | _ :: l1, l2, _, h, h2 => ⟨h.1, h.2.1, topo_append l1 l2 _ h.2.2 h2⟩
theorem done_append : ∀ (l1 l2 : List Nat) (d : Nat), doneV d (l1 ++ l2) = doneV (doneV d l1) l2
  | [], _, _ => rfl
  | _ :: l1, l2, _ => done_append l1 l2 _
theorem done_bit : ∀ (l : List Nat) (d x : Nat), (doneV d l).testBit x = true ↔ d.testBit x = true ∨ x ∈ l
  | [], d, x => by simp [doneV]
  | i :: l, d, x => by
    rw [doneV, done_bit l, Nat.testBit_or, Bool.or_eq_true, Nat.testBit_two_pow, decide_eq_true_eq, List.mem_cons]
    constructor
    · rintro ((h | h) | h)
      · exact .inl h
      · exact .inr (.inl h.symm)
      · exact .inr (.inr h)
    · rintro (h | rfl | h)
      · exact .inl (.inl h)
      · exact .inl (.inr rfl)
      · exact .inr h
theorem pass_topo {ts : List Task} : ∀ (m i d : Nat), i + m = ts.length → TopoFrom ts d (passF ts m i d).1 ∧ doneV d (passF ts m i d).1 = (passF ts m i d).2
  | 0, _, d, _ => ⟨trivial, rfl⟩
  | m + 1, i, d, hi => by
    cases hr : readyB ts d i with
    | true =>
      obtain ⟨h1, h2⟩ := pass_topo (ts := ts) m (i + 1) (d ||| 2 ^ i) (by omega)
      simp only [passF, hr, if_true]
      exact ⟨⟨by omega, hr, h1⟩, h2⟩
    | false =>
      obtain ⟨h1, h2⟩ := pass_topo (ts := ts) m (i + 1) d (by omega)
      simp only [passF, hr, Bool.false_eq_true, if_false]
      exact ⟨h1, h2⟩
theorem orderF_topo {ts : List Task} (ha : AcyOk ts) : ∀ (f d : Nat), d < 2 ^ ts.length → 2 ^ ts.length - 1 - d < f → TopoFrom ts d (orderF ts f d) ∧ doneV d (orderF ts f d) = 2 ^ ts.length - 1
  | 0, d, _, hf => by omega
  | f + 1, d, hd, hf => by
    by_cases he : d = 2 ^ ts.length - 1
    · simp only [orderF, if_pos he]
      exact ⟨trivial, he⟩
    · have hg := pass_gt ha hd he
      obtain ⟨h1, h2⟩ := pass_topo (ts := ts) ts.length 0 d (by omega)
      obtain ⟨h3, h4⟩ := orderF_topo ha f (passF ts ts.length 0 d).2 (pass_spec (ts := ts) ts.length 0 d (by omega) hd).2.1 (by omega)
      simp only [orderF, if_neg he]
      exact ⟨topo_append _ _ _ h1 (by rw [h2]; exact h3), by rw [done_append, h2]; exact h4⟩
theorem order_topo {ts : List Task} (ha : AcyOk ts) : TopoFrom ts 0 (orderV ts) ∧ doneV 0 (orderV ts) = 2 ^ ts.length - 1 := by
  have h7 : 2 ^ ts.length ≤ 2 ^ 7 := Nat.pow_le_pow_right (by decide) ha.1.1
  have h0 := Nat.two_pow_pos ts.length
  exact orderF_topo ha 130 0 h0 (by omega)
theorem order_all {ts : List Task} (ha : AcyOk ts) {i : Nat} (hi : i < ts.length) : i ∈ orderV ts := by
  have h := (done_bit (orderV ts) 0 i).1 (by rw [(order_topo ha).2, Nat.testBit_two_pow_sub_one]; simpa using hi)
  rcases h with h | h
  · simp at h
  · exact h
theorem topo_split {ts : List Task} : ∀ (l1 : List Nat) (x : Nat) (l2 : List Nat) (d : Nat), TopoFrom ts d (l1 ++ x :: l2) → readyB ts (doneV d l1) x = true
  | [], _, _, _, h => h.2.1
  | _ :: l1, x, l2, _, h => topo_split l1 x l2 _ h.2.2
theorem after_nat {ts : List Task} (hp : PlanOk ts) {i : Nat} (hi : i < ts.length) {n : Int} (hn : n ∈ (ts.getD i default).after) : n.toNat < ts.length ∧ ((n.toNat : Nat) : Int) = n := by
  have := after_in hp hi n hn
  omega
theorem order_before {ts : List Task} (ha : AcyOk ts) {pre post : List Nat} {x : Nat} (h : orderV ts = pre ++ x :: post) : ∀ n ∈ (ts.getD x default).after, n.toNat ∈ pre := by
  intro n hn
  have hx : x < ts.length := order_mem (by rw [h]; simp)
  have ht := (order_topo ha).1
  rw [h] at ht
  have hr := (readyB_iff.1 (topo_split _ _ _ _ ht)).2
  obtain ⟨h1, h2⟩ := after_nat ha.1 hx hn
  have hb := hr n.toNat ((needs_closed ha.1 hx).1 n.toNat (by rw [h2]; exact hn))
  rcases (done_bit _ _ _).1 hb with h3 | h3
  · simp at h3
  · exact h3
theorem not_self {ts : List Task} (ha : AcyOk ts) {i : Nat} (hi : i < ts.length) {n : Int} (hn : n ∈ (ts.getD i default).after) : n.toNat ≠ i := by
  intro e
  obtain ⟨h1, h2⟩ := after_nat ha.1 hi hn
  have := (needs_closed ha.1 hi).1 n.toNat (by rw [h2]; exact hn)
  rw [e, ha.2 i hi] at this
  cases this

/-! The maximum of some numbers. -/
def maxF (f : Int → Int) (l : List Int) (a : Int) : Int := l.foldl (fun a n => max a (f n)) a
theorem maxF_le {f : Int → Int} : ∀ (l : List Int) (a U : Int), maxF f l a ≤ U ↔ a ≤ U ∧ ∀ n ∈ l, f n ≤ U
  | [], a, U => by simp [maxF]
  | x :: l, a, U => by
    have h := maxF_le (f := f) l (max a (f x)) U
    rw [show maxF f (x :: l) a = maxF f l (max a (f x)) from rfl, h]
    constructor
    · rintro ⟨h1, h2⟩
      exact ⟨by omega, fun n hn => by rcases List.mem_cons.1 hn with rfl | hn; · omega
                                      · exact h2 n hn⟩
    · rintro ⟨h1, h2⟩
      have := h2 x (by simp)
      exact ⟨by omega, fun n hn => h2 n (by simp [hn])⟩
theorem maxF_ge {f : Int → Int} {l : List Int} {a : Int} : a ≤ maxF f l a ∧ ∀ n ∈ l, f n ≤ maxF f l a := (maxF_le l a _).1 (Int.le_refl _)
theorem maxF_congr {f g : Int → Int} {l : List Int} {a : Int} (h : ∀ n ∈ l, f n = g n) : maxF f l a = maxF g l a := by
  apply Int.le_antisymm
  · exact (maxF_le _ _ _).2 ⟨maxF_ge.1, fun n hn => by rw [h n hn]; exact maxF_ge.2 n hn⟩
  · exact (maxF_le _ _ _).2 ⟨maxF_ge.1, fun n hn => by rw [← h n hn]; exact maxF_ge.2 n hn⟩
theorem maxF_max {f : Int → Int} {l : List Int} {a b : Int} : maxF f l (max b a) = max b (maxF f l a) := by
  have h1 := maxF_ge (f := f) (l := l) (a := max b a)
  have h2 := maxF_ge (f := f) (l := l) (a := a)
  apply Int.le_antisymm
  · exact (maxF_le _ _ _).2 ⟨by omega, fun n hn => by have := h2.2 n hn; omega⟩
  · have : maxF f l a ≤ maxF f l (max b a) := (maxF_le _ _ _).2 ⟨by omega, h1.2⟩
    omega

theorem set_at (o : List Int) (i x : Nat) (a : Int) : (o.set i a).getD x 0 = if i = x ∧ i < o.length then a else o.getD x 0 := by
  simp only [List.getD, List.getElem?_set]
  by_cases h : i = x
  · subst h
    by_cases h2 : i < o.length
    · simp [h2]
    · simp [h2]
  · simp [h]

/-! Heads. -/
def lenAt (ts : List Task) (o : List Int) (n : Int) : Int := o.getD n.toNat 0 + (ts.getD n.toNat default).length
def hv (ts : List Task) (o : List Int) (i : Nat) : Int := maxF (lenAt ts o) (ts.getD i default).after (ts.getD i default).release
theorem relax_fold (ts : List Task) (i : Nat) : ∀ (bs o : List Int) (a : Int), i < o.length → (∀ n ∈ bs, n.toNat ≠ i) → bs.foldl (relaxH ts i) (o.set i a) = o.set i (maxF (lenAt ts o) bs a)
  | [], o, a, _, _ => rfl
  | n :: bs, o, a, hi, hn => by
    have h1 : relaxH ts i (o.set i a) n = o.set i (max a (lenAt ts o n)) := by
      have hne := hn n (by simp)
      unfold relaxH lenAt
      rw [List.set_set, set_at, set_at, if_pos ⟨rfl, hi⟩, if_neg (fun h => hne h.1.symm)]
    rw [List.foldl_cons, h1, relax_fold ts i bs o _ hi (fun n hn' => hn n (by simp [hn']))]
    rfl
theorem headsTask_eq {ts : List Task} (ha : AcyOk ts) {o : List Int} (ho : o.length = ts.length) {i : Nat} (hi : i < ts.length) : headsTask ts o i = o.set i (hv ts o i) :=
  relax_fold ts i _ o _ (by omega) fun n hn => not_self ha hi hn
theorem raiseH_eq {ts : List Task} (ha : AcyOk ts) {o : List Int} (ho : o.length = ts.length) {i : Nat} (hi : i < ts.length) : raiseH ts o i = o.set i (max (o.getD i 0) (hv ts o i)) := by
  unfold raiseH hv
  rw [relax_fold ts i _ o _ (by omega) fun n hn => not_self ha hi hn, maxF_max]
theorem hv_congr {ts : List Task} {o o2 : List Int} {i : Nat} (h : ∀ n ∈ (ts.getD i default).after, o.getD n.toNat 0 = o2.getD n.toNat 0) : hv ts o i = hv ts o2 i :=
  maxF_congr fun n hn => by unfold lenAt; rw [h n hn]
theorem hv_mono {ts : List Task} {o o2 : List Int} {i : Nat} (h : ∀ n ∈ (ts.getD i default).after, o.getD n.toNat 0 ≤ o2.getD n.toNat 0) : hv ts o i ≤ hv ts o2 i :=
  (maxF_le _ _ _).2 ⟨maxF_ge.1, fun n hn => by
    have h1 := (maxF_ge (f := lenAt ts o2) (a := (ts.getD i default).release)).2 n hn
    have h2 := h n hn
    unfold lenAt at h1 ⊢
    show _ ≤ maxF _ _ _
    unfold lenAt
    omega⟩

/-- Along the order each head is at once what it stays. -/
theorem heads_chain {ts : List Task} (ha : AcyOk ts) : ∀ (l : List Nat) (d : Nat) (o : List Int), TopoFrom ts d l → o.length = ts.length → (∀ i, i < ts.length → d.testBit i = true → hv ts o i = o.getD i 0 ∧ ∀ n ∈ (ts.getD i default).after, d.testBit n.toNat = true) →
    (l.foldl (headsTask ts) o).length = ts.length ∧ ∀ i, i < ts.length → (doneV d l).testBit i = true → hv ts (l.foldl (headsTask ts) o) i = (l.foldl (headsTask ts) o).getD i 0
  | [], d, o, _, hl, h => ⟨hl, fun i hi hb => (h i hi hb).1⟩
  | x :: l, d, o, ht, hl, h => by
    obtain ⟨hx, hr, ht2⟩ := ht
    obtain ⟨hr1, hr2⟩ := readyB_iff.1 hr
    rw [List.foldl_cons, doneV]
    have e := headsTask_eq ha hl hx
    have hpre : ∀ n ∈ (ts.getD x default).after, d.testBit n.toNat = true := fun n hn => by
      obtain ⟨h1, h2⟩ := after_nat ha.1 hx hn
      exact hr2 _ ((needs_closed ha.1 hx).1 n.toNat (by rw [h2]; exact hn))
    refine heads_chain ha l (d ||| 2 ^ x) _ ht2 (by rw [e]; simpa using hl) fun i hi hb => ?_
    rw [Nat.testBit_or, Bool.or_eq_true, Nat.testBit_two_pow, decide_eq_true_eq] at hb
    have keep : (∀ n ∈ (ts.getD i default).after, d.testBit n.toNat = true) → hv ts (headsTask ts o x) i = hv ts o i := fun hp => hv_congr fun n hn => by
      rw [e, set_at, if_neg]
      rintro ⟨e2, _⟩
      have := hp n hn
      rw [← e2, hr1] at this
      cases this
    have more : (∀ n ∈ (ts.getD i default).after, d.testBit n.toNat = true) → ∀ n ∈ (ts.getD i default).after, (d ||| 2 ^ x).testBit n.toNat = true := fun hp n hn => by rw [Nat.testBit_or, hp n hn]; rfl
    by_cases hix : x = i
    · subst hix
      exact ⟨by rw [keep hpre, e, set_at, if_pos ⟨rfl, by omega⟩], more hpre⟩
    · rcases hb with hb | hb
      · obtain ⟨h1, h2⟩ := h i hi hb
        exact ⟨by rw [keep h2, e, set_at, if_neg (fun h => hix h.1)]; exact h1, more h2⟩
      · exact absurd hb hix
theorem heads_len {ts : List Task} (ha : AcyOk ts) : (headsV ts).length = ts.length := (heads_chain ha (orderV ts) 0 _ (order_topo ha).1 (by simp) (fun i _ h => by simp at h)).1
theorem heads_fix {ts : List Task} (ha : AcyOk ts) {i : Nat} (hi : i < ts.length) : hv ts (headsV ts) i = (headsV ts).getD i 0 :=
  (heads_chain ha (orderV ts) 0 _ (order_topo ha).1 (by simp) (fun i _ h => by simp at h)).2 i hi (by rw [(order_topo ha).2, Nat.testBit_two_pow_sub_one]; simpa using hi)

/-! Raising: what a list of raises keeps; as many rounds as there are tasks are enough. -/
theorem iter_succ (g : List Int → List Int) : ∀ (k : Nat) (o : List Int), iterF g (k + 1) o = g (iterF g k o)
  | 0, _ => rfl
  | k + 1, o => iter_succ g k (g o)
theorem fold_keep {f : List Int → Nat → List Int} {P : List Int → Prop} {N : Nat} (h : ∀ o i, i < N → P o → P (f o i)) : ∀ (l : List Nat), (∀ i ∈ l, i < N) → ∀ o, P o → P (l.foldl f o)
  | [], _, _, h0 => h0
  | i :: l, hl, o, h0 => fold_keep h l (fun j hj => hl j (by simp [hj])) _ (h o i (hl i (by simp)) h0)
theorem iter_keep {g : List Int → List Int} {P : List Int → Prop} (h : ∀ o, P o → P (g o)) : ∀ (k : Nat) (o : List Int), P o → P (iterF g k o)
  | 0, _, h0 => h0
  | k + 1, o, h0 => iter_keep h k (g o) (h o h0)
def LeqV (o o2 : List Int) : Prop := ∀ x, o.getD x 0 ≤ o2.getD x 0
theorem fold_mono {f : List Int → Nat → List Int} {P : List Int → Prop} {N : Nat} (h : ∀ o i, i < N → P o → P (f o i) ∧ LeqV o (f o i)) : ∀ (l : List Nat), (∀ i ∈ l, i < N) → ∀ o, P o → LeqV o (l.foldl f o)
  | [], _, _, _ => fun _ => Int.le_refl _
  | i :: l, hl, o, h0 => fun x => by
    obtain ⟨h1, h2⟩ := h o i (hl i (by simp)) h0
    exact Int.le_trans (h2 x) (fold_mono h l (fun j hj => hl j (by simp [hj])) _ h1 x)
/-- In a round, the turn of a task: before it all has only grown, and behind it too. -/
theorem round_turn {f : List Int → Nat → List Int} {P : List Int → Prop} {N : Nat} (h : ∀ o i, i < N → P o → P (f o i) ∧ LeqV o (f o i)) {o : List Int} (h0 : P o) {i : Nat} (hi : i < N) :
    ∃ o1, P o1 ∧ LeqV o o1 ∧ LeqV (f o1 i) (roundF f N o) := by
  have hs : List.range N = (List.range N).take i ++ i :: (List.range N).drop (i + 1) := by
    conv => lhs; rw [← List.take_append_drop i (List.range N), range_drop hi]
  have hm : ∀ j ∈ List.range N, j < N := fun j hj => List.mem_range.1 hj
  have hm1 : ∀ j ∈ (List.range N).take i, j < N := fun j hj => hm j (List.mem_of_mem_take hj)
  have hm2 : ∀ j ∈ (List.range N).drop (i + 1), j < N := fun j hj => hm j (List.mem_of_mem_drop hj)
  refine ⟨((List.range N).take i).foldl f o, fold_keep (fun o i hi ho => (h o i hi ho).1) _ hm1 o h0, fold_mono h _ hm1 o h0, ?_⟩
  unfold roundF
  conv => rhs; rw [hs, List.foldl_append, List.foldl_cons]
  exact fold_mono h _ hm2 _ (h _ i hi (fold_keep (fun o i hi ho => (h o i hi ho).1) _ hm1 o h0)).1
theorem settle {G : List Int → List Int} {P : List Int → Prop} {V : Nat → Int} {M : List Nat} (hP : ∀ o, P o → P (G o)) (hm : ∀ o, P o → LeqV o (G o)) (hs : ∀ o pre x post, P o → M = pre ++ x :: post → (∀ k ∈ pre, V k ≤ o.getD k 0) → V x ≤ (G o).getD x 0) {o : List Int} (h0 : P o) :
    ∀ r, ∀ x ∈ M.take r, V x ≤ (iterF G r o).getD x 0
  | 0, x, hx => by simp at hx
  | r + 1, x, hx => by
    have hPr := iter_keep hP r o h0
    rw [iter_succ]
    have ih := settle hP hm hs h0 r
    by_cases hr : r < M.length
    · rw [List.take_succ_eq_append_getElem hr, List.mem_append, List.mem_singleton] at hx
      rcases hx with hx | hx
      · exact Int.le_trans (ih x hx) (hm _ hPr x)
      · refine hs _ (M.take r) x (M.drop (r + 1)) hPr ?_ ih
        rw [hx, ← List.drop_eq_getElem_cons hr, List.take_append_drop]
    · rw [List.take_of_length_le (by omega)] at hx
      exact Int.le_trans (ih x (by rw [List.take_of_length_le (by omega)]; exact hx)) (hm _ hPr x)

def OutNN (ts : List Task) (o : List Int) : Prop := o.length = ts.length ∧ ∀ x, 0 ≤ o.getD x 0
theorem nn_zero (ts : List Task) : OutNN ts (List.replicate ts.length 0) := ⟨by simp, fun x => ((out_zero ts).2 x).1⟩
theorem ext_of {ts : List Task} {o o2 : List Int} (h1 : o.length = ts.length) (h2 : o2.length = ts.length) (h : ∀ x, x < ts.length → o.getD x 0 = o2.getD x 0) : o = o2 := by
  apply List.ext_getElem (by omega)
  intro i hi1 hi2
  have := h i (by omega)
  simpa [List.getD, hi1, hi2] using this

theorem raiseH_step {ts : List Task} (ha : AcyOk ts) (o : List Int) (i : Nat) (hi : i < ts.length) (ho : o.length = ts.length) : (raiseH ts o i).length = ts.length ∧ LeqV o (raiseH ts o i) := by
  rw [raiseH_eq ha ho hi]
  refine ⟨by simpa using ho, fun x => ?_⟩
  rw [set_at]
  split
  · rename_i h; rw [h.1]; omega
  · exact Int.le_refl _
theorem heads_same {ts : List Task} (ha : AcyOk ts) (hl : LenOk ts) : refHeadsV ts = headsV ts := by
  have hstep := raiseH_step ha
  have hround : ∀ o : List Int, o.length = ts.length → (roundF (raiseH ts) ts.length o).length = ts.length := fun o ho => fold_keep (P := fun o => o.length = ts.length) (fun o i hi ho => (hstep o i hi ho).1) _ (fun j hj => List.mem_range.1 hj) o ho
  have hlen : (refHeadsV ts).length = ts.length := iter_keep (P := fun o => o.length = ts.length) hround _ _ (by simp)
  -- no more than the heads
  have hnn : ∀ x, 0 ≤ (headsV ts).getD x 0 := fun x => by
    by_cases hx : x < ts.length
    · rw [← heads_fix ha hx]
      exact Int.le_trans (hl x hx).2.2.1 maxF_ge.1
    · rw [List.getD_eq_getElem?_getD, List.getElem?_eq_none (by rw [heads_len ha]; omega)]; exact Int.le_refl _
  have hup : (refHeadsV ts).length = ts.length ∧ LeqV (refHeadsV ts) (headsV ts) := by
    refine iter_keep (P := fun o => o.length = ts.length ∧ LeqV o (headsV ts)) (fun o ho => fold_keep (P := fun o => o.length = ts.length ∧ LeqV o (headsV ts)) (fun o i hi ho => ?_) _ (fun j hj => List.mem_range.1 hj) o ho) _ _ ⟨by simp, fun x => ?_⟩
    · refine ⟨(hstep o i hi ho.1).1, fun x => ?_⟩
      rw [raiseH_eq ha ho.1 hi, set_at]
      split
      · rename_i h
        have h1 : hv ts o i ≤ hv ts (headsV ts) i := hv_mono fun n _ => ho.2 _
        rw [heads_fix ha hi] at h1
        have h2 := ho.2 i
        rw [← h.1]
        omega
      · exact ho.2 x
    · have h0 : (List.replicate ts.length (0 : Int)).getD x 0 = 0 := by have := (out_zero ts).2 x; omega
      rw [h0]; exact hnn x
  -- no less
  have hdown := settle (G := roundF (raiseH ts) ts.length) (P := fun o => o.length = ts.length) (V := fun x => (headsV ts).getD x 0) (M := orderV ts) hround
    (fun o ho => fold_mono (P := fun o => o.length = ts.length) (fun o i hi ho => hstep o i hi ho) _ (fun j hj => List.mem_range.1 hj) o ho)
    (fun o pre x post ho hM hpre => by
      have hx : x < ts.length := order_mem (by rw [hM]; simp)
      obtain ⟨o1, h1, h2, h3⟩ := round_turn (P := fun o => o.length = ts.length) (f := raiseH ts) (N := ts.length) (fun o i hi ho => hstep o i hi ho) ho hx
      have h4 := h3 x
      rw [raiseH_eq ha h1 hx, set_at, if_pos ⟨rfl, by omega⟩] at h4
      have h5 : hv ts (headsV ts) x ≤ hv ts o1 x := hv_mono fun n hn => Int.le_trans (hpre n.toNat (order_before ha hM n hn)) (h2 n.toNat)
      rw [heads_fix ha hx] at h5
      omega) (o := List.replicate ts.length 0) (by simp) (ts.length + 1)
  refine ext_of hlen (heads_len ha) fun x hx => Int.le_antisymm (hup.2 x) (hdown x ?_)
  rw [List.take_of_length_le (by have := order_len ts; omega)]
  exact order_all ha hx

/-! Tails. -/
theorem relaxT_fold (ts : List Task) (i : Nat) : ∀ (bs o : List Int), (∀ n ∈ bs, 0 ≤ n ∧ n.toNat ≠ i ∧ n.toNat < o.length) →
    (bs.foldl (relaxT ts i) o).length = o.length ∧ ∀ (x : Nat), (∀ U, (bs.foldl (relaxT ts i) o).getD x 0 ≤ U ↔ o.getD x 0 ≤ U ∧ ((x : Int) ∈ bs → (ts.getD i default).length + o.getD i 0 ≤ U))
  | [], o, _ => ⟨rfl, fun x U => by simp⟩
  | n :: bs, o, h => by
    obtain ⟨h0, hne, hlt⟩ := h n (by simp)
    have e : relaxT ts i o n = o.set n.toNat (max (o.getD n.toNat 0) ((ts.getD i default).length + o.getD i 0)) := rfl
    have hi : (relaxT ts i o n).getD i 0 = o.getD i 0 := by rw [e, set_at, if_neg (fun h => hne h.1)]
    obtain ⟨h1, h2⟩ := relaxT_fold ts i bs (relaxT ts i o n) (fun k hk => by rw [e, List.length_set]; exact h k (by simp [hk]))
    rw [List.foldl_cons]
    refine ⟨by rw [h1, e, List.length_set], fun x U => ?_⟩
    rw [h2 x U, hi, e, set_at]
    by_cases hx : n.toNat = x
    · have hxn : (x : Int) = n := by omega
      rw [if_pos ⟨hx, hlt⟩, hx, hxn]
      simp only [List.mem_cons, true_or, true_implies]
      constructor
      · rintro ⟨h3, h4⟩
        exact ⟨by omega, by omega⟩
      · rintro ⟨h3, h4⟩
        exact ⟨by omega, fun _ => h4⟩
    · have hxn : ¬ (x : Int) = n := by omega
      rw [if_neg (fun h => hx h.1)]
      simp only [List.mem_cons, hxn, false_or]
theorem tailsTask_le {ts : List Task} (ha : AcyOk ts) {o : List Int} (ho : o.length = ts.length) {i : Nat} (hi : i < ts.length) :
    (tailsTask ts o i).length = ts.length ∧ ∀ (x : Nat), (∀ U, (tailsTask ts o i).getD x 0 ≤ U ↔ o.getD x 0 ≤ U ∧ ((x : Int) ∈ (ts.getD i default).after → (ts.getD i default).length + o.getD i 0 ≤ U)) := by
  have h := relaxT_fold ts i (ts.getD i default).after o (fun n hn => by
    have h1 := after_in ha.1 hi n hn
    have h2 := not_self ha hi hn
    exact ⟨h1.1, h2, by omega⟩)
  rw [ho] at h
  exact h
theorem tails_up {ts : List Task} (ha : AcyOk ts) {o : List Int} (ho : o.length = ts.length) {i : Nat} (hi : i < ts.length) : LeqV o (tailsTask ts o i) := fun x => (((tailsTask_le ha ho hi).2 x _).1 (Int.le_refl _)).1
theorem tails_push {ts : List Task} (ha : AcyOk ts) {o : List Int} (ho : o.length = ts.length) {i : Nat} (hi : i < ts.length) {x : Nat} (hx : (x : Int) ∈ (ts.getD i default).after) : (ts.getD i default).length + o.getD i 0 ≤ (tailsTask ts o i).getD x 0 := (((tailsTask_le ha ho hi).2 x _).1 (Int.le_refl _)).2 hx
theorem tails_keep {ts : List Task} (ha : AcyOk ts) {o : List Int} (ho : o.length = ts.length) {i : Nat} (hi : i < ts.length) {x : Nat} (hx : ¬ (x : Int) ∈ (ts.getD i default).after) : (tailsTask ts o i).getD x 0 = o.getD x 0 :=
  Int.le_antisymm (((tailsTask_le ha ho hi).2 x _).2 ⟨Int.le_refl _, fun h => absurd h hx⟩) (tails_up ha ho hi x)

/-- Against the order: what follows on a task stands before it. -/
theorem rev_split {ts : List Task} {pre post : List Nat} {x : Nat} (h : (orderV ts).reverse = pre ++ x :: post) : orderV ts = post.reverse ++ x :: pre.reverse := by
  have := congrArg List.reverse h
  simpa using this
theorem order_twice {ts : List Task} {a b : List Nat} {x y : Nat} (h : orderV ts = a ++ x :: b) (h1 : y ∈ a) (h2 : y ∈ x :: b) : False := by
  have hn := order_nodup ts
  rw [h] at hn
  exact (List.nodup_append.1 hn).2.2 y h1 y h2 rfl
theorem rev_after {ts : List Task} (ha : AcyOk ts) {pre post : List Nat} {x : Nat} (h : (orderV ts).reverse = pre ++ x :: post) {k : Nat} (hk : k < ts.length) (hx : (x : Int) ∈ (ts.getD k default).after) : k ∈ pre := by
  have hM := rev_split h
  have hkm : k ∈ orderV ts := order_all ha hk
  rw [hM, List.mem_append, List.mem_cons] at hkm
  rcases hkm with hkm | rfl | hkm
  · obtain ⟨p1, p2, hp⟩ := List.append_of_mem hkm
    have hO : orderV ts = p1 ++ k :: (p2 ++ x :: pre.reverse) := by rw [hM, hp]; simp
    have h1 := order_before ha hO _ hx
    rw [Int.toNat_natCast] at h1
    exact (order_twice hO h1 (by simp)).elim
  · exact absurd rfl (not_self ha hk hx)
  · simpa using hkm
theorem rev_before {ts : List Task} (ha : AcyOk ts) {pre post : List Nat} {x : Nat} (h : (orderV ts).reverse = pre ++ x :: post) {i : Nat} (hi : i ∈ pre) : ¬ (i : Int) ∈ (ts.getD x default).after := fun hx => by
  have hM := rev_split h
  have h1 := order_before ha hM _ hx
  rw [Int.toNat_natCast] at h1
  exact order_twice hM h1 (by simp [hi])

theorem tails_run {ts : List Task} (ha : AcyOk ts) : ∀ (post pre : List Nat) (o : List Int), (orderV ts).reverse = pre ++ post → o.length = ts.length → (∀ i ∈ pre, ∀ x : Nat, (x : Int) ∈ (ts.getD i default).after → (ts.getD i default).length + o.getD i 0 ≤ o.getD x 0) →
    (∀ x : Nat, x < ts.length → o.getD x 0 ≤ 0 ∨ ∃ k, k < ts.length ∧ (x : Int) ∈ (ts.getD k default).after ∧ o.getD x 0 ≤ (ts.getD k default).length + o.getD k 0) → (∀ x, 0 ≤ o.getD x 0) →
    (post.foldl (tailsTask ts) o).length = ts.length ∧ (∀ i, i < ts.length → ∀ x : Nat, (x : Int) ∈ (ts.getD i default).after → (ts.getD i default).length + (post.foldl (tailsTask ts) o).getD i 0 ≤ (post.foldl (tailsTask ts) o).getD x 0) ∧
    (∀ x : Nat, x < ts.length → (post.foldl (tailsTask ts) o).getD x 0 ≤ 0 ∨ ∃ k, k < ts.length ∧ (x : Int) ∈ (ts.getD k default).after ∧ (post.foldl (tailsTask ts) o).getD x 0 ≤ (ts.getD k default).length + (post.foldl (tailsTask ts) o).getD k 0) ∧ (∀ x, 0 ≤ (post.foldl (tailsTask ts) o).getD x 0)
  | [], pre, o, hM, ho, h1, h2, h3 => ⟨ho, fun i hi => h1 i (by
      have := order_all ha hi
      rw [← List.mem_reverse, hM] at this
      simpa using this), h2, h3⟩
  | k :: post, pre, o, hM, ho, h1, h2, h3 => by
    have hk : k < ts.length := order_mem (ts := ts) (by rw [← List.mem_reverse, hM]; simp)
    have hup := tails_up ha ho hk
    refine tails_run ha post (pre ++ [k]) (tailsTask ts o k) (by rw [hM]; simp) (tailsTask_le ha ho hk).1 (fun i hi x hx => ?_) (fun x hx => ?_) (fun x => Int.le_trans (h3 x) (hup x))
    · rw [List.mem_append, List.mem_singleton] at hi
      rcases hi with hi | rfl
      · have e := tails_keep ha ho hk (rev_before ha hM hi)
        rw [e]
        exact Int.le_trans (h1 i hi x hx) (hup x)
      · have e : (tailsTask ts o i).getD i 0 = o.getD i 0 := tails_keep ha ho hk (fun h => absurd (not_self ha hk h) (by simp))
        rw [e]
        exact tails_push ha ho hk hx
    · by_cases hb : (x : Int) ∈ (ts.getD k default).after
      · by_cases hc : o.getD x 0 ≤ (ts.getD k default).length + o.getD k 0
        · refine .inr ⟨k, hk, hb, ((tailsTask_le ha ho hk).2 x _).2 ⟨Int.le_trans hc ?_, fun _ => ?_⟩⟩
          · have := hup k; omega
          · have := hup k; omega
        · have e : (tailsTask ts o k).getD x 0 ≤ o.getD x 0 := ((tailsTask_le ha ho hk).2 x _).2 ⟨Int.le_refl _, fun _ => by omega⟩
          rcases h2 x hx with h4 | ⟨q, hq, hq2, hq3⟩
          · exact .inl (by omega)
          · exact .inr ⟨q, hq, hq2, by have := hup q; omega⟩
      · rw [tails_keep ha ho hk hb]
        rcases h2 x hx with h4 | ⟨q, hq, hq2, hq3⟩
        · exact .inl h4
        · exact .inr ⟨q, hq, hq2, by have := hup q; omega⟩
theorem tails_facts {ts : List Task} (ha : AcyOk ts) : (tailsV ts).length = ts.length ∧ (∀ i, i < ts.length → ∀ x : Nat, (x : Int) ∈ (ts.getD i default).after → (ts.getD i default).length + (tailsV ts).getD i 0 ≤ (tailsV ts).getD x 0) ∧
    (∀ x : Nat, x < ts.length → (tailsV ts).getD x 0 ≤ 0 ∨ ∃ k, k < ts.length ∧ (x : Int) ∈ (ts.getD k default).after ∧ (tailsV ts).getD x 0 ≤ (ts.getD k default).length + (tailsV ts).getD k 0) ∧ (∀ x, 0 ≤ (tailsV ts).getD x 0) :=
  tails_run ha (orderV ts).reverse [] _ rfl (by simp) (fun i hi => by cases hi) (fun x _ => .inl ((out_zero ts).2 x).2) (fun x => ((out_zero ts).2 x).1)

theorem tails_same {ts : List Task} (ha : AcyOk ts) : refTailsV ts = tailsV ts := by
  obtain ⟨t1, t2, t3, t4⟩ := tails_facts ha
  have hstep : ∀ (o : List Int) (i : Nat), i < ts.length → OutNN ts o → OutNN ts (tailsTask ts o i) ∧ LeqV o (tailsTask ts o i) := fun o i hi ho => ⟨⟨(tailsTask_le ha ho.1 hi).1, fun x => Int.le_trans (ho.2 x) (tails_up ha ho.1 hi x)⟩, tails_up ha ho.1 hi⟩
  have hround : ∀ o : List Int, OutNN ts o → OutNN ts (roundF (tailsTask ts) ts.length o) := fun o ho => fold_keep (P := OutNN ts) (fun o i hi ho => (hstep o i hi ho).1) _ (fun j hj => List.mem_range.1 hj) o ho
  have hlen : OutNN ts (refTailsV ts) := iter_keep (P := OutNN ts) hround _ _ (nn_zero ts)
  have hup : (refTailsV ts).length = ts.length ∧ LeqV (refTailsV ts) (tailsV ts) := by
    refine iter_keep (P := fun o => o.length = ts.length ∧ LeqV o (tailsV ts)) (fun o ho => fold_keep (P := fun o => o.length = ts.length ∧ LeqV o (tailsV ts)) (fun o i hi ho => ?_) _ (fun j hj => List.mem_range.1 hj) o ho) _ _ ⟨by simp, fun x => ?_⟩
    · refine ⟨(tailsTask_le ha ho.1 hi).1, fun x => ((tailsTask_le ha ho.1 hi).2 x _).2 ⟨ho.2 x, fun hx => ?_⟩⟩
      have h1 := t2 i hi x hx
      have h2 := ho.2 i
      omega
    · have h0 : (List.replicate ts.length (0 : Int)).getD x 0 = 0 := by have := (out_zero ts).2 x; omega
      rw [h0]; exact t4 x
  have hdown := settle (G := roundF (tailsTask ts) ts.length) (P := OutNN ts) (V := fun x => (tailsV ts).getD x 0) (M := (orderV ts).reverse) hround
    (fun o ho => fold_mono (P := OutNN ts) (fun o i hi ho => hstep o i hi ho) _ (fun j hj => List.mem_range.1 hj) o ho)
    (fun o pre x post ho hM hpre => by
      have hx : x < ts.length := order_mem (ts := ts) (by rw [← List.mem_reverse, hM]; simp)
      rcases t3 x hx with h | ⟨k, hk, hk2, hk3⟩
      · have h1 := (hround o ho).2 x
        omega
      · have hkp := rev_after ha hM hk hk2
        obtain ⟨o1, h1, h2, h3⟩ := round_turn (P := OutNN ts) (f := tailsTask ts) (N := ts.length) (fun o i hi ho => hstep o i hi ho) ho hk
        have h4 := h3 x
        have h5 := tails_push ha h1.1 hk hk2
        have h6 := hpre k hkp
        have h7 := h2 k
        omega) (o := List.replicate ts.length 0) (nn_zero ts) (ts.length + 1)
  refine ext_of hlen.1 t1 fun x hx => Int.le_antisymm (hup.2 x) (hdown x ?_)
  rw [List.take_of_length_le (by have := order_len ts; simp; omega), List.mem_reverse]
  exact order_all ha hx

end Go.Proofs.YtbojmcopagbheaaGreatDoor
end
