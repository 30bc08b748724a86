/- Plain facts: nothing ends earlier than the best schedule: bounds, tasks alone on a machine, one task less. -/
import Derived.Test.YtlgioldmjohhlaaV0BoundLaw
namespace Go.Proofs.Ytlgioldmjohhlaa
open Go.RowKit

theorem pathR_le {ts : List Task} {hs tl : List Int} {U : Int} : ∀ (k i : Nat) (o : Int), pathR ts hs tl k i o ≤ U ↔ o ≤ U ∧ ∀ j, i ≤ j → j < i + k → hs.getD j 0 + (ts.getD j default).length + tl.getD j 0 ≤ U
  | 0, i, o => by
    simp only [pathR]
    exact ⟨fun h => ⟨h, fun j h1 h2 => by omega⟩, fun h => h.1⟩
  | k + 1, i, o => by
    rw [pathR, pathR_le k (i + 1)]
    constructor
    · rintro ⟨h1, h3⟩
      refine ⟨by omega, fun j h4 h5 => ?_⟩
      by_cases e : j = i
      · subst e; omega
      · exact h3 j (by omega) (by omega)
    · rintro ⟨h1, h2⟩
      have := h2 i (Nat.le_refl _) (by omega)
      exact ⟨by omega, fun j h4 h5 => h2 j (by omega) (by omega)⟩
theorem path_le {ts : List Task} (ha : AcyOk ts) (hl : LenOk ts) (hp : PosOk ts) {s : List Int} (h : Feas ts s) : pathV ts ≤ lastV ts s := by
  refine (pathR_le _ _ _).2 ⟨lastV_nn, fun j _ hj => ?_⟩
  have hj' : j < ts.length := by omega
  have h1 := feas_heads ha hl hp h hj'
  have h2 := feas_tails ha hp h hj'
  unfold endAt at h2
  omega

def sumL (ts : List Task) : List Int → Int
  | [] => 0
  | x :: l => (ts.getD x.toNat default).length + sumL ts l
def minL (f : Int → Int) : List Int → Int → Int
  | [], a => a
  | x :: l, a => minL f l (min a (f x))
theorem minL_le {f : Int → Int} : ∀ (l : List Int) (a : Int), minL f l a ≤ a ∧ ∀ x ∈ l, minL f l a ≤ f x
  | [], a => ⟨Int.le_refl _, fun x hx => by cases hx⟩
  | y :: l, a => by
    obtain ⟨h1, h2⟩ := minL_le (f := f) l (min a (f y))
    rw [minL]
    refine ⟨by omega, fun x hx => ?_⟩
    rcases List.mem_cons.1 hx with rfl | hx
    · omega
    · exact h2 x hx
theorem busyR_eq {ts : List Task} {hs tl : List Int} : ∀ (l : List Int) (h t s : Int), busyR ts hs tl l h t s = minL (fun x => hs.getD x.toNat 0) l h + (s + sumL ts l) + minL (fun x => tl.getD x.toNat 0) l t
  | [], h, t, s => by simp [busyR, minL, sumL]
  | x :: l, h, t, s => by
    rw [busyR, busyR_eq l, minL, minL, sumL]
    omega
theorem sumL_filter {ts : List Task} {k : Int} : ∀ l : List Int, Asc l → k ∈ l → sumL ts l = (ts.getD k.toNat default).length + sumL ts (l.filter fun x => decide (x ≠ k))
  | [], _, h => by cases h
  | x :: l, ha, h => by
    have ha' := List.pairwise_cons.1 ha
    rcases List.mem_cons.1 h with rfl | h
    · have : (k :: l).filter (fun x => decide (x ≠ k)) = l := by
        rw [List.filter_cons, if_neg (by simp), List.filter_eq_self]
        intro y hy
        have := ha'.1 y hy
        simp
        omega
      rw [this, sumL]
    · have hne : x ≠ k := fun e => by have := ha'.1 k h; omega
      rw [List.filter_cons, if_pos (by simpa using hne), sumL, sumL, sumL_filter l ha'.2 h]
      omega
theorem arg_max {g : Int → Int} : ∀ l : List Int, l ≠ [] → ∃ k ∈ l, ∀ x ∈ l, g x ≤ g k
  | [], h => absurd rfl h
  | x :: l, _ => by
    by_cases hl : l = []
    · subst hl
      exact ⟨x, by simp, fun y hy => by simp at hy; subst hy; exact Int.le_refl _⟩
    · obtain ⟨k, hk, hmax⟩ := arg_max (g := g) l hl
      by_cases h : g x ≤ g k
      · exact ⟨k, by simp [hk], fun y hy => by
          rcases List.mem_cons.1 hy with rfl | hy
          · exact h
          · exact hmax y hy⟩
      · exact ⟨x, by simp, fun y hy => by
          rcases List.mem_cons.1 hy with rfl | hy
          · exact Int.le_refl _
          · have := hmax y hy; omega⟩

/-- Tasks of one machine cannot all end before the sum of their lengths has passed. -/
theorem pack {ts : List Task} (hp : PosOk ts) {s : List Int} (hf : Feas ts s) {h mq : Int} : ∀ (n : Nat) (l : List Int), l.length = n → l ≠ [] → Asc l → InR ts.length l → (∀ x ∈ l, (ts.getD x.toNat default).machine = mq) → (∀ x ∈ l, h ≤ s.getD x.toNat 0) → ∃ j ∈ l, h + sumL ts l ≤ endAt ts s j.toNat
  | 0, l, hn, hne, _, _, _, _ => absurd (List.eq_nil_of_length_eq_zero hn) hne
  | n + 1, l, hn, hne, ha, hr, hm, hh => by
    obtain ⟨k, hk, hmax⟩ := arg_max (g := fun x => s.getD x.toNat 0) l hne
    refine ⟨k, hk, ?_⟩
    have hsum := sumL_filter (ts := ts) l ha hk
    have hsub : ∀ x ∈ l.filter (fun x => decide (x ≠ k)), x ∈ l ∧ x ≠ k := fun x hx => by simpa using List.mem_filter.1 hx
    by_cases he : l.filter (fun x => decide (x ≠ k)) = []
    · rw [he] at hsum
      have := hh k hk
      rw [hsum]
      unfold endAt
      simp only [sumL]
      omega
    · have hlen : (l.filter fun x => decide (x ≠ k)).length < l.length := by
        rcases Nat.lt_or_ge (l.filter fun x => decide (x ≠ k)).length l.length with h | h
        · exact h
        · have h1 := List.length_filter_eq_length_iff.1 (Nat.le_antisymm (List.length_filter_le _ _) h) k hk
          simp at h1
      have hrec : ∀ n' (l' : List Int), n' ≤ n → l'.length = n' → l' ≠ [] → Asc l' → InR ts.length l' → (∀ x ∈ l', (ts.getD x.toNat default).machine = mq) → (∀ x ∈ l', h ≤ s.getD x.toNat 0) → ∃ j ∈ l', h + sumL ts l' ≤ endAt ts s j.toNat := fun n' l' hn' => pack hp hf n' l'
      obtain ⟨j, hj, hle⟩ := hrec _ _ (by omega) rfl he (List.Pairwise.filter _ ha) (fun x hx => hr x (hsub x hx).1) (fun x hx => hm x (hsub x hx).1) (fun x hx => hh x (hsub x hx).1)
      obtain ⟨hj1, hj2⟩ := hsub j hj
      have hjr := hr j hj1
      have hkr := hr k hk
      have hjk := hmax j hj1
      have hmm : (ts.getD j.toNat default).machine = (ts.getD k.toNat default).machine := by rw [hm j hj1, hm k hk]
      have hd : endAt ts s j.toNat ≤ s.getD k.toNat 0 ∨ endAt ts s k.toNat ≤ s.getD j.toNat 0 := by
        rcases Nat.lt_or_ge j.toNat k.toNat with hlt | hge
        · exact hf.mac k.toNat j.toNat (by omega) hlt hmm
        · exact (hf.mac j.toNat k.toNat (by omega) (by omega) hmm.symm).symm
      have hpk := hp k.toNat (by omega)
      rw [hsum]
      unfold endAt at hd hle ⊢
      omega

theorem busy_le {ts : List Task} (ha : AcyOk ts) (hl : LenOk ts) (hp : PosOk ts) {l : List Int} (hE : tasksE ts l = 0) {s : List Int} (hf : Feas ts s) : busyV ts l ≤ lastV ts s := by
  obtain ⟨h1, h2, h3, h4⟩ := tasksE_zero.1 hE
  unfold busyV
  rw [busyR_eq]
  obtain ⟨_, m2⟩ := minL_le (f := fun x => (headsV ts).getD x.toNat 0) l ((headsV ts).getD (l.getD 0 0).toNat 0)
  obtain ⟨_, m4⟩ := minL_le (f := fun x => (tailsV ts).getD x.toNat 0) l ((tailsV ts).getD (l.getD 0 0).toNat 0)
  generalize minL (fun x => (headsV ts).getD x.toNat 0) l ((headsV ts).getD (l.getD 0 0).toNat 0) = h at *
  generalize minL (fun x => (tailsV ts).getD x.toNat 0) l ((tailsV ts).getD (l.getD 0 0).toNat 0) = t at *
  obtain ⟨j, hj, hle⟩ := pack hp hf (h := h) l.length l rfl h1 h2 h3 h4 fun x hx => by
    have := m2 x hx
    have hxr := h3 x hx
    have := feas_heads ha hl hp hf (j := x.toNat) (by omega)
    omega
  have hjr := h3 j hj
  have h5 := feas_tails ha hp hf (j := j.toNat) (by omega)
  have h6 := m4 j hj
  omega

/-! Tasks alone on a machine. -/
def preS (ts : List Task) : Nat → Int
  | 0 => 0
  | k + 1 => preS ts k + (ts.getD k default).length
theorem preS_mono {ts : List Task} (hp : PosOk ts) : ∀ (d i : Nat), i + d ≤ ts.length → preS ts i ≤ preS ts (i + d)
  | 0, i, _ => Int.le_refl _
  | d + 1, i, h => by
    have h1 := preS_mono hp d i (by omega)
    have h2 := hp (i + d) (by omega)
    rw [show i + (d + 1) = i + d + 1 by omega, preS]
    omega
theorem preS_lt {ts : List Task} (hp : PosOk ts) {k i : Nat} (h : k < i) (hi : i ≤ ts.length) : preS ts k + (ts.getD k default).length ≤ preS ts i := by
  have := preS_mono hp (i - (k + 1)) (k + 1) (by omega)
  rw [show k + 1 + (i - (k + 1)) = i by omega, preS] at this
  exact this
theorem sumL_append (ts : List Task) (x : Int) : ∀ l, sumL ts (l ++ [x]) = sumL ts l + (ts.getD x.toNat default).length
  | [] => by simp [sumL]
  | y :: l => by rw [List.cons_append, sumL, sumL, sumL_append ts x l]; omega
theorem sumL_range (ts : List Task) : ∀ k, sumL ts ((List.range k).map fun (i : Nat) => (i : Int)) = preS ts k
  | 0 => rfl
  | k + 1 => by
    rw [List.range_succ, List.map_append, List.map_cons, List.map_nil, sumL_append, sumL_range ts k, preS, Int.toNat_natCast]

def AloneK (ts : List Task) (k : Nat) : Prop := ∀ i, i < k → (ts.getD i default).machine = (ts.getD 0 default).machine ∧ (ts.getD i default).release = 0 ∧ (ts.getD i default).after = []
instance (ts : List Task) (k : Nat) : Decidable (AloneK ts k) := by unfold AloneK; exact inferInstance
theorem alone_sum {ts : List Task} (ha : AcyOk ts) (hl : LenOk ts) (hm : MachOk ts) (hp : PosOk ts) (h0 : 0 < ts.length) (h : AloneK ts ts.length) : (bestV ts).last = preS ts ts.length := by
  obtain ⟨b, _, hb2, hb3, _, hmin, _⟩ := best_min ha hl hm hp
  apply Int.le_antisymm
  · have hg : ∀ i, i < ts.length → ((List.range ts.length).map (preS ts)).getD i 0 = preS ts i := fun i hi => by simp [List.getD, hi]
    have hf : Feas ts ((List.range ts.length).map (preS ts)) := by
      refine ⟨by simp, fun i hi => ?_, fun i hi n hn => ?_, fun i k hi hk _ => .inl ?_⟩
      · rw [hg i hi, (h i hi).2.1]
        have := preS_mono hp i 0 (by omega)
        rw [Nat.zero_add] at this
        exact this
      · rw [(h i hi).2.2] at hn; cases hn
      · unfold endAt
        rw [hg i hi, hg k (by omega)]
        exact preS_lt hp hk (by omega)
    refine Int.le_trans (hmin _ hf) (lastV_le.2 ⟨?_, fun j hj => ?_⟩)
    · have := preS_mono hp ts.length 0 (by omega)
      rw [Nat.zero_add] at this
      exact this
    · have hj' : j < ts.length := by simpa using hj
      unfold endAt
      rw [hg j hj']
      exact preS_lt hp hj' (Nat.le_refl _)
  · have hmem : ∀ x ∈ (List.range ts.length).map (fun (i : Nat) => (i : Int)), ∃ i : Nat, x = (i : Int) ∧ i < ts.length := fun x hx => by
      obtain ⟨i, hi, rfl⟩ := List.mem_map.1 hx
      exact ⟨i, rfl, List.mem_range.1 hi⟩
    obtain ⟨j, hj, hle⟩ := pack hp hb2 (h := 0) (mq := (ts.getD 0 default).machine) _ ((List.range ts.length).map fun (i : Nat) => (i : Int)) rfl
      (fun e => by have := congrArg List.length e; simp at this; rw [this] at h0; simp at h0)
      (List.Pairwise.map _ (R := (· < ·)) (fun a b h => by omega) List.pairwise_lt_range)
      (fun x hx => by obtain ⟨i, rfl, hi⟩ := hmem x hx; omega)
      (fun x hx => by obtain ⟨i, rfl, hi⟩ := hmem x hx; rw [Int.toNat_natCast]; exact (h i hi).1)
      (fun x hx => by obtain ⟨i, rfl, hi⟩ := hmem x hx; rw [Int.toNat_natCast]; exact feas_nn hl hb2 hi)
    obtain ⟨i, rfl, hi⟩ := hmem j hj
    rw [sumL_range, Int.toNat_natCast] at hle
    have := lastV_ge (ts := ts) (xs := b) (j := i) (by rw [hb2.len]; exact hi)
    omega

/-! One task less. -/
theorem getD_take {ts : List Task} {k i : Nat} (h : i < k) : (ts.take k).getD i default = ts.getD i default := by
  simp only [List.getD, List.getElem?_take_of_lt h]
theorem open_parts {m : Int} {ts : List Task} (h : (openV m ts).2 = 0) : openE0 m ts.length = 0 ∧ ∀ i, i < ts.length → openE1 m ts i = 0 := by
  unfold openV at h
  by_cases h0 : openE0 m ts.length = 0
  · rw [if_neg (by simpa using h0)] at h
    by_cases h1 : (scan (openE1 m ts) ts.length 0).2 = 0
    · exact ⟨h0, scan_zero h1⟩
    · rw [if_pos h1] at h; exact absurd h h1
  · rw [if_pos h0] at h; exact absurd h h0
theorem open_of {m : Int} {ts : List Task} (h0 : openE0 m ts.length = 0) (h1 : ∀ i, i < ts.length → openE1 m ts i = 0) (h2 : ∀ i, i < ts.length → (needsV ts i).testBit i = false) : (openV m ts).2 = 0 := by
  unfold openV
  have e1 : scan (openE1 m ts) ts.length 0 = (0, 0) := scan_all _ 0 rfl fun i _ hi => h1 i hi
  have e2 : scan (openE2 ts) ts.length 0 = (0, 0) := scan_all _ 0 rfl fun i _ hi => by unfold openE2; rw [h2 i hi]; rfl
  rw [if_neg (by simpa using h0), if_neg (by rw [e1]; simp), e2]

theorem fewer_ok {m : Int} {ts : List Task} (h : (openV m ts).2 = 0) {k : Nat} (hk : ts.length = k + 1) (hno : ∀ i, i < k → ¬ ((k : Nat) : Int) ∈ (ts.getD i default).after) : (openV m (ts.take k)).2 = 0 := by
  obtain ⟨ha, _⟩ := open_ok h
  obtain ⟨h0, h1⟩ := open_parts h
  have hlen : (ts.take k).length = k := by simp; omega
  have h0' : openE0 m (ts.take k).length = 0 := by
    rw [hlen]
    obtain ⟨q1, q2⟩ := firstV_zero.1 h0
    obtain ⟨q3, _⟩ := firstV_zero.1 q2
    have q4 := (unless_ne (by decide)).1 q3
    rw [decide_eq_true_eq] at q4
    exact firstV_zero.2 ⟨q1, firstV_zero.2 ⟨(unless_ne (by decide)).2 (decide_eq_true (by omega)), rfl⟩⟩
  have haft : ∀ i, i < k → ∀ n ∈ (ts.getD i default).after, 0 ≤ n ∧ n < (k : Int) := fun i hi n hn => by
    have h2 := after_in ha.1 (i := i) (by omega) n hn
    have h3 : n ≠ (k : Int) := fun e => by subst e; exact hno i hi hn
    omega
  have h1' : ∀ i, i < (ts.take k).length → openE1 m (ts.take k) i = 0 := fun i hi => by
    rw [hlen] at hi
    have q := h1 i (by omega)
    unfold openE1 at q ⊢
    rw [getD_take hi, hlen]
    obtain ⟨q1, q2⟩ := firstV_zero.1 q
    obtain ⟨q3, _⟩ := firstV_zero.1 q2
    have q4 := (unless_ne (by decide)).1 q3
    rw [Bool.and_eq_true, decide_eq_true_eq] at q4
    refine firstV_zero.2 ⟨q1, firstV_zero.2 ⟨(unless_ne (by decide)).2 ?_, rfl⟩⟩
    rw [Bool.and_eq_true, decide_eq_true_eq]
    refine ⟨q4.1, ?_⟩
    unfold anyB geB
    rw [Bool.not_eq_true', List.any_eq_false]
    intro n hn
    have := haft i hi n hn
    rw [decide_eq_true_eq]
    omega
  have hp' : PlanOk (ts.take k) := planOk_of h0' (by rw [scan_all _ 0 rfl fun i _ hi => h1' i hi])
  refine open_of h0' h1' fun i hi => ?_
  have hi' : i < k := by rw [hlen] at hi; exact hi
  have hsub : ∀ j, (needsV (ts.take k) i).testBit j = true → (needsV ts i).testBit j = true := by
    refine needs_least hp' hi (fun x => (needsV ts i).testBit x = true) (fun x hx => ?_) fun q hq hbq x hx => ?_
    · rw [getD_take hi'] at hx
      exact (needs_closed ha.1 (by omega)).1 x hx
    · rw [hlen] at hq
      rw [getD_take hq] at hx
      exact (needs_closed ha.1 (by omega)).2 q (by omega) hbq x hx
  cases hb : (needsV (ts.take k) i).testBit i with
  | false => rfl
  | true =>
    have := hsub i hb
    rw [ha.2 i (by omega)] at this
    cases this
theorem fewer_le {m : Int} {ts : List Task} (h : (openV m ts).2 = 0) {k : Nat} (hk : ts.length = k + 1) (hno : ∀ i, i < k → ¬ ((k : Nat) : Int) ∈ (ts.getD i default).after) : (bestV (ts.take k)).last ≤ (bestV ts).last := by
  obtain ⟨ha, hl, hm, _, _, hpos⟩ := open_ok h
  obtain ⟨ha', hl', hm', _, _, hpos'⟩ := open_ok (fewer_ok h hk hno)
  obtain ⟨b, _, hb2, hb3, _⟩ := best_min ha hl hm fun i hi => (hpos i hi).2
  obtain ⟨_, _, _, _, _, hmin, _⟩ := best_min ha' hl' hm' fun i hi => (hpos' i hi).2
  have hlen : (ts.take k).length = k := by simp; omega
  have hg : ∀ i, i < k → (b.take k).getD i 0 = b.getD i 0 := fun i hi => by simp only [List.getD, List.getElem?_take_of_lt hi]
  have hbl := hb2.len
  have hend : ∀ i, i < k → endAt (ts.take k) (b.take k) i = endAt ts b i := fun i hi => by unfold endAt; rw [hg i hi, getD_take hi]
  have hf : Feas (ts.take k) (b.take k) := by
    refine ⟨by simp; omega, fun i hi => ?_, fun i hi n hn => ?_, fun i q hi hq hmm => ?_⟩
    · rw [hlen] at hi
      rw [hg i hi, getD_take hi]
      exact hb2.rel i (by omega)
    · have hi' : i < k := by rw [hlen] at hi; exact hi
      have hn2 := after_in ha'.1 hi n hn
      rw [hlen] at hn2
      rw [getD_take hi'] at hn
      rw [hg i hi', hend _ (by omega)]
      exact hb2.aft i (by omega) n hn
    · have hi' : i < k := by rw [hlen] at hi; exact hi
      rw [getD_take hi', getD_take (by omega)] at hmm
      rw [hg i hi', hg q (by omega), hend i hi', hend q (by omega)]
      exact hb2.mac i q (by omega) hq hmm
  refine Int.le_trans (hmin _ hf) ?_
  rw [← hb3]
  refine lastV_le.2 ⟨lastV_nn, fun j hj => ?_⟩
  have hj' : j < k := by simp at hj; omega
  rw [hend j hj']
  exact lastV_ge (by omega)

end Go.Proofs.Ytlgioldmjohhlaa
