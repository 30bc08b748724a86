/- Plain facts: the specification's search for the minimum end gives the end of the best schedule. -/
import Derived.Test.YtlgioldmjohhlaaS1Min
import Derived.Test.YtlgioldmjohhlaaQBRefSched
namespace Go.Proofs.Ytlgioldmjohhlaa
open Go.RowKit

def addA (ts : List Task) (order ss : List Int) : List Int → Int → Int × Bool
  | [], a => (a, true)
  | n :: l, a => if hasB order n = true then addA ts order ss l (max a (endAt ts ss n.toNat)) else (0, false)
def addM (ts : List Task) (ss : List Int) (m : Int) : List Int → Int → Int
  | [], a => a
  | k :: l, a => addM ts ss m l (if (ts.getD k.toNat default).machine = m then max a (endAt ts ss k.toNat) else a)
/-- The earliest start of a task when those of the order have started; false: one before it has not. -/
def addedV (ts : List Task) (order ss : List Int) (i : Nat) : Int × Bool :=
  if (addA ts order ss (ts.getD i default).after (ts.getD i default).release).2 = true then (addM ts ss (ts.getD i default).machine order (addA ts order ss (ts.getD i default).after (ts.getD i default).release).1, true) else (0, false)
def refStep (ts : List Task) (rec_ : List Int → List Int → Int) (order ss : List Int) (best : Int) (i : Nat) : Int :=
  if hasB order (i : Int) = true then best
  else if (addedV ts order ss i).2 = true then
    if best < 0 ∨ rec_ (order ++ [(i : Int)]) (ss.set i (addedV ts order ss i).1) < best then rec_ (order ++ [(i : Int)]) (ss.set i (addedV ts order ss i).1) else best
  else best
def refEndF (ts : List Task) : Nat → List Int → List Int → Int
  | 0, _, _ => -1
  | f + 1, order, ss => if order.length = ts.length then lastV ts ss else (List.range ts.length).foldl (refStep ts (refEndF ts f) order ss) (-1)
def refUpto (ts : List Task) (f : Nat) (order ss : List Int) (k : Nat) : Int := (List.range k).foldl (refStep ts (refEndF ts f) order ss) (-1)
theorem refUpto_succ (ts : List Task) (f : Nat) (order ss : List Int) (k : Nat) : refUpto ts f order ss (k + 1) = refStep ts (refEndF ts f) order ss (refUpto ts f order ss k) k := by
  unfold refUpto
  rw [List.range_succ, List.foldl_append]
  rfl

theorem addA_true {ts : List Task} {order ss : List Int} : ∀ (l : List Int) (a : Int), (∀ n ∈ l, n ∈ order) → addA ts order ss l a = (startV ts ss a l, true)
  | [], _, _ => rfl
  | n :: l, a, h => by
    rw [addA, if_pos (hasB_iff.2 (h n (by simp))), addA_true l _ fun x hx => h x (by simp [hx]), mx_max]
    rfl
theorem addA_false {ts : List Task} {order ss : List Int} : ∀ (l : List Int) (a : Int), ¬ (∀ n ∈ l, n ∈ order) → (addA ts order ss l a).2 = false
  | [], _, h => absurd (fun n hn => by cases hn) h
  | n :: l, a, h => by
    rw [addA]
    split
    · rename_i hn
      refine addA_false l _ fun hx => h fun x hx2 => ?_
      rcases List.mem_cons.1 hx2 with rfl | hx2
      · exact hasB_iff.1 hn
      · exact hx x hx2
    · rfl
theorem addM_le {ts : List Task} {ss : List Int} {m U : Int} : ∀ (l : List Int) (a : Int), addM ts ss m l a ≤ U ↔ a ≤ U ∧ ∀ k ∈ l, (ts.getD k.toNat default).machine = m → endAt ts ss k.toNat ≤ U
  | [], a => by simp [addM]
  | k :: l, a => by
    rw [addM, addM_le l]
    simp only [List.mem_cons, forall_eq_or_imp]
    by_cases h : (ts.getD k.toNat default).machine = m
    · rw [if_pos h]
      constructor
      · rintro ⟨h1, h2⟩; exact ⟨by omega, fun _ => by omega, h2⟩
      · rintro ⟨h1, h2, h3⟩; have := h2 h; exact ⟨by omega, h3⟩
    · rw [if_neg h]
      constructor
      · rintro ⟨h1, h2⟩; exact ⟨h1, fun h3 => absurd h3 h, h2⟩
      · rintro ⟨h1, h2, h3⟩; exact ⟨h1, h3⟩

/-- The list and the starts of the specification say what the search's bits and free times say. -/
structure RefRel (ts : List Task) (d : Nat) (order ss fr : List Int) : Prop where
  bits : ∀ x : Nat, x < ts.length → ((x : Int) ∈ order ↔ d.testBit x = true)
  rng : ∀ x ∈ order, 0 ≤ x ∧ x.toNat < ts.length
  cnt : order.length + unset ts.length d = ts.length
  nn : ∀ m, m < 4 → 0 ≤ fr.getD m 0
  mach : ∀ m, m < 4 → ∀ U : Int, 0 ≤ U → (fr.getD m 0 ≤ U ↔ ∀ j, j < ts.length → d.testBit j = true → (ts.getD j default).machine.toNat = m → endAt ts ss j ≤ U)

theorem unset_succ {d i : Nat} (hb : d.testBit i = false) : ∀ n, i < n → unset n (d ||| 2 ^ i) + 1 = unset n d
  | 0, h => by omega
  | n + 1, h => by
    have hs : ∀ e : Nat, unset (n + 1) e = unset n e + if e.testBit n = true then 0 else 1 := fun e => by
      unfold unset
      rw [List.range_succ, List.countP_append]
      congr 1
      cases hq : e.testBit n <;> simp [hq]
    rw [hs, hs]
    by_cases e : i = n
    · subst e
      have hsame : unset i (d ||| 2 ^ i) = unset i d := by
        unfold unset
        refine List.countP_congr fun x hx => ?_
        have : i ≠ x := by have := List.mem_range.1 hx; omega
        rw [Nat.testBit_or, Nat.testBit_two_pow]
        simp [this]
      rw [hsame, hb, orb_iff.2 (.inr rfl)]
      simp
    · have := unset_succ hb n (by omega)
      have h2 : (d ||| 2 ^ i).testBit n = d.testBit n := by rw [Nat.testBit_or, Nat.testBit_two_pow]; simp [e]
      rw [h2]
      omega

theorem RefRel.full {ts : List Task} {d : Nat} {order ss fr : List Int} (h : RefRel ts d order ss fr) (hd : d < 2 ^ ts.length) : order.length = ts.length ↔ d = 2 ^ ts.length - 1 := by
  have hc := h.cnt
  constructor
  · intro h1
    refine bit_full hd fun i hi => ?_
    cases hb : d.testBit i with
    | true => rfl
    | false => have := unset_succ hb ts.length hi; omega
  · intro h1
    have : unset ts.length d = 0 := by
      unfold unset
      rw [List.countP_eq_zero]
      intro a ha
      rw [full_bit h1 (List.mem_range.1 ha)]
      simp
    omega

theorem RefRel.step {ts : List Task} (hl : LenOk ts) (hm : MachOk ts) {d i : Nat} {order ss fr : List Int} (hp : Part ts d ss fr) (h : RefRel ts d order ss fr) (hi : i < ts.length) (hr : readyB ts d i = true) :
    RefRel ts (d ||| 2 ^ i) (order ++ [(i : Int)]) (ss.set i (strt ts ss fr i)) (fr.set (ts.getD i default).machine.toNat (strt ts ss fr i + (ts.getD i default).length)) := by
  obtain ⟨g1, g2, g3⟩ := strt_ge (ts := ts) (ss := ss) (fr := fr) (i := i)
  have hself := ready_self hr
  have hne : ∀ j, d.testBit j = true → i ≠ j := fun j hj e => by rw [e, hj] at hself; cases hself
  have hb : ∀ j, (d ||| 2 ^ i).testBit j = true → d.testBit j = true ∨ j = i := fun j hj => (orb_iff.1 hj).imp id Eq.symm
  have hli := hl i hi
  have hlen := hp.len
  have hmi := hm i hi
  have h4 := hp.len4
  have e0 := getD_set_eq (ss := ss) (i := i) (strt ts ss fr i) (by omega)
  have e1 : endAt ts (ss.set i (strt ts ss fr i)) i = strt ts ss fr i + (ts.getD i default).length := by unfold endAt; rw [e0]
  refine ⟨fun x hx => ?_, fun x hx => ?_, ?_, fun m hm4 => ?_, fun m hm4 U hU => ?_⟩
  · rw [List.mem_append, List.mem_singleton, orb_iff, h.bits x hx]
    constructor
    · rintro (h1 | h1)
      · exact .inl h1
      · exact .inr (by omega)
    · rintro (h1 | h1)
      · exact .inl h1
      · exact .inr (by omega)
  · rcases List.mem_append.1 hx with hx | hx
    · exact h.rng x hx
    · rw [List.mem_singleton] at hx
      subst hx
      exact ⟨by omega, by simpa using hi⟩
  · have := h.cnt
    have := unset_succ hself ts.length hi
    simp
    omega
  · rw [getD_set]
    split
    · omega
    · exact h.nn m hm4
  · rw [getD_set]
    by_cases e : (ts.getD i default).machine.toNat = m
    · rw [if_pos ⟨e, by omega⟩]
      constructor
      · intro hle j hj hdj hmj
        rcases hb j hdj with hdj | rfl
        · rw [endAt_set _ (hne j hdj)]
          have h5 := (h.mach m hm4 (fr.getD m 0) (h.nn m hm4)).1 (Int.le_refl _) j hj hdj hmj
          rw [e] at g2
          omega
        · rw [e1]; exact hle
      · intro hall
        have := hall i hi (orb_iff.2 (.inr rfl)) e
        rw [e1] at this
        exact this
    · rw [if_neg (fun h => e h.1), h.mach m hm4 U hU]
      constructor
      · intro hall j hj hdj hmj
        rcases hb j hdj with hdj | rfl
        · rw [endAt_set _ (hne j hdj)]; exact hall j hj hdj hmj
        · exact absurd hmj e
      · intro hall j hj hdj hmj
        have := hall j hj (orb_iff.2 (.inl hdj)) hmj
        rw [endAt_set _ (hne j hdj)] at this
        exact this

theorem added_yes {ts : List Task} (ha : AcyOk ts) (hl : LenOk ts) (hm : MachOk ts) {d i : Nat} {order ss fr : List Int} (h : RefRel ts d order ss fr) (hi : i < ts.length) (hr : readyB ts d i = true) : addedV ts order ss i = (strt ts ss fr i, true) := by
  have hmem : ∀ n ∈ (ts.getD i default).after, n ∈ order := fun n hn => by
    obtain ⟨h1, h2⟩ := after_nat ha.1 hi hn
    have := (h.bits n.toNat h1).2 (ready_after ha hi hr hn)
    rw [h2] at this
    exact this
  have hmi := hm i hi
  have hli := hl i hi
  unfold addedV
  rw [addA_true _ _ hmem, if_pos rfl]
  refine Prod.ext ?_ rfl
  dsimp only
  have key : ∀ U : Int, addM ts ss (ts.getD i default).machine order (startV ts ss (ts.getD i default).release (ts.getD i default).after) ≤ U ↔ strt ts ss fr i ≤ U := fun U => by
    unfold strt
    rw [addM_le, startV_le, startV_le, mx_le]
    constructor
    · rintro ⟨⟨h1, h2⟩, h3⟩
      refine ⟨⟨h1, (h.mach _ (by omega) U (by omega)).2 fun j hj hdj hmj => ?_⟩, h2⟩
      have := h3 (j : Int) ((h.bits j hj).2 hdj) (by have := hm j hj; rw [Int.toNat_natCast]; omega)
      rw [Int.toNat_natCast] at this
      exact this
    · rintro ⟨⟨h1, h2⟩, h3⟩
      refine ⟨⟨h1, h3⟩, fun k hk hmk => ?_⟩
      obtain ⟨h4, h5⟩ := h.rng k hk
      have h6 : ((k.toNat : Nat) : Int) = k := by omega
      exact (h.mach _ (by omega) U (by omega)).1 h2 k.toNat h5 ((h.bits _ h5).1 (by rw [h6]; exact hk)) (by rw [hmk])
  exact Int.le_antisymm ((key _).2 (Int.le_refl _)) ((key _).1 (Int.le_refl _))

theorem added_no {ts : List Task} (ha : AcyOk ts) {d i : Nat} {order ss fr : List Int} (hp : Part ts d ss fr) (h : RefRel ts d order ss fr) (hi : i < ts.length) (hb : d.testBit i = false) (hr : ¬ readyB ts d i = true) : (addedV ts order ss i).2 = false := by
  have hno : ¬ ∀ n ∈ (ts.getD i default).after, n ∈ order := fun hall => by
    refine hr (readyB_iff.2 ⟨hb, needs_least ha.1 hi (fun x => d.testBit x = true) (fun x hx => ?_) fun k hk hdk x hx => ?_⟩)
    · obtain ⟨h1, _⟩ := after_nat ha.1 hi hx
      rw [Int.toNat_natCast] at h1
      exact (h.bits x h1).1 (hall _ hx)
    · have := (hp.aft k hk hdk _ hx).1
      rw [Int.toNat_natCast] at this
      exact this
  unfold addedV
  rw [addA_false _ _ hno]
  rfl

theorem ref_res {ts : List Task} (ha : AcyOk ts) (hl : LenOk ts) (hm : MachOk ts) : ∀ (f d : Nat) (order ss fr : List Int), d < 2 ^ ts.length → unset ts.length d < f → Part ts d ss fr → RefRel ts d order ss fr →
    (∀ b, Leaf ts f d ss fr b → 0 ≤ refEndF ts f order ss ∧ refEndF ts f order ss ≤ lastV ts b) ∧ ∃ b, Leaf ts f d ss fr b ∧ lastV ts b = refEndF ts f order ss
  | 0, d, _, _, _, _, hu, _, _ => by omega
  | f + 1, d, order, ss, fr, hd, hu, hp, h => by
    unfold refEndF
    by_cases hdone : d = 2 ^ ts.length - 1
    · rw [if_pos ((h.full hd).2 hdone)]
      refine ⟨fun b hb => ?_, ss, .inl ⟨hdone, rfl⟩, rfl⟩
      rcases hb with ⟨_, rfl⟩ | ⟨h1, _⟩
      · exact ⟨lastV_nn, Int.le_refl _⟩
      · exact absurd hdone h1
    · rw [if_neg (fun e => hdone ((h.full hd).1 e))]
      have hrun : ∀ k, k ≤ ts.length → (∀ i, i < k → readyB ts d i = true → ∀ b, Leaf ts f (d ||| 2 ^ i) (ss.set i (strt ts ss fr i)) (fr.set (ts.getD i default).machine.toNat (strt ts ss fr i + (ts.getD i default).length)) b → 0 ≤ refUpto ts f order ss k ∧ refUpto ts f order ss k ≤ lastV ts b) ∧
          ((refUpto ts f order ss k = -1 ∧ ∀ i, i < k → ¬ readyB ts d i = true) ∨ ∃ b, Leaf ts (f + 1) d ss fr b ∧ lastV ts b = refUpto ts f order ss k) := by
        intro k
        induction k with
        | zero => exact fun _ => ⟨fun i hi => by omega, .inl ⟨rfl, fun i hi => by omega⟩⟩
        | succ k ih =>
          intro hk
          obtain ⟨h1, h2⟩ := ih (by omega)
          have hk' : k < ts.length := by omega
          rw [refUpto_succ]
          generalize refUpto ts f order ss k = acc at *
          by_cases hr : readyB ts d k = true
          · have hself := ready_self hr
            have hno : ¬ hasB order (k : Int) = true := fun e => by
              have := (h.bits k hk').1 (hasB_iff.1 e)
              rw [hself] at this
              cases this
            have hadd := added_yes ha hl hm h hk' hr
            obtain ⟨r1, b0, r2, r3⟩ := ref_res ha hl hm f (d ||| 2 ^ k) (order ++ [(k : Int)]) (ss.set k (strt ts ss fr k)) (fr.set (ts.getD k default).machine.toNat (strt ts ss fr k + (ts.getD k default).length))
              (Nat.or_lt_two_pow hd (Nat.pow_lt_pow_right (by decide) hk')) (by have := unset_lt hk' hself; omega) (hp.step ha hl hm hk' hr) (h.step hl hm hp hk' hr)
            have hb0 := r1 b0 r2
            have hst : refStep ts (refEndF ts f) order ss acc k = if acc < 0 ∨ refEndF ts f (order ++ [(k : Int)]) (ss.set k (strt ts ss fr k)) < acc then refEndF ts f (order ++ [(k : Int)]) (ss.set k (strt ts ss fr k)) else acc := by
              unfold refStep
              rw [if_neg hno, hadd, if_pos rfl]
            rw [hst]
            clear hst
            generalize refEndF ts f (order ++ [(k : Int)]) (ss.set k (strt ts ss fr k)) = E at *
            by_cases hc : acc < 0 ∨ E < acc
            · rw [if_pos hc]
              refine ⟨fun i hi hri b hb => ?_, .inr ⟨b0, .inr ⟨hdone, k, hk', hr, r2⟩, r3⟩⟩
              by_cases e : i = k
              · subst e; exact r1 b hb
              · have := h1 i (by omega) hri b hb; omega
            · rw [if_neg hc]
              refine ⟨fun i hi hri b hb => ?_, ?_⟩
              · by_cases e : i = k
                · subst e; have := r1 b hb; omega
                · exact h1 i (by omega) hri b hb
              · rcases h2 with ⟨h3, _⟩ | h3
                · omega
                · exact .inr h3
          · have hst : refStep ts (refEndF ts f) order ss acc k = acc := by
              unfold refStep
              split
              · rfl
              · rename_i hno
                have hbk : d.testBit k = false := by
                  cases hq : d.testBit k with
                  | false => rfl
                  | true => exact absurd (hasB_iff.2 ((h.bits k hk').2 hq)) hno
                rw [if_neg (by rw [added_no ha hp h hk' hbk hr]; simp)]
            rw [hst]
            refine ⟨fun i hi hri b hb => ?_, ?_⟩
            · by_cases e : i = k
              · subst e; exact absurd hri hr
              · exact h1 i (by omega) hri b hb
            · rcases h2 with ⟨h3, h4⟩ | h3
              · refine .inl ⟨h3, fun i hi => ?_⟩
                by_cases e : i = k
                · subst e; exact hr
                · exact h4 i (by omega)
              · exact .inr h3
      obtain ⟨h1, h2⟩ := hrun ts.length (Nat.le_refl _)
      rw [show refUpto ts f order ss ts.length = (List.range ts.length).foldl (refStep ts (refEndF ts f) order ss) (-1) from rfl] at h1 h2
      refine ⟨fun b hb => ?_, ?_⟩
      · rcases hb with ⟨h3, _⟩ | ⟨_, i, hi, hr, hb⟩
        · exact absurd h3 hdone
        · exact h1 i hi hr b hb
      · rcases h2 with ⟨_, h4⟩ | h3
        · obtain ⟨i, hi, hr⟩ := some_ready ha hd hdone
          exact absurd hr (h4 i hi)
        · exact h3

theorem refRel_zero (ts : List Task) : RefRel ts 0 [] (List.replicate ts.length 0) [0, 0, 0, 0] := by
  have h0 : ∀ m, m < 4 → ([0, 0, 0, 0] : List Int).getD m 0 = 0 := fun m hm => by
    match m, hm with
    | 0, _ => rfl
    | 1, _ => rfl
    | 2, _ => rfl
    | 3, _ => rfl
  refine ⟨fun x _ => by simp, fun x hx => by simp at hx, ?_, fun m hm => by rw [h0 m hm]; exact Int.le_refl _, fun m hm U hU => ?_⟩
  · unfold unset
    rw [List.countP_eq_length.2 fun i _ => by simp]
    simp
  · rw [h0 m hm]
    exact ⟨fun _ j _ h => by simp at h, fun _ => hU⟩

/-- The specification's end is the best schedule's. -/
theorem refEnd_same {ts : List Task} (ha : AcyOk ts) (hl : LenOk ts) (hm : MachOk ts) (hp : PosOk ts) : refEndF ts 8 [] (List.replicate ts.length 0) = (bestV ts).last := by
  have h7 := ha.1.1
  obtain ⟨b, h1, h2, h3, h4, h5, h6, h7⟩ := best_min ha hl hm hp
  obtain ⟨r1, b0, r2, r3⟩ := ref_res ha hl hm 8 0 [] _ _ (Nat.two_pow_pos _) (by have := unset_le ts.length 0; omega) (part_zero ts) (refRel_zero ts)
  have h8 := r1 b h6
  have h9 := h7 b0 r2
  omega

end Go.Proofs.Ytlgioldmjohhlaa
