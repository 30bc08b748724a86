/- Plain facts on requirements that contradict the stock: the first set by its size. No program is in sight.
Plain facts on parts that others dominate: they are not needed. No program is in sight.
Contracts: isAsGood (package design), dominates (the specification of chapter 2). Printed by a program (gen_d7dom.py). -/
import Derived.Test.YtabbehmodmmgoaaDoorOd1
import Derived.Test.YtabbehmodmmgoaaDoorOa1
import Derived.Test.YtabbehmodmmgoaaDoorOk1

section
namespace Go.Proofs.YtabbehmodmmgoaaDoor
/-- The first set, by its size, for which something holds. -/
def firstS (P : List Int → Bool) (n : Nat) : Nat → Option (List Int)
  | 0 => none
  | k + 1 => match firstS P n k with
    | some s => some s
    | none => (allS n (k + 1) 0).find? P
theorem firstS_none {P : List Int → Bool} {n : Nat} : ∀ {k : Nat}, firstS P n k = none ↔ ∀ c, c < k → ∀ s ∈ allS n (c + 1) 0, P s = false
  | 0 => ⟨fun _ c h => by omega, fun _ => rfl⟩
  | k + 1 => by
    rw [firstS]
    cases h : firstS P n k with
    | some s =>
      refine ⟨(fun h => by cases h), fun hh => ?_⟩
      rw [firstS_none.2 fun c hc => hh c (by omega)] at h
      cases h
    | none =>
      have h1 := firstS_none.1 h
      simp only
      rw [List.find?_eq_none]
      constructor
      · intro h2 c hc s hs
        rcases Nat.lt_or_ge c k with h3 | h3
        · exact h1 c h3 s hs
        · obtain rfl : c = k := by omega
          have := h2 s hs
          simpa using this
      · intro h2 s hs
        rw [h2 k (by omega) s hs]
        simp
theorem firstS_some {P : List Int → Bool} {n : Nat} {s : List Int} : ∀ {k : Nat}, firstS P n k = some s → ∃ c, c < k ∧ s ∈ allS n (c + 1) 0 ∧ P s = true ∧ ∀ d, d < c → ∀ t ∈ allS n (d + 1) 0, P t = false
  | 0, h => by cases h
  | k + 1, h => by
    rw [firstS] at h
    cases h1 : firstS P n k with
    | some t =>
      rw [h1] at h
      injection h with h
      subst h
      obtain ⟨c, hc, h2⟩ := firstS_some h1
      exact ⟨c, by omega, h2⟩
    | none =>
      rw [h1] at h
      simp only at h
      exact ⟨k, by omega, List.mem_of_find?_eq_some h, List.find?_some h, firstS_none.1 h1⟩
/-- Without one number an ascending list still ascends. -/
theorem asc_erase {n : Nat} : ∀ {l : List Int} {lo : Int} (i : Nat), AscS n lo l → AscS n lo (l.eraseIdx i)
  | [], _, _, h => by simpa using h
  | x :: l, lo, 0, h => by
    obtain ⟨h1, _, h3⟩ := h
    rw [List.eraseIdx_cons_zero]
    exact asc_weak (by omega) h3
  | x :: l, lo, i + 1, h => by
    obtain ⟨h1, h2, h3⟩ := h
    rw [List.eraseIdx_cons_succ]
    exact ⟨h1, h2, asc_erase i h3⟩
where
  asc_weak {n : Nat} : ∀ {l : List Int} {a b : Int}, a ≤ b → AscS n b l → AscS n a l
    | [], _, _, _, _ => trivial
    | x :: l, a, b, h, hh => ⟨by have := hh.1; omega, hh.2.1, hh.2.2⟩
theorem firstS_erase {P : List Int → Bool} {n k : Nat} {s : List Int} (h : firstS P n k = some s) {i : Nat} (hi : i < s.length) (h2 : 1 < s.length) : P (s.eraseIdx i) = false := by
  obtain ⟨c, hc, hs, _, hd⟩ := firstS_some h
  obtain ⟨h3, h4⟩ := allS_mem.1 hs
  refine hd (c - 1) (by omega) _ (allS_mem.2 ⟨?_, asc_erase i h4⟩)
  rw [List.length_eraseIdx, if_pos hi]
  omega
/-- A set of requirements; whether it contradicts the stock. -/
def pickR (rs : List DReq) (set : List Int) : List DReq := set.map fun i => rs.getD i.toNat default
def clashB (rs : List DReq) (sl : List (List DPart)) (cs : List (List Int)) (set : List Int) : Bool := !(cs.any fun c => meetsV (pickR rs set) sl c == 2)
def sizesV (sl : List (List DPart)) : List Nat := sl.map List.length
def contrV (rs : List DReq) (sl : List (List DPart)) : Option (List Int) := firstS (clashB rs sl (allC (sizesV sl))) rs.length rs.length
theorem pickR_all (rs : List DReq) : pickR rs (upS 0 rs.length) = rs := by
  apply List.ext_getElem?
  intro i
  unfold pickR
  rw [List.getElem?_map]
  by_cases h : i < rs.length
  · have h2 : i < (upS 0 rs.length).length := by rw [upS_length]; exact h
    have e := upS_get (x := 0) (d := rs.length) h
    rw [List.getD_eq_getElem?_getD, List.getElem?_eq_getElem h2] at e
    rw [List.getElem?_eq_getElem h2, List.getElem?_eq_getElem h]
    simp only [Option.getD_some] at e
    simp [e, List.getD_eq_getElem?_getD, List.getElem?_eq_getElem h]
  · have h2 : (upS 0 rs.length).length ≤ i := by rw [upS_length]; omega
    rw [List.getElem?_eq_none h2, List.getElem?_eq_none (by omega)]
    rfl
theorem clash_iff {rs : List DReq} {sl : List (List DPart)} {cs : List (List Int)} {set : List Int} : clashB rs sl cs set = true ↔ ∀ c ∈ cs, meetsV (pickR rs set) sl c ≠ 2 := by
  unfold clashB
  rw [Bool.not_eq_true', List.any_eq_false]
  constructor
  · intro h c hc e
    exact h c hc (by rw [e]; rfl)
  · intro h c hc e
    exact h c hc (by simpa using e)
theorem clash_none {rs : List DReq} {sl : List (List DPart)} {cs : List (List Int)} {set : List Int} {cost : List Int → Int} : clashB rs sl cs set = true ↔ cheapV (fun c => meetsV (pickR rs set) sl c == 2) cost cs = none := by
  rw [clash_iff, cheapV_none]
  constructor
  · intro h c hc; exact beq_eq_false_iff_ne.2 (h c hc)
  · intro h c hc; exact beq_eq_false_iff_ne.1 (h c hc)
/-- There is a cheapest design exactly if no requirements contradict the stock. -/
theorem contr_iff {rs : List DReq} (h0 : 0 < rs.length) {sl : List (List DPart)} {cost : List Int → Int} : contrV rs sl = none ↔ cheapV (fun c => meetsV rs sl c == 2) cost (allC (sizesV sl)) ≠ none := by
  unfold contrV
  rw [firstS_none]
  constructor
  · intro h e
    have h1 := h (rs.length - 1) (by omega) (upS 0 rs.length) (allS_mem.2 ⟨by rw [upS_length]; omega, asc_up (by simp)⟩)
    have h2 := clash_none (rs := rs) (sl := sl) (cs := allC (sizesV sl)) (set := upS 0 rs.length) (cost := cost)
    rw [pickR_all] at h2
    rw [h2.2 e] at h1
    cases h1
  · intro h c hc s hs
    cases hb : clashB rs sl (allC (sizesV sl)) s with
    | false => rfl
    | true =>
      exfalso
      refine h (cheapV_none.2 fun x hx => ?_)
      have h1 := clash_iff.1 hb x hx
      refine beq_eq_false_iff_ne.2 fun e => h1 (meets_sub e fun r hr => ?_)
      obtain ⟨i, hi, rfl⟩ := List.mem_map.1 hr
      obtain ⟨h3, h4⟩ := allS_mem.1 hs
      have h5 := asc_in h4 i hi
      rw [List.getD_eq_getElem?_getD, List.getElem?_eq_getElem (by omega)]
      exact List.getElem_mem _
where
  asc_in {n : Nat} : ∀ {l : List Int} {lo : Int}, AscS n lo l → ∀ i ∈ l, lo ≤ i ∧ i < (n : Int)
    | [], _, _, i, h => by cases h
    | x :: l, lo, h, i, hi => by
      rcases List.mem_cons.1 hi with rfl | hi
      · exact ⟨h.1, h.2.1⟩
      · have := asc_in h.2.2 i hi
        have := h.1
        omega

end Go.Proofs.YtabbehmodmmgoaaDoor
end

section
namespace Go.Proofs.YtabbehmodmmgoaaDoor
/-- Whether a part may replace another one, whatever they are used for. -/
def goodB (a b : DPart) : Bool := decide (a.price ≤ b.price) && decide (valP a 4 = valP b 4) && decide (valP a 5 = valP b 5) &&
  decide ((valP a 0).1 ≤ (valP b 0).1 ∧ (valP a 0).2 ≤ (valP b 0).2) && decide ((valP a 1).1 ≤ (valP b 1).1 ∧ (valP a 1).2 ≤ (valP b 1).2) && decide ((valP a 2).1 ≤ (valP b 2).1 ∧ (valP a 2).2 ≤ (valP b 2).2) && decide ((valP a 3).1 ≤ (valP b 3).1 ∧ (valP a 3).2 ≤ (valP b 3).2)
theorem good_iff {a b : DPart} : goodB a b = true ↔ a.price ≤ b.price ∧ valP a 4 = valP b 4 ∧ valP a 5 = valP b 5 ∧ ((valP a 0).1 ≤ (valP b 0).1 ∧ (valP a 0).2 ≤ (valP b 0).2) ∧ ((valP a 1).1 ≤ (valP b 1).1 ∧ (valP a 1).2 ≤ (valP b 1).2) ∧ ((valP a 2).1 ≤ (valP b 2).1 ∧ (valP a 2).2 ≤ (valP b 2).2) ∧ ((valP a 3).1 ≤ (valP b 3).1 ∧ (valP a 3).2 ≤ (valP b 3).2) := by
  unfold goodB
  simp only [Bool.and_eq_true, decide_eq_true_eq, and_assoc]
theorem good_refl (a : DPart) : goodB a a = true := good_iff.2 ⟨Int.le_refl _, rfl, rfl, ⟨Int.le_refl _, Int.le_refl _⟩, ⟨Int.le_refl _, Int.le_refl _⟩, ⟨Int.le_refl _, Int.le_refl _⟩, ⟨Int.le_refl _, Int.le_refl _⟩⟩
theorem good_trans {a b c : DPart} (h : goodB a b = true) (g : goodB b c = true) : goodB a c = true := by
  obtain ⟨h1, h2, h3, h4, h5, h6, h7⟩ := good_iff.1 h
  obtain ⟨g1, g2, g3, g4, g5, g6, g7⟩ := good_iff.1 g
  exact good_iff.2 ⟨by omega, h2.trans g2, h3.trans g3, by omega, by omega, by omega, by omega⟩
/-- Part n of a slot dominates part i. -/
def domB (l : List DPart) (n i : Nat) : Bool := decide (n ≠ i) && goodB (l.getD n default) (l.getD i default) && (decide (n < i) || !goodB (l.getD i default) (l.getD n default))
def freeB (l : List DPart) (i : Nat) : Bool := !((List.range l.length).any fun n => domB l n i)
def undomV (l : List DPart) : List Nat := (List.range l.length).filter (freeB l)
theorem dom_iff {l : List DPart} {n i : Nat} : domB l n i = true ↔ n ≠ i ∧ goodB (l.getD n default) (l.getD i default) = true ∧ (n < i ∨ goodB (l.getD i default) (l.getD n default) = false) := by
  unfold domB
  simp only [Bool.and_eq_true, Bool.or_eq_true, decide_eq_true_eq, Bool.not_eq_true', and_assoc]
theorem dom_trans {l : List DPart} {m n i : Nat} (h : domB l m n = true) (g : domB l n i = true) : domB l m i = true := by
  obtain ⟨h1, h2, h3⟩ := dom_iff.1 h
  obtain ⟨g1, g2, g3⟩ := dom_iff.1 g
  refine dom_iff.2 ⟨?_, good_trans h2 g2, ?_⟩
  · rintro rfl
    rcases h3 with h3 | h3
    · rcases g3 with g3 | g3
      · omega
      · rw [h2] at g3; cases g3
    · rw [g2] at h3; cases h3
  · rcases h3 with h3 | h3
    · rcases g3 with g3 | g3
      · exact .inl (by omega)
      · refine .inr ?_
        cases hb : goodB (l.getD i default) (l.getD m default) with
        | false => rfl
        | true => rw [good_trans hb h2] at g3; cases g3
    · refine .inr ?_
      cases hb : goodB (l.getD i default) (l.getD m default) with
      | false => rfl
      | true => rw [good_trans g2 hb] at h3; cases h3
theorem dom_irr {l : List DPart} {n : Nat} : domB l n n = false := by
  unfold domB
  simp
def domN (l : List DPart) (i : Nat) : Nat := ((List.range l.length).filter fun n => domB l n i).length
theorem filter_lt {P Q : Nat → Bool} {l : List Nat} (h : ∀ x ∈ l, P x = true → Q x = true) {y : Nat} (hy : y ∈ l) (h1 : P y = false) (h2 : Q y = true) : (l.filter P).length < (l.filter Q).length := by
  induction l with
  | nil => cases hy
  | cons x l ih =>
    have hle : ∀ l : List Nat, (∀ x ∈ l, P x = true → Q x = true) → (l.filter P).length ≤ (l.filter Q).length := fun l => by
      induction l with
      | nil => intro _; simp
      | cons z l ih2 =>
        intro hl
        have h3 := ih2 fun x hx => hl x (List.mem_cons_of_mem _ hx)
        have h4 := hl z (List.mem_cons_self ..)
        rw [List.filter_cons, List.filter_cons]
        cases hp : P z with
        | true => rw [if_pos rfl, if_pos (h4 hp)]; simp; omega
        | false =>
          rw [if_neg (by simp)]
          split
          · simp; omega
          · exact h3
    have hl := hle l fun z hz => h z (List.mem_cons_of_mem _ hz)
    rw [List.filter_cons, List.filter_cons]
    rcases List.mem_cons.1 hy with rfl | hy
    · rw [if_neg (by rw [h1]; simp), if_pos h2]
      simp; omega
    · have h5 := ih (fun z hz => h z (List.mem_cons_of_mem _ hz)) hy
      have h4 := h x (List.mem_cons_self ..)
      cases hp : P x with
      | true => rw [if_pos rfl, if_pos (h4 hp)]; simp; omega
      | false =>
        rw [if_neg (by simp)]
        split
        · simp; omega
        · exact h5
/-- Each part has one that nothing dominates and that may replace it. -/
theorem undom_good (l : List DPart) : ∀ (m i : Nat), domN l i < m → i < l.length → ∃ n ∈ undomV l, goodB (l.getD n default) (l.getD i default) = true
  | 0, _, h, _ => by omega
  | m + 1, i, h, hi => by
    cases hf : freeB l i with
    | true => exact ⟨i, List.mem_filter.2 ⟨List.mem_range.2 hi, hf⟩, good_refl _⟩
    | false =>
      unfold freeB at hf
      rw [Bool.not_eq_false', List.any_eq_true] at hf
      obtain ⟨n, hn, hd⟩ := hf
      have hn' := List.mem_range.1 hn
      have h1 : domN l n < domN l i := filter_lt (fun x _ hx => dom_trans hx hd) hn dom_irr hd
      obtain ⟨k, hk, hg⟩ := undom_good l m n (by omega) hn'
      exact ⟨k, hk, good_trans hg (dom_iff.1 hd).2.1⟩
theorem undom_ex (l : List DPart) {i : Nat} (hi : i < l.length) : ∃ n ∈ undomV l, goodB (l.getD n default) (l.getD i default) = true := undom_good l (domN l i + 1) i (by omega) hi
theorem undom_mem {l : List DPart} {n : Nat} (h : n ∈ undomV l) : n < l.length := List.mem_range.1 (List.mem_filter.1 h).1
def FitB (rs : List DReq) : Prop := ∀ r ∈ rs, r.ge = false ∧ ∀ t ∈ r.ts, 0 ≤ t.f ∧ 0 ≤ t.q ∧ t.q ≤ 5
theorem good_vals {a b : DPart} (h : goodB a b = true) {q : Int} (h0 : 0 ≤ q) (h5 : q ≤ 5) : (valP a q).1 ≤ (valP b q).1 ∧ (valP a q).2 ≤ (valP b q).2 := by
  obtain ⟨_, h2, h3, h4, h6, h7, h8⟩ := good_iff.1 h
  have : q = 0 ∨ q = 1 ∨ q = 2 ∨ q = 3 ∨ q = 4 ∨ q = 5 := by omega
  rcases this with rfl | rfl | rfl | rfl | rfl | rfl
  · exact h4
  · exact h6
  · exact h7
  · exact h8
  · rw [h2]; omega
  · rw [h3]; omega
theorem good_cost {a b : DPart} (h : goodB a b = true) {idle price : Int} (hi : 0 ≤ idle) (hp : 0 ≤ price) : partC idle price a ≤ partC idle price b := by
  obtain ⟨h1, _, _, _, _, h7, h8⟩ := good_iff.1 h
  have := Int.mul_le_mul_of_nonneg_left h7.2 hi
  have := Int.mul_le_mul_of_nonneg_left h8.2 hp
  unfold partC
  omega
theorem vals_mono {sl s2 : List (List DPart)} {c d : List Int} {k : Nat} (h : ∀ i, i < k → goodB (partAt s2 i (d.getD i 0)) (partAt sl i (c.getD i 0)) = true) {q : Int} (h0 : 0 ≤ q) (h5 : q ≤ 5) : (valsF s2 d k q).1 ≤ (valsF sl c k q).1 ∧ (valsF s2 d k q).2 ≤ (valsF sl c k q).2 := by
  induction k with
  | zero => exact ⟨Int.le_refl _, Int.le_refl _⟩
  | succ k ih =>
    have h1 := ih fun i hi => h i (by omega)
    have h2 := good_vals (h k (by omega)) h0 h5
    rw [valsF, valsF]
    simp only
    omega
theorem cost_mono {sl s2 : List (List DPart)} {c d : List Int} {k : Nat} (h : ∀ i, i < k → goodB (partAt s2 i (d.getD i 0)) (partAt sl i (c.getD i 0)) = true) {idle price : Int} (hi : 0 ≤ idle) (hp : 0 ≤ price) : costF idle price s2 d k ≤ costF idle price sl c k := by
  induction k with
  | zero => exact Int.le_refl _
  | succ k ih =>
    have h1 := ih fun i hi => h i (by omega)
    have h2 := good_cost (h k (by omega)) hi hp
    rw [costF, costF]
    omega
theorem sumT_mono {v w : Int → Int × Int} : ∀ {ts : List DTerm}, (∀ t ∈ ts, 0 ≤ t.f ∧ (v t.q).1 ≤ (w t.q).1 ∧ (v t.q).2 ≤ (w t.q).2) → (sumT ts v).1 ≤ (sumT ts w).1 ∧ (sumT ts v).2 ≤ (sumT ts w).2
  | [], _ => ⟨Int.le_refl _, Int.le_refl _⟩
  | t :: ts, h => by
    have h1 := sumT_mono (ts := ts) fun t ht => h t (List.mem_cons_of_mem _ ht)
    obtain ⟨h2, h3, h4⟩ := h t (List.mem_cons_self ..)
    have := Int.mul_le_mul_of_nonneg_left h3 h2
    have := Int.mul_le_mul_of_nonneg_left h4 h2
    rw [sumT_cons, sumT_cons]
    simp only
    omega
theorem meets_mono {rs : List DReq} (hf : FitB rs) {sl s2 : List (List DPart)} {c d : List Int} (hl : c.length = d.length) (h : ∀ i, i < d.length → goodB (partAt s2 i (d.getD i 0)) (partAt sl i (c.getD i 0)) = true) (hm : meetsV rs sl c = 2) : meetsV rs s2 d = 2 := by
  refine meets_yes.2 fun r hr => ?_
  have h1 := meets_yes.1 hm r hr
  obtain ⟨h2, h3⟩ := hf r hr
  have h4 := sumT_mono (v := valsF s2 d d.length) (w := valsF sl c c.length) (ts := r.ts) fun t ht => by
    obtain ⟨h5, h6, h7⟩ := h3 t ht
    rw [hl]
    exact ⟨h5, vals_mono h h6 h7⟩
  unfold marginV at h1 ⊢
  rw [if_neg (by rw [h2]; simp)] at h1 ⊢
  simp only at h1 ⊢
  omega
theorem vals_same {sl s2 : List (List DPart)} {c d : List Int} {k : Nat} (h : ∀ i, i < k → partAt s2 i (d.getD i 0) = partAt sl i (c.getD i 0)) : valsF s2 d k = valsF sl c k := by
  induction k with
  | zero => rfl
  | succ k ih =>
    funext q
    rw [valsF, valsF, ih fun i hi => h i (by omega), h k (by omega)]
theorem cost_same {sl s2 : List (List DPart)} {c d : List Int} {k : Nat} {idle price : Int} (h : ∀ i, i < k → partAt s2 i (d.getD i 0) = partAt sl i (c.getD i 0)) : costF idle price s2 d k = costF idle price sl c k := by
  induction k with
  | zero => rfl
  | succ k ih => rw [costF, costF, ih fun i hi => h i (by omega), h k (by omega)]
theorem meets_same {rs : List DReq} {sl s2 : List (List DPart)} {c d : List Int} (hl : c.length = d.length) (h : ∀ i, i < d.length → partAt s2 i (d.getD i 0) = partAt sl i (c.getD i 0)) : meetsV rs s2 d = meetsV rs sl c := by
  unfold meetsV marginsV
  rw [hl, vals_same h]
/-- Only the parts that nothing dominates. -/
def fewL (l : List DPart) : List DPart := (undomV l).map fun n => l.getD n default
def fewSl (sl : List (List DPart)) : List (List DPart) := sl.map fewL
theorem few_getD {sl : List (List DPart)} {i : Nat} (hi : i < sl.length) : (fewSl sl).getD i [] = fewL (sl.getD i []) := by
  unfold fewSl
  rw [List.getD_eq_getElem?_getD, List.getElem?_map, List.getElem?_eq_getElem hi, List.getD_eq_getElem?_getD, List.getElem?_eq_getElem hi]
  rfl
theorem few_len (sl : List (List DPart)) : (fewSl sl).length = sl.length := by simp [fewSl]
theorem fewL_get {l : List DPart} {n : Nat} (h : n < (fewL l).length) : ∃ i, i < l.length ∧ (fewL l).getD n default = l.getD i default := by
  unfold fewL at *
  rw [List.length_map] at h
  refine ⟨(undomV l)[n], undom_mem (List.getElem_mem h), ?_⟩
  rw [List.getD_eq_getElem?_getD, List.getElem?_map, List.getElem?_eq_getElem h]
  rfl
theorem fewL_good {l : List DPart} {i : Nat} (h : i < l.length) : ∃ n, n < (fewL l).length ∧ goodB ((fewL l).getD n default) (l.getD i default) = true := by
  obtain ⟨k, hk, hg⟩ := undom_ex l h
  obtain ⟨n, hn, rfl⟩ := List.getElem_of_mem hk
  refine ⟨n, by unfold fewL; rw [List.length_map]; exact hn, ?_⟩
  unfold fewL
  rw [List.getD_eq_getElem?_getD, List.getElem?_map, List.getElem?_eq_getElem hn]
  exact hg
theorem sizes_getD {sl : List (List DPart)} {i : Nat} (hi : i < sl.length) : (sizesV sl).getD i 0 = (sl.getD i []).length := by
  unfold sizesV
  rw [List.getD_eq_getElem?_getD, List.getElem?_map, List.getElem?_eq_getElem hi, List.getD_eq_getElem?_getD, List.getElem?_eq_getElem hi]
  rfl
theorem allC_ok {sl : List (List DPart)} {c : List Int} : c ∈ allC (sizesV sl) ↔ ChoiceOk sl c := by
  rw [allC_mem]
  unfold ChoiceOk
  rw [show (sizesV sl).length = sl.length by simp [sizesV]]
  constructor
  · rintro ⟨h1, h2⟩
    exact ⟨h1, fun i hi => by have := h2 i hi; rw [sizes_getD hi] at this; exact this⟩
  · rintro ⟨h1, h2⟩
    exact ⟨h1, fun i hi => by rw [sizes_getD hi]; exact h2 i hi⟩
/-- A list by its items. -/
theorem list_ex {P : Nat → Int → Prop} : ∀ {k : Nat}, (∀ i, i < k → ∃ x, P i x) → ∃ l : List Int, l.length = k ∧ ∀ i, i < k → P i (l.getD i 0)
  | 0, _ => ⟨[], rfl, fun i h => by omega⟩
  | k + 1, h => by
    obtain ⟨l, h1, h2⟩ := list_ex (k := k) fun i hi => h i (by omega)
    obtain ⟨x, hx⟩ := h k (by omega)
    refine ⟨l ++ [x], by simp [h1], fun i hi => ?_⟩
    by_cases e : i < k
    · rw [show (l ++ [x]).getD i 0 = l.getD i 0 by simp [List.getD_eq_getElem?_getD, List.getElem?_append_left (show i < l.length by omega)]]
      exact h2 i e
    · obtain rfl : i = k := by omega
      rw [show (l ++ [x]).getD i 0 = x by rw [← h1]; simp [List.getD_eq_getElem?_getD]]
      exact hx
theorem few_of {sl : List (List DPart)} {c : List Int} (hc : ChoiceOk sl c) : ∃ d, ChoiceOk (fewSl sl) d ∧ ∀ i, i < sl.length → goodB (partAt (fewSl sl) i (d.getD i 0)) (partAt sl i (c.getD i 0)) = true := by
  obtain ⟨d, h1, h2⟩ := list_ex (k := sl.length) (P := fun i x => (0 ≤ x ∧ x < ((fewL (sl.getD i [])).length : Int)) ∧ goodB ((fewL (sl.getD i [])).getD x.toNat default) (partAt sl i (c.getD i 0)) = true) fun i hi => by
    have h3 := hc.2 i hi
    obtain ⟨n, hn, hg⟩ := fewL_good (l := sl.getD i []) (i := (c.getD i 0).toNat) (by omega)
    exact ⟨(n : Int), ⟨by omega, by omega⟩, by rw [Int.toNat_natCast]; exact hg⟩
  refine ⟨d, ⟨by rw [few_len, h1], fun i hi => ?_⟩, fun i hi => ?_⟩
  · rw [few_len] at hi
    rw [few_getD hi]
    exact (h2 i hi).1
  · unfold partAt
    rw [few_getD hi]
    exact (h2 i hi).2
theorem of_few {sl : List (List DPart)} {d : List Int} (hd : ChoiceOk (fewSl sl) d) : ∃ c, ChoiceOk sl c ∧ ∀ i, i < sl.length → partAt (fewSl sl) i (d.getD i 0) = partAt sl i (c.getD i 0) := by
  obtain ⟨c, h1, h2⟩ := list_ex (k := sl.length) (P := fun i x => (0 ≤ x ∧ x < ((sl.getD i []).length : Int)) ∧ partAt (fewSl sl) i (d.getD i 0) = partAt sl i x) fun i hi => by
    have h3 := hd.2 i (by rw [few_len]; exact hi)
    rw [few_getD hi] at h3
    obtain ⟨n, hn, hg⟩ := fewL_get (l := sl.getD i []) (n := (d.getD i 0).toNat) (by omega)
    refine ⟨(n : Int), ⟨by omega, by omega⟩, ?_⟩
    unfold partAt
    rw [few_getD hi, hg, Int.toNat_natCast]
  exact ⟨c, ⟨h1, fun i hi => (h2 i hi).1⟩, fun i hi => (h2 i hi).2⟩
/-- Dominated parts are not needed. -/
theorem few_cheap {rs : List DReq} (hf : FitB rs) {sl : List (List DPart)} {idle price : Int} (hi : 0 ≤ idle) (hp : 0 ≤ price) {c : List Int} {n : Int}
    (h : cheapV (fun c => meetsV rs sl c == 2) (costC idle price sl) (allC (sizesV sl)) = some (c, n)) :
    ∃ d, cheapV (fun c => meetsV rs (fewSl sl) c == 2) (costC idle price (fewSl sl)) (allC (sizesV (fewSl sl))) = some (d, n) := by
  obtain ⟨h1, h2, h3, h4⟩ := cheapV_least h
  have hc := allC_ok.1 h1
  have h2 : meetsV rs sl c = 2 := by simpa using h2
  obtain ⟨d, hd, hg⟩ := few_of hc
  have hl : c.length = d.length := by rw [hc.1, hd.1, few_len]
  have hm : meetsV rs (fewSl sl) d = 2 := meets_mono hf hl (fun i hi => hg i (by rw [hd.1, few_len] at hi; exact hi)) h2
  cases hv : cheapV (fun c => meetsV rs (fewSl sl) c == 2) (costC idle price (fewSl sl)) (allC (sizesV (fewSl sl))) with
  | none =>
    have := cheapV_none.1 hv d (allC_ok.2 hd)
    simp [hm] at this
  | some x =>
    obtain ⟨e, m⟩ := x
    obtain ⟨g1, g2, g3, g4⟩ := cheapV_least hv
    have he := allC_ok.1 g1
    have g2 : meetsV rs (fewSl sl) e = 2 := by simpa using g2
    have u1 := g4 d (allC_ok.2 hd) (by simp [hm])
    have u2 : costC idle price (fewSl sl) d ≤ costC idle price sl c := by
      unfold costC
      rw [hl]
      exact cost_mono (fun i hi => hg i (by rw [hd.1, few_len] at hi; exact hi)) hi hp
    obtain ⟨b, hb, hbe⟩ := of_few he
    have hlb : b.length = e.length := by rw [hb.1, he.1, few_len]
    have u3 : meetsV rs sl b = 2 := by
      rw [← meets_same hlb (fun i hi => hbe i (by rw [he.1, few_len] at hi; exact hi))]
      exact g2
    have u4 := h4 b (allC_ok.2 hb) (by simp [u3])
    have u5 : costC idle price (fewSl sl) e = costC idle price sl b := by
      unfold costC
      rw [hlb]
      exact cost_same fun i hi => hbe i (by rw [he.1, few_len] at hi; exact hi)
    obtain rfl : m = n := by omega
    exact ⟨e, rfl⟩

end Go.Proofs.YtabbehmodmmgoaaDoor
end

section
namespace Go.Proofs.YtabbehmodmmgoaaDoor
open Go.RowKit

/-- Quantity k of a part is as good as another one's. -/
def okQ (a b : DPart) (k : Nat) : Prop := if k = 4 ∨ k = 5 then valP a (k : Int) = valP b (k : Int) else (valP a (k : Int)).1 ≤ (valP b (k : Int)).1 ∧ (valP a (k : Int)).2 ≤ (valP b (k : Int)).2
theorem good_okQ {a b : DPart} : goodB a b = true ↔ a.price ≤ b.price ∧ ∀ k, k < 6 → okQ a b k := by
  rw [good_iff]
  constructor
  · rintro ⟨h1, h2, h3, h4, h5, h6, h7⟩
    refine ⟨h1, fun k hk => ?_⟩
    rcases (show k = 0 ∨ k = 1 ∨ k = 2 ∨ k = 3 ∨ k = 4 ∨ k = 5 by omega) with rfl | rfl | rfl | rfl | rfl | rfl
    · exact h4
    · exact h5
    · exact h6
    · exact h7
    · exact h2
    · exact h3
  · rintro ⟨h1, h⟩
    exact ⟨h1, h 4 (by decide), h 5 (by decide), h 0 (by decide), h 1 (by decide), h 2 (by decide), h 3 (by decide)⟩
theorem okQ_all {a b : DPart} {k : Nat} (h : ∀ j, j < k → okQ a b j) (hk : okQ a b k) : ∀ j, j < k + 1 → okQ a b j := fun j hj => by
  rcases Nat.lt_or_ge j k with h2 | h2
  · exact h j h2
  · have e : j = k := by omega
    rw [e]; exact hk
theorem not_good {a b : DPart} {k : Nat} (hk : k < 6) (h : ¬ okQ a b k) : goodB a b = false := by
  cases hg : goodB a b
  · rfl
  · exact absurd ((good_okQ.1 hg).2 k hk) h

section
attribute [local go_sem] vals_at
set_option maxHeartbeats 8000000 in
set_option maxRecDepth 100000 in
theorem isAsGood_any (a b : DPart) (w : World) :
    Calls Tryd.prog 51 #[.agg #[.string a.name, .int .i64 a.price, .int .i64 (valP a 0).1, .int .i64 (valP a 0).2, .int .i64 (valP a 1).1, .int .i64 (valP a 1).2, .int .i64 (valP a 2).1, .int .i64 (valP a 2).2, .int .i64 (valP a 3).1, .int .i64 (valP a 3).2, .int .i64 (valP a 4).1, .int .i64 (valP a 4).2, .int .i64 (valP a 5).1, .int .i64 (valP a 5).2], .agg #[.string b.name, .int .i64 b.price, .int .i64 (valP b 0).1, .int .i64 (valP b 0).2, .int .i64 (valP b 1).1, .int .i64 (valP b 1).2, .int .i64 (valP b 2).1, .int .i64 (valP b 2).2, .int .i64 (valP b 3).1, .int .i64 (valP b 3).2, .int .i64 (valP b 4).1, .int .i64 (valP b 4).2, .int .i64 (valP b 5).1, .int .i64 (valP b 5).2]] w fun e w' => e = .returned (.bool (goodB a b)) ∧ Below w.heap.size w w' := by
  have HG := Lib.hid (good_okQ (a := a) (b := b))
  have HNg := Lib.hid (fun k (hk : k < 6) => not_good (a := a) (b := b) hk)
  have R0 := Lib.hid (show Blk ((w.alloc (.cells #[.string a.name, .int .i64 a.price, .int .i64 (valP a 0).1, .int .i64 (valP a 0).2, .int .i64 (valP a 1).1, .int .i64 (valP a 1).2, .int .i64 (valP a 2).1, .int .i64 (valP a 2).2, .int .i64 (valP a 3).1, .int .i64 (valP a 3).2, .int .i64 (valP a 4).1, .int .i64 (valP a 4).2, .int .i64 (valP a 5).1, .int .i64 (valP a 5).2] 87)).alloc (.cells #[.string b.name, .int .i64 b.price, .int .i64 (valP b 0).1, .int .i64 (valP b 0).2, .int .i64 (valP b 1).1, .int .i64 (valP b 1).2, .int .i64 (valP b 2).1, .int .i64 (valP b 2).2, .int .i64 (valP b 3).1, .int .i64 (valP b 3).2, .int .i64 (valP b 4).1, .int .i64 (valP b 4).2, .int .i64 (valP b 5).1, .int .i64 (valP b 5).2] 87)) w.heap.size 87 #[.string a.name, .int .i64 a.price, .int .i64 (valP a 0).1, .int .i64 (valP a 0).2, .int .i64 (valP a 1).1, .int .i64 (valP a 1).2, .int .i64 (valP a 2).1, .int .i64 (valP a 2).2, .int .i64 (valP a 3).1, .int .i64 (valP a 3).2, .int .i64 (valP a 4).1, .int .i64 (valP a 4).2, .int .i64 (valP a 5).1, .int .i64 (valP a 5).2] from (Blk.newAt rfl).alloc)
  have R1 := Lib.hid (show Blk ((w.alloc (.cells #[.string a.name, .int .i64 a.price, .int .i64 (valP a 0).1, .int .i64 (valP a 0).2, .int .i64 (valP a 1).1, .int .i64 (valP a 1).2, .int .i64 (valP a 2).1, .int .i64 (valP a 2).2, .int .i64 (valP a 3).1, .int .i64 (valP a 3).2, .int .i64 (valP a 4).1, .int .i64 (valP a 4).2, .int .i64 (valP a 5).1, .int .i64 (valP a 5).2] 87)).alloc (.cells #[.string b.name, .int .i64 b.price, .int .i64 (valP b 0).1, .int .i64 (valP b 0).2, .int .i64 (valP b 1).1, .int .i64 (valP b 1).2, .int .i64 (valP b 2).1, .int .i64 (valP b 2).2, .int .i64 (valP b 3).1, .int .i64 (valP b 3).2, .int .i64 (valP b 4).1, .int .i64 (valP b 4).2, .int .i64 (valP b 5).1, .int .i64 (valP b 5).2] 87)) (w.heap.size + 1) 87 #[.string b.name, .int .i64 b.price, .int .i64 (valP b 0).1, .int .i64 (valP b 0).2, .int .i64 (valP b 1).1, .int .i64 (valP b 1).2, .int .i64 (valP b 2).1, .int .i64 (valP b 2).2, .int .i64 (valP b 3).1, .int .i64 (valP b 3).2, .int .i64 (valP b 4).1, .int .i64 (valP b 4).2, .int .i64 (valP b 5).1, .int .i64 (valP b 5).2] from Blk.newAt (by simp))
  have HB0 := Lib.hid (show Below w.heap.size w ((w.alloc (.cells #[.string a.name, .int .i64 a.price, .int .i64 (valP a 0).1, .int .i64 (valP a 0).2, .int .i64 (valP a 1).1, .int .i64 (valP a 1).2, .int .i64 (valP a 2).1, .int .i64 (valP a 2).2, .int .i64 (valP a 3).1, .int .i64 (valP a 3).2, .int .i64 (valP a 4).1, .int .i64 (valP a 4).2, .int .i64 (valP a 5).1, .int .i64 (valP a 5).2] 87)).alloc (.cells #[.string b.name, .int .i64 b.price, .int .i64 (valP b 0).1, .int .i64 (valP b 0).2, .int .i64 (valP b 1).1, .int .i64 (valP b 1).2, .int .i64 (valP b 2).1, .int .i64 (valP b 2).2, .int .i64 (valP b 3).1, .int .i64 (valP b 3).2, .int .i64 (valP b 4).1, .int .i64 (valP b 4).2, .int .i64 (valP b 5).1, .int .i64 (valP b 5).2] 87)) from pa (pa pr))
  have HPv := Lib.hid (fun k (hk : k < 6) => part_val b hk)
  have HOk := Lib.hid (fun k => (show okQ a b k ↔ (if k = 4 ∨ k = 5 then valP a (k : Int) = valP b (k : Int) else (valP a (k : Int)).1 ≤ (valP b (k : Int)).1 ∧ (valP a (k : Int)).2 ≤ (valP b (k : Int)).2) from Iff.rfl))
  generalize goodB a b = G at *
  have x2 := R0.out.cellAt 2 rfl
  have x3 := R0.out.cellAt 3 rfl
  have x4 := R0.out.cellAt 4 rfl
  have x5 := R0.out.cellAt 5 rfl
  have x6 := R0.out.cellAt 6 rfl
  have x7 := R0.out.cellAt 7 rfl
  have x8 := R0.out.cellAt 8 rfl
  have x9 := R0.out.cellAt 9 rfl
  have x10 := R0.out.cellAt 10 rfl
  have x11 := R0.out.cellAt 11 rfl
  have x12 := R0.out.cellAt 12 rfl
  have x13 := R0.out.cellAt 13 rfl
  have xl := R0.out.lt
  go_enter Tryd.func51, Tryd.ntmps51
  go_wp2
  clear x2 x3 x4 x5 x6 x7 x8 x9 x10 x11 x12 x13 xl
  generalize ((w.alloc (.cells #[.string a.name, .int .i64 a.price, .int .i64 (valP a 0).1, .int .i64 (valP a 0).2, .int .i64 (valP a 1).1, .int .i64 (valP a 1).2, .int .i64 (valP a 2).1, .int .i64 (valP a 2).2, .int .i64 (valP a 3).1, .int .i64 (valP a 3).2, .int .i64 (valP a 4).1, .int .i64 (valP a 4).2, .int .i64 (valP a 5).1, .int .i64 (valP a 5).2] 87)).alloc (.cells #[.string b.name, .int .i64 b.price, .int .i64 (valP b 0).1, .int .i64 (valP b 0).2, .int .i64 (valP b 1).1, .int .i64 (valP b 1).2, .int .i64 (valP b 2).1, .int .i64 (valP b 2).2, .int .i64 (valP b 3).1, .int .i64 (valP b 3).2, .int .i64 (valP b 4).1, .int .i64 (valP b 4).2, .int .i64 (valP b 5).1, .int .i64 (valP b 5).2] 87)) = wo at *
  go_loopw [10] (fun iv wr => ∃ k : Nat, iv = .int .i64 (k : Int) ∧ k ≤ 6 ∧ (∀ j, j < k → okQ a b j) ∧ Below wo.heap.size wo wr) (fun iv _ => 6 - (intOf iv).toNat)
  case atStart => exact ⟨0, rfl, Nat.zero_le _, fun j hj => absurd hj (Nat.not_lt_zero _), pr⟩
  case round =>
    obtain ⟨k, rfl, hk, hall, hq⟩ := hrel
    have HAll := Lib.hid hall
    have HQ := Lib.hid (pt HB0.out hq)
    have HQo := Lib.hid hq
    have RA := Lib.hid (R0.out.past hq)
    have RB := Lib.hid (R1.out.past hq)
    clear hall hq
    by_cases hlt : k < 6
    · obtain ⟨p1, p2⟩ := HPv.out k hlt
      have c0 := (RB.out.cell _).trans p1
      have c1 := (RB.out.cell _).trans p2
      have cl := RB.out.lt
      have k0 : (0 : Int) ≤ (k : Int) := by omega
      have k1 : (k : Int) < 6 := by omega
      have hok := HOk.out k
      have HNk := Lib.hid (HNg.out k hlt)
      have HAk := Lib.hid (fun h => okQ_all HAll.out (k := k) h)
      clear p1 p2
      generalize hAv : valP a (k : Int) = av at *
      generalize hBv : valP b (k : Int) = bv at *
      obtain ⟨alo, ahi⟩ := av
      obtain ⟨blo, bhi⟩ := bv
      dsimp only at c0 c1 hok
      have hva1 : (valP a (k : Int)).1 = alo := by rw [hAv]
      have hva2 : (valP a (k : Int)).2 = ahi := by rw [hAv]
      clear hAv hBv
      by_cases heq : alo = blo ∧ ahi = bhi
      · obtain ⟨rfl, rfl⟩ := heq
        have HN := Lib.hid (HAk.out (hok.2 (by split; · rfl
                                               · exact ⟨Int.le_refl _, Int.le_refl _⟩)))
        clear hok
        go_wp2
        go_roundw
        case rel => exact ⟨k + 1, by go_num, by omega, HN.out, pa (pa HQo.out)⟩
        case measure => simp [intOf]; omega
      · by_cases hk4 : k = 4
        · have h4 : ((k : Int) == 4) = true := beq_iff_eq.2 (by omega)
          have HX := Lib.hid (show G = false from HNk.out (fun h => by
            have h := hok.1 h
            rw [if_pos (Or.inl hk4)] at h
            injection h with h1 h2
            exact heq ⟨h1, h2⟩))
          clear hok hk4
          go_wp2
          all_goals
            go_ret
            exact ⟨ret_bool HX.out.symm, pa (pa HQ.out)⟩
        · have h4 : ((k : Int) == 4) = false := beq_eq_false_iff_ne.2 (by omega)
          by_cases hk5 : k = 5
          · have h5 : ((k : Int) == 5) = true := beq_iff_eq.2 (by omega)
            have HX := Lib.hid (show G = false from HNk.out (fun h => by
              have h := hok.1 h
              rw [if_pos (Or.inr hk5)] at h
              injection h with h1 h2
              exact heq ⟨h1, h2⟩))
            clear hok hk5
            go_wp2
            all_goals
              go_ret
              exact ⟨ret_bool HX.out.symm, pa (pa HQ.out)⟩
          · have h5 : ((k : Int) == 5) = false := beq_eq_false_iff_ne.2 (by omega)
            rw [if_neg (by omega)] at hok
            by_cases h6 : alo ≤ blo
            · have h61 : ¬ blo < alo := by omega
              by_cases h7 : ahi ≤ bhi
              · have h71 : ¬ bhi < ahi := by omega
                have HN := Lib.hid (HAk.out (hok.2 ⟨h6, h7⟩))
                clear hok
                go_wp2
                all_goals
                  go_roundw
                  case rel => exact ⟨k + 1, by go_num, by omega, HN.out, pa (pa HQo.out)⟩
                  case measure => simp [intOf]; omega
              · have h71 : bhi < ahi := by omega
                have HX := Lib.hid (show G = false from HNk.out (fun h => by
                  have h := hok.1 h
                  exact h7 h.2))
                clear hok
                go_wp2
                all_goals
                  go_ret
                  exact ⟨ret_bool HX.out.symm, pa (pa HQ.out)⟩
            · have h61 : blo < alo := by omega
              have HX := Lib.hid (show G = false from HNk.out (fun h => by
                have h := hok.1 h
                exact h6 h.1))
              clear hok
              go_wp2
              all_goals
                go_ret
                exact ⟨ret_bool HX.out.symm, pa (pa HQ.out)⟩
    · have hk6 : k = 6 := by omega
      have HGd := Lib.hid (show G = decide (a.price ≤ b.price) by
        have h := HG.out
        rw [hk6] at HAll
        cases hG : G
        · rw [hG] at h
          have h2 : ¬ a.price ≤ b.price := fun hp => Bool.noConfusion (h.2 ⟨hp, HAll.out⟩)
          rw [decide_eq_false h2]
        · rw [hG] at h
          rw [decide_eq_true (h.1 rfl).1])
      have y0 := RA.out.cellAt 1 rfl
      have y1 := RB.out.cellAt 1 rfl
      have yl := RA.out.lt
      have zl := RB.out.lt
      have hk61 : ¬ (k : Int) < 6 := by omega
      clear hlt hk6
      go_wp2
      go_ret
      exact ⟨ret_bool HGd.out.symm, HQ.out⟩
end

end Go.Proofs.YtabbehmodmmgoaaDoor
end
