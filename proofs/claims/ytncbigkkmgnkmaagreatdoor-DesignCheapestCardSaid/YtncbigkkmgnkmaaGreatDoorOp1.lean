/- Plain facts on requirements that contradict the stock: the first set by its size. No program is in sight.
Plain facts on parts that others dominate: they are not needed. No program is in sight.
Plain facts: all choices as the specification lists them, one slot after the other. No program is in sight. -/
import Derived.Test.YtncbigkkmgnkmaaGreatDoorOq2
import Derived.Test.YtncbigkkmgnkmaaGreatDoorOa1

section
namespace Go.Proofs.YtncbigkkmgnkmaaGreatDoor
/-- The first set, by its size, for which something holds. -/
def firstS (P : List Int → Bool) (n : Nat) : Nat → Option (List Int)
  | 0 => none
  | k + 1 => match firstS P n k with
    | some s => some s
    | none => (allS n (k + 1) 0).find? P
theorem firstS_none {P : List Int → Bool} {n : Nat} : ∀ {k : Nat}, firstS P n k = none ↔ ∀ c, c < k → ∀ s ∈ allS n (c + 1) 0, P s = false
  | 0 => ⟨fun _ c h => by omega, fun _ => rfl⟩
  | k + 1 => by
    rw [firstS]
    cases h : firstS P n k with
    | some s =>
      refine ⟨(fun h => by cases h), fun hh => ?_⟩
      rw [firstS_none.2 fun c hc => hh c (by omega)] at h
      cases h
    | none =>
      have h1 := firstS_none.1 h
      simp only
      rw [List.find?_eq_none]
      constructor
      · intro h2 c hc s hs
        rcases Nat.lt_or_ge c k with h3 | h3
        · exact h1 c h3 s hs
        · obtain rfl : c = k := by omega
          have := h2 s hs
          simpa using this
      · intro h2 s hs
        rw [h2 k (by omega) s hs]
        simp
theorem firstS_some {P : List Int → Bool} {n : Nat} {s : List Int} : ∀ {k : Nat}, firstS P n k = some s → ∃ c, c < k ∧ s ∈ allS n (c + 1) 0 ∧ P s = true ∧ ∀ d, d < c → ∀ t ∈ allS n (d + 1) 0, P t = false
  | 0, h => by cases h
  | k + 1, h => by
    rw [firstS] at h
    cases h1 : firstS P n k with
    | some t =>
      rw [h1] at h
      injection h with h
      subst h
      obtain ⟨c, hc, h2⟩ := firstS_some h1
      exact ⟨c, by omega, h2⟩
    | none =>
      rw [h1] at h
      simp only at h
      exact ⟨k, by omega, List.mem_of_find?_eq_some h, List.find?_some h, firstS_none.1 h1⟩
/-- A set of requirements; whether it contradicts the stock. -/
def pickR (rs : List DReq) (set : List Int) : List DReq := set.map fun i => rs.getD i.toNat default
def clashB (rs : List DReq) (sl : List (List DPart)) (cs : List (List Int)) (set : List Int) : Bool := !(cs.any fun c => meetsV (pickR rs set) sl c == 2)
def sizesV (sl : List (List DPart)) : List Nat := sl.map List.length
def contrV (rs : List DReq) (sl : List (List DPart)) : Option (List Int) := firstS (clashB rs sl (allC (sizesV sl))) rs.length rs.length
theorem pickR_all (rs : List DReq) : pickR rs (upS 0 rs.length) = rs := by
  apply List.ext_getElem?
  intro i
  unfold pickR
  rw [List.getElem?_map]
  by_cases h : i < rs.length
  · have h2 : i < (upS 0 rs.length).length := by rw [upS_length]; exact h
    have e := upS_get (x := 0) (d := rs.length) h
    rw [List.getD_eq_getElem?_getD, List.getElem?_eq_getElem h2] at e
    rw [List.getElem?_eq_getElem h2, List.getElem?_eq_getElem h]
    simp only [Option.getD_some] at e
    simp [e, List.getD_eq_getElem?_getD, List.getElem?_eq_getElem h]
  · have h2 : (upS 0 rs.length).length ≤ i := by rw [upS_length]; omega
    rw [List.getElem?_eq_none h2, List.getElem?_eq_none (by omega)]
    rfl
theorem clash_iff {rs : List DReq} {sl : List (List DPart)} {cs : List (List Int)} {set : List Int} : clashB rs sl cs set = true ↔ ∀ c ∈ cs, meetsV (pickR rs set) sl c ≠ 2 := by
  unfold clashB
  rw [Bool.not_eq_true', List.any_eq_false]
  constructor
  · intro h c hc e
    exact h c hc (by rw [e]; rfl)
  · intro h c hc e
    exact h c hc (by simpa using e)
theorem clash_none {rs : List DReq} {sl : List (List DPart)} {cs : List (List Int)} {set : List Int} {cost : List Int → Int} : clashB rs sl cs set = true ↔ cheapV (fun c => meetsV (pickR rs set) sl c == 2) cost cs = none := by
  rw [clash_iff, cheapV_none]
  constructor
  · intro h c hc; exact beq_eq_false_iff_ne.2 (h c hc)
  · intro h c hc; exact beq_eq_false_iff_ne.1 (h c hc)
/-- There is a cheapest design exactly if no requirements contradict the stock. -/
theorem contr_iff {rs : List DReq} (h0 : 0 < rs.length) {sl : List (List DPart)} {cost : List Int → Int} : contrV rs sl = none ↔ cheapV (fun c => meetsV rs sl c == 2) cost (allC (sizesV sl)) ≠ none := by
  unfold contrV
  rw [firstS_none]
  constructor
  · intro h e
    have h1 := h (rs.length - 1) (by omega) (upS 0 rs.length) (allS_mem.2 ⟨by rw [upS_length]; omega, asc_up (by simp)⟩)
    have h2 := clash_none (rs := rs) (sl := sl) (cs := allC (sizesV sl)) (set := upS 0 rs.length) (cost := cost)
    rw [pickR_all] at h2
    rw [h2.2 e] at h1
    cases h1
  · intro h c hc s hs
    cases hb : clashB rs sl (allC (sizesV sl)) s with
    | false => rfl
    | true =>
      exfalso
      refine h (cheapV_none.2 fun x hx => ?_)
      have h1 := clash_iff.1 hb x hx
      refine beq_eq_false_iff_ne.2 fun e => h1 (meets_sub e fun r hr => ?_)
      obtain ⟨i, hi, rfl⟩ := List.mem_map.1 hr
      obtain ⟨h3, h4⟩ := allS_mem.1 hs
      have h5 := asc_in h4 i hi
      rw [List.getD_eq_getElem?_getD, List.getElem?_eq_getElem (by omega)]
      exact List.getElem_mem _
where
  asc_in {n : Nat} : ∀ {l : List Int} {lo : Int}, AscS n lo l → ∀ i ∈ l, lo ≤ i ∧ i < (n : Int)
    | [], _, _, i, h => by cases h
    | x :: l, lo, h, i, hi => by
      rcases List.mem_cons.1 hi with rfl | hi
      · exact ⟨h.1, h.2.1⟩
      · have := asc_in h.2.2 i hi
        have := h.1
        omega

end Go.Proofs.YtncbigkkmgnkmaaGreatDoor
end

section
namespace Go.Proofs.YtncbigkkmgnkmaaGreatDoor
/-- Whether a part may replace another one, whatever they are used for. -/
def goodB (a b : DPart) : Bool := decide (a.price ≤ b.price) && decide (valP a 4 = valP b 4) && decide (valP a 5 = valP b 5) &&
  decide ((valP a 0).1 ≤ (valP b 0).1 ∧ (valP a 0).2 ≤ (valP b 0).2) && decide ((valP a 1).1 ≤ (valP b 1).1 ∧ (valP a 1).2 ≤ (valP b 1).2) && decide ((valP a 2).1 ≤ (valP b 2).1 ∧ (valP a 2).2 ≤ (valP b 2).2) && decide ((valP a 3).1 ≤ (valP b 3).1 ∧ (valP a 3).2 ≤ (valP b 3).2)
/-- Part n of a slot dominates part i. -/
def domB (l : List DPart) (n i : Nat) : Bool := decide (n ≠ i) && goodB (l.getD n default) (l.getD i default) && (decide (n < i) || !goodB (l.getD i default) (l.getD n default))
def freeB (l : List DPart) (i : Nat) : Bool := !((List.range l.length).any fun n => domB l n i)
def undomV (l : List DPart) : List Nat := (List.range l.length).filter (freeB l)
def domN (l : List DPart) (i : Nat) : Nat := ((List.range l.length).filter fun n => domB l n i).length
def FitB (rs : List DReq) : Prop := ∀ r ∈ rs, r.ge = false ∧ ∀ t ∈ r.ts, 0 ≤ t.f ∧ 0 ≤ t.q ∧ t.q ≤ 5
/-- Only the parts that nothing dominates. -/
def fewL (l : List DPart) : List DPart := (undomV l).map fun n => l.getD n default
def fewSl (sl : List (List DPart)) : List (List DPart) := sl.map fewL
theorem sizes_getD {sl : List (List DPart)} {i : Nat} (hi : i < sl.length) : (sizesV sl).getD i 0 = (sl.getD i []).length := by
  unfold sizesV
  rw [List.getD_eq_getElem?_getD, List.getElem?_map, List.getElem?_eq_getElem hi, List.getD_eq_getElem?_getD, List.getElem?_eq_getElem hi]
  rfl
theorem allC_ok {sl : List (List DPart)} {c : List Int} : c ∈ allC (sizesV sl) ↔ ChoiceOk sl c := by
  rw [allC_mem]
  unfold ChoiceOk
  rw [show (sizesV sl).length = sl.length by simp [sizesV]]
  constructor
  · rintro ⟨h1, h2⟩
    exact ⟨h1, fun i hi => by have := h2 i hi; rw [sizes_getD hi] at this; exact this⟩
  · rintro ⟨h1, h2⟩
    exact ⟨h1, fun i hi => by rw [sizes_getD hi]; exact h2 i hi⟩
end Go.Proofs.YtncbigkkmgnkmaaGreatDoor
end

section
namespace Go.Proofs.YtncbigkkmgnkmaaGreatDoor
/-- All choices that begin with some numbers, d slots being left. -/
def choV (sl : List (List DPart)) : Nat → List Int → List (List Int)
  | 0, xs => [xs]
  | d + 1, xs => ((List.range (sl.getD xs.length []).length).map fun (j : Nat) => choV sl d (xs ++ [(j : Int)])).flatten
def choUpto (sl : List (List DPart)) (d : Nat) (xs : List Int) (k : Nat) : List (List Int) := ((List.range k).map fun (j : Nat) => choV sl d (xs ++ [(j : Int)])).flatten
theorem choUpto_succ (sl : List (List DPart)) (d : Nat) (xs : List Int) (k : Nat) : choUpto sl d xs (k + 1) = choUpto sl d xs k ++ choV sl d (xs ++ [(k : Int)]) := by
  unfold choUpto
  rw [List.range_succ, List.map_append, List.flatten_append]
  simp
theorem choUpto_length {sl : List (List DPart)} {d M : Nat} (h : ∀ xs, (choV sl d xs).length ≤ M) (xs : List Int) : ∀ k, (choUpto sl d xs k).length ≤ k * M
  | 0 => by simp [choUpto]
  | k + 1 => by
    rw [choUpto_succ, List.length_append, Nat.succ_mul]
    have h1 := choUpto_length h xs k
    have h2 := h (xs ++ [(k : Int)])
    omega
theorem getD_len {sl : List (List DPart)} {M : Nat} (h : ∀ l ∈ sl, l.length ≤ M) (i : Nat) : (sl.getD i []).length ≤ M := by
  rcases Nat.lt_or_ge i sl.length with hi | hi
  · have e : sl.getD i [] = sl[i] := by simp [List.getD, hi]
    rw [e]; exact h _ (List.getElem_mem hi)
  · have e : sl.getD i [] = [] := by rw [List.getD_eq_getElem?_getD, List.getElem?_eq_none hi]; rfl
    rw [e]; exact Nat.zero_le _
theorem choV_length {sl : List (List DPart)} {M : Nat} (h : ∀ l ∈ sl, l.length ≤ M) : ∀ (d : Nat) (xs : List Int), (choV sl d xs).length ≤ M ^ d
  | 0, xs => by simp [choV]
  | d + 1, xs => by
    have h1 := choUpto_length (choV_length h d) xs (sl.getD xs.length []).length
    rw [Nat.pow_succ, Nat.mul_comm]
    exact Nat.le_trans h1 (Nat.mul_le_mul_right _ (getD_len h _))
theorem choV_few {sl : List (List DPart)} (h : ∀ l ∈ sl, l.length ≤ 6) (d : Nat) (hd : d ≤ 5) (xs : List Int) : (choV sl d xs).length ≤ 7776 :=
  Nat.le_trans (choV_length h d xs) (Nat.le_trans (Nat.pow_le_pow_right (by omega) hd) (by decide))
theorem cho_all (sl : List (List DPart)) : ∀ (d : Nat) (xs : List Int), xs.length + d = sl.length → choV sl d xs = (allC ((sizesV sl).drop xs.length)).map (xs ++ ·)
  | 0, xs, h => by
    rw [List.drop_eq_nil_of_le (by have e : (sizesV sl).length = sl.length := List.length_map _; omega)]
    simp [choV, allC]
  | d + 1, xs, h => by
    have hl : xs.length < (sizesV sl).length := by have e : (sizesV sl).length = sl.length := List.length_map _; omega
    have hd : (sizesV sl).drop xs.length = (sl.getD xs.length []).length :: (sizesV sl).drop (xs.length + 1) := by
      rw [List.drop_eq_getElem_cons hl]
      congr 1
      have h2 : xs.length < sl.length := by omega
      simp [sizesV, List.getD, h2]
    rw [hd, choV, allC, List.map_flatMap, List.flatMap_def]
    congr 1
    refine List.map_congr_left fun j _ => ?_
    rw [cho_all sl d (xs ++ [(j : Int)]) (by rw [List.length_append, List.length_singleton]; omega), List.length_append, List.length_singleton, List.map_map]
    refine List.map_congr_left fun l _ => ?_
    simp
theorem cho_nil (sl : List (List DPart)) : choV sl sl.length [] = allC (sizesV sl) := by
  rw [cho_all sl sl.length [] (by simp)]
  simp
/-- What has been found so far, and the numbers of a slice of it. -/
def bestL : Option (List Int × Int) → List Int
  | none => []
  | some x => x.1
end Go.Proofs.YtncbigkkmgnkmaaGreatDoor
end
