/- Plain facts on designs from stock: ranges of sums, margins, what a choice costs, the cheapest one, and the bound of prices. No program is in sight. -/
import Derived.Test.YtnfbdkdjoekifaaGreatDoorRows

section
namespace Go.Proofs.YtnfbdkdjoekifaaGreatDoor
structure DTerm where
  f : Int
  q : Int
structure DReq where
  ts : List DTerm
  ge : Bool
  lim : Int
  unit : Int
structure DPart where
  name : ByteArray
  price : Int
  vs : List (Int × Int)
instance : Inhabited DTerm := ⟨⟨0, 0⟩⟩
instance : Inhabited DReq := ⟨⟨[], false, 0, 0⟩⟩
instance : Inhabited DPart := ⟨⟨default, 0, []⟩⟩
/-- The range of a quantity of a part; its cost; the part of a slot by a choice's number. -/
def valP (p : DPart) (q : Int) : Int × Int := p.vs.getD q.toNat (0, 0)
def partC (idle price : Int) (p : DPart) : Int := p.price + idle * (valP p 2).2 + price * (valP p 3).2
def partAt (sl : List (List DPart)) (i : Nat) (n : Int) : DPart := (sl.getD i []).getD n.toNat default
def valsF (sl : List (List DPart)) (ch : List Int) : Nat → Int → Int × Int
  | 0, _ => (0, 0)
  | k + 1, q => ((valsF sl ch k q).1 + (valP (partAt sl k (ch.getD k 0)) q).1, (valsF sl ch k q).2 + (valP (partAt sl k (ch.getD k 0)) q).2)
def costF (idle price : Int) (sl : List (List DPart)) (ch : List Int) : Nat → Int
  | 0 => 0
  | k + 1 => costF idle price sl ch k + partC idle price (partAt sl k (ch.getD k 0))
def costC (idle price : Int) (sl : List (List DPart)) (ch : List Int) : Int := costF idle price sl ch ch.length
/-- The range of the sum of terms. -/
def stepT (v : Int → Int × Int) (o : Int × Int) (t : DTerm) : Int × Int := (o.1 + min (t.f * (v t.q).1) (t.f * (v t.q).2), o.2 + max (t.f * (v t.q).1) (t.f * (v t.q).2))
def sumT (ts : List DTerm) (v : Int → Int × Int) : Int × Int := ts.foldl (stepT v) (0, 0)
def marginV (r : DReq) (v : Int → Int × Int) : Int × Int := if r.ge then ((sumT r.ts v).1 - r.lim, (sumT r.ts v).2 - r.lim) else (r.lim - (sumT r.ts v).2, r.lim - (sumT r.ts v).1)
def marginsV (rs : List DReq) (sl : List (List DPart)) (ch : List Int) : List (Int × Int) := rs.map fun r => marginV r (valsF sl ch ch.length)
/-- 0: surely not, 1: undecided, 2: surely. -/
def meetsF : List (Int × Int) → Int → Int
  | [], a => a
  | m :: l, a => if m.2 < 0 then 0 else meetsF l (if m.1 < 0 then 1 else a)
def meetsV (rs : List DReq) (sl : List (List DPart)) (ch : List Int) : Int := meetsF (marginsV rs sl ch) 2

theorem sumT_snoc (ts : List DTerm) (t : DTerm) (v : Int → Int × Int) : sumT (ts ++ [t]) v = stepT v (sumT ts v) t := by
  unfold sumT
  rw [List.foldl_append]
  rfl
/-- Whatever the values are in their ranges, the sum is in its own. -/
def sumX (x : Int → Int) : List DTerm → Int
  | [] => 0
  | t :: ts => t.f * x t.q + sumX x ts
def diffX (r : DReq) (x : Int → Int) : Int := if r.ge then sumX x r.ts - r.lim else r.lim - sumX x r.ts
theorem meetsF_yes : ∀ (l : List (Int × Int)) (a : Int), (meetsF l a = 2 → a = 2 ∧ ∀ m ∈ l, 0 ≤ m.1 ∨ m.2 < 0) ∧ (a = 2 → (∀ m ∈ l, 0 ≤ m.1 ∧ 0 ≤ m.2) → meetsF l a = 2)
  | [], a => ⟨fun h => ⟨h, fun m hm => by cases hm⟩, fun h _ => h⟩
  | m :: l, a => by
    obtain ⟨h1, h2⟩ := meetsF_yes l (if m.1 < 0 then 1 else a)
    rw [meetsF]
    constructor
    · intro h
      split at h
      · omega
      · rename_i hm
        obtain ⟨h3, h4⟩ := h1 h
        split at h3
        · omega
        · rename_i hn
          refine ⟨h3, fun k hk => ?_⟩
          rcases List.mem_cons.1 hk with rfl | hk
          · exact .inl (by omega)
          · exact h4 k hk
    · intro h h5
      have h6 := h5 m (List.mem_cons_self ..)
      rw [if_neg (by omega)]
      rw [if_neg (by omega)] at h2 ⊢
      exact h2 h fun k hk => h5 k (List.mem_cons_of_mem _ hk)
theorem meetsF_hi : ∀ {l : List (Int × Int)} {a : Int}, meetsF l a ≠ 0 → ∀ m ∈ l, 0 ≤ m.2
  | [], _, _, m, hm => by cases hm
  | k :: l, a, h, m, hm => by
    rw [meetsF] at h
    split at h
    · exact absurd rfl h
    · rename_i hk
      rcases List.mem_cons.1 hm with rfl | hm
      · omega
      · exact meetsF_hi h m hm
theorem meetsF_no : ∀ {l : List (Int × Int)} {a : Int}, a ≠ 0 → meetsF l a = 0 → ∃ m ∈ l, m.2 < 0
  | [], _, h0, h => absurd h h0
  | k :: l, a, h0, h => by
    rw [meetsF] at h
    split at h
    · rename_i hk; exact ⟨k, List.mem_cons_self .., hk⟩
    · obtain ⟨m, hm, h1⟩ := meetsF_no (l := l) (by split <;> omega) h
      exact ⟨m, List.mem_cons_of_mem _ hm, h1⟩
theorem meetsF_range : ∀ {l : List (Int × Int)} {a : Int}, 0 ≤ a ∧ a ≤ 2 → 0 ≤ meetsF l a ∧ meetsF l a ≤ 2
  | [], _, h => h
  | k :: l, a, h => by
    rw [meetsF]
    split
    · omega
    · exact meetsF_range (by split <;> omega)
theorem meets_yes {rs : List DReq} {sl : List (List DPart)} {ch : List Int} : meetsV rs sl ch = 2 ↔ ∀ r ∈ rs, 0 ≤ (marginV r (valsF sl ch ch.length)).1 ∧ 0 ≤ (marginV r (valsF sl ch ch.length)).2 := by
  unfold meetsV marginsV
  constructor
  · intro h r hr
    have h1 := ((meetsF_yes _ _).1 h).2 _ (List.mem_map.2 ⟨r, hr, rfl⟩)
    have h2 := meetsF_hi (by rw [h]; decide) _ (List.mem_map.2 ⟨r, hr, rfl⟩)
    omega
  · intro h
    refine (meetsF_yes _ _).2 rfl fun m hm => ?_
    obtain ⟨r, hr, rfl⟩ := List.mem_map.1 hm
    exact h r hr
/-- Fewer requirements are met as well. -/
theorem meets_sub {rs qs : List DReq} {sl : List (List DPart)} {ch : List Int} (h : meetsV rs sl ch = 2) (hs : ∀ r ∈ qs, r ∈ rs) : meetsV qs sl ch = 2 := meets_yes.2 fun r hr => meets_yes.1 h r (hs r hr)
/-- A choice's ranges are ranges. -/
def PartOk (p : DPart) : Prop := p.vs.length = 6 ∧ (0 ≤ p.price ∧ p.price ≤ 1000000) ∧ ∀ q : Int, 0 ≤ (valP p q).1 ∧ (valP p q).1 ≤ (valP p q).2 ∧ (valP p q).2 ≤ 1000000
def SlotsOk (sl : List (List DPart)) : Prop := (0 < sl.length ∧ sl.length ≤ 5) ∧ ∀ l ∈ sl, (0 < l.length ∧ l.length ≤ 6) ∧ ∀ p ∈ l, PartOk p
def ChoiceOk (sl : List (List DPart)) (ch : List Int) : Prop := ch.length = sl.length ∧ ∀ i, i < sl.length → 0 ≤ ch.getD i 0 ∧ ch.getD i 0 < ((sl.getD i []).length : Int)
theorem part_mem {sl : List (List DPart)} (h : SlotsOk sl) {ch : List Int} (hc : ChoiceOk sl ch) {i : Nat} (hi : i < sl.length) : partAt sl i (ch.getD i 0) ∈ sl.getD i [] ∧ sl.getD i [] ∈ sl ∧ PartOk (partAt sl i (ch.getD i 0)) := by
  have h1 := hc.2 i hi
  have h2 : sl.getD i [] ∈ sl := by
    rw [List.getD_eq_getElem?_getD, List.getElem?_eq_getElem hi]
    exact List.getElem_mem _
  have h3 : partAt sl i (ch.getD i 0) ∈ sl.getD i [] := by
    unfold partAt
    generalize sl.getD i [] = l at *
    rw [List.getD_eq_getElem?_getD, List.getElem?_eq_getElem (by omega)]
    exact List.getElem_mem _
  exact ⟨h3, h2, (h.2 _ h2).2 _ h3⟩
theorem vals_bd {sl : List (List DPart)} (h : SlotsOk sl) {ch : List Int} (hc : ChoiceOk sl ch) (q : Int) : ∀ {k : Nat}, k ≤ sl.length → 0 ≤ (valsF sl ch k q).1 ∧ (valsF sl ch k q).1 ≤ (valsF sl ch k q).2 ∧ (valsF sl ch k q).2 ≤ k * 1000000
  | 0, _ => by simp [valsF]
  | k + 1, hk => by
    have h1 := vals_bd h hc q (k := k) (by omega)
    obtain ⟨_, _, _, _, h2⟩ := part_mem h hc (i := k) (by omega)
    have h2 := h2 q
    rw [valsF]
    push_cast
    omega

/-- What a requirement needs of a part, and its limit: both with the sign that makes it an upper bound. -/
def needV (r : DReq) (v : Int → Int × Int) : Int := if r.ge then -(sumT r.ts v).1 else (sumT r.ts v).2
def limitV (r : DReq) : Int := if r.ge then -r.lim else r.lim
def needF (r : DReq) (sl : List (List DPart)) (ch : List Int) : Nat → Int
  | 0 => 0
  | k + 1 => needF r sl ch k + needV r (valP (partAt sl k (ch.getD k 0)))
/-- The prices of what is needed. -/
def payV : List DReq → List Int → (DReq → Int) → Int
  | r :: rs, p :: ps, f => p * f r + payV rs ps f
  | _, _, _ => 0
def pricedC (idle price : Int) (rs : List DReq) (ps : List Int) (p : DPart) : Int := partC idle price p + payV rs ps (fun r => needV r (valP p))
def minL : List Int → Int
  | [] => 0
  | [x] => x
  | x :: y :: l => min x (minL (y :: l))
theorem minL_mem : ∀ {l : List Int}, l ≠ [] → minL l ∈ l
  | [], h => absurd rfl h
  | [y], _ => by simp [minL]
  | y :: z :: l, _ => by
    rw [minL]
    have := minL_mem (l := z :: l) (by simp)
    rcases Int.le_total y (minL (z :: l)) with h | h
    · rw [Int.min_eq_left h]; exact List.mem_cons_self ..
    · rw [Int.min_eq_right h]; exact List.mem_cons_of_mem _ this
def boundF (idle price : Int) (rs : List DReq) (ps : List Int) : List (List DPart) → Int
  | [] => 0
  | l :: sl => minL (l.map (pricedC idle price rs ps)) + boundF idle price rs ps sl
def boundV (idle price : Int) (rs : List DReq) (ps : List Int) (sl : List (List DPart)) : Int := boundF idle price rs ps sl - payV rs ps limitV
theorem boundF_app (idle price : Int) (rs : List DReq) (ps : List Int) (a b : List (List DPart)) : boundF idle price rs ps (a ++ b) = boundF idle price rs ps a + boundF idle price rs ps b := by
  induction a with
  | nil => simp [boundF]
  | cons l a ih => rw [List.cons_append, boundF, boundF, ih]; omega
theorem boundF_step {idle price : Int} {rs : List DReq} {ps : List Int} {sl : List (List DPart)} {k : Nat} (hk : k < sl.length) : boundF idle price rs ps (sl.take (k + 1)) = boundF idle price rs ps (sl.take k) + minL ((sl.getD k []).map (pricedC idle price rs ps)) := by
  rw [List.take_add_one, List.getElem?_eq_getElem hk, List.getD_eq_getElem?_getD, List.getElem?_eq_getElem hk, Option.toList_some, boundF_app]
  simp [boundF]
/-- The first of the cheapest of the choices that surely meet all requirements. -/
def cheapS (ok : List Int → Bool) (cost : List Int → Int) (b : Option (List Int × Int)) (c : List Int) : Option (List Int × Int) := if ok c && (match b with | none => true | some x => decide (cost c < x.2)) then some (c, cost c) else b
def cheapF (ok : List Int → Bool) (cost : List Int → Int) (l : List (List Int)) (b : Option (List Int × Int)) : Option (List Int × Int) := l.foldl (cheapS ok cost) b
theorem cheapF_app (ok : List Int → Bool) (cost : List Int → Int) (l m : List (List Int)) (b : Option (List Int × Int)) : cheapF ok cost (l ++ m) b = cheapF ok cost m (cheapF ok cost l b) := by
  unfold cheapF
  rw [List.foldl_append]
/-- What has been found behind some choices: nothing if none meets; else the first of the cheapest. -/
def CheapIs (ok : List Int → Bool) (cost : List Int → Int) (l : List (List Int)) : Option (List Int × Int) → Prop
  | none => ∀ c ∈ l, ok c = false
  | some (c, n) => ok c = true ∧ cost c = n ∧ ∃ a b, l = a ++ c :: b ∧ (∀ x ∈ a, ok x = true → n < cost x) ∧ ∀ x ∈ b, ok x = true → n ≤ cost x
theorem cheap_step {ok : List Int → Bool} {cost : List Int → Int} {l : List (List Int)} {b : Option (List Int × Int)} (h : CheapIs ok cost l b) (c : List Int) : CheapIs ok cost (l ++ [c]) (cheapF ok cost [c] b) := by
  show CheapIs ok cost (l ++ [c]) (cheapS ok cost b c)
  unfold cheapS
  cases hc : ok c with
  | false =>
    rw [Bool.false_and, if_neg (by simp)]
    cases b with
    | none =>
      intro x hx
      rcases List.mem_append.1 hx with hx | hx
      · exact h x hx
      · rw [List.mem_singleton] at hx; rw [hx]; exact hc
    | some x =>
      obtain ⟨y, n⟩ := x
      obtain ⟨h1, h2, a, b, rfl, h3, h4⟩ := h
      refine ⟨h1, h2, a, b ++ [c], by simp, h3, fun x hx hk => ?_⟩
      rcases List.mem_append.1 hx with hx | hx
      · exact h4 x hx hk
      · rw [List.mem_singleton] at hx; rw [hx, hc] at hk; cases hk
  | true =>
    rw [Bool.true_and]
    cases b with
    | none =>
      rw [if_pos rfl]
      exact ⟨hc, rfl, l, [], rfl, (fun x hx hk => by rw [h x hx] at hk; cases hk), (fun x hx => by cases hx)⟩
    | some x =>
      obtain ⟨y, n⟩ := x
      obtain ⟨h1, h2, a, b, rfl, h3, h4⟩ := h
      simp only [decide_eq_true_eq]
      split
      · rename_i hlt
        refine ⟨hc, rfl, a ++ y :: b, [], rfl, fun x hx hk => ?_, fun x hx => by cases hx⟩
        rcases List.mem_append.1 hx with hx | hx
        · have := h3 x hx hk; omega
        · rcases List.mem_cons.1 hx with rfl | hx
          · omega
          · have := h4 x hx hk; omega
      · rename_i hge
        refine ⟨h1, h2, a, b ++ [c], by simp, h3, fun x hx hk => ?_⟩
        rcases List.mem_append.1 hx with hx | hx
        · exact h4 x hx hk
        · rw [List.mem_singleton] at hx; rw [hx]; omega
theorem cheap_is (ok : List Int → Bool) (cost : List Int → Int) : ∀ (l m : List (List Int)) (b : Option (List Int × Int)), CheapIs ok cost m b → CheapIs ok cost (m ++ l) (cheapF ok cost l b)
  | [], m, b, h => by rw [List.append_nil]; exact h
  | c :: l, m, b, h => by
    have h1 := cheap_is ok cost l (m ++ [c]) _ (cheap_step h c)
    rw [List.append_assoc, List.singleton_append] at h1
    rw [show cheapF ok cost (c :: l) b = cheapF ok cost l (cheapF ok cost [c] b) from cheapF_app ok cost [c] l b]
    exact h1
def cheapV (ok : List Int → Bool) (cost : List Int → Int) (l : List (List Int)) : Option (List Int × Int) := cheapF ok cost l none
theorem cheapV_is (ok : List Int → Bool) (cost : List Int → Int) (l : List (List Int)) : CheapIs ok cost l (cheapV ok cost l) := by
  have := cheap_is ok cost l [] none (fun c h => by cases h)
  rwa [List.nil_append] at this
theorem cheapV_none {ok : List Int → Bool} {cost : List Int → Int} {l : List (List Int)} : cheapV ok cost l = none ↔ ∀ c ∈ l, ok c = false := by
  have h := cheapV_is ok cost l
  cases hc : cheapV ok cost l with
  | none => rw [hc] at h; exact ⟨fun _ => h, fun _ => rfl⟩
  | some x =>
    rw [hc] at h
    obtain ⟨y, n⟩ := x
    obtain ⟨h1, h2, a, b, h5, h3, h4⟩ := h
    refine ⟨(fun h => by cases h), fun h => ?_⟩
    have := h y (by rw [h5]; simp)
    rw [h1] at this; cases this
theorem cheapV_least {ok : List Int → Bool} {cost : List Int → Int} {l : List (List Int)} {c : List Int} {n : Int} (h : cheapV ok cost l = some (c, n)) : c ∈ l ∧ ok c = true ∧ cost c = n ∧ ∀ x ∈ l, ok x = true → n ≤ cost x := by
  have h0 := cheapV_is ok cost l
  rw [h] at h0
  obtain ⟨h1, h2, a, b, rfl, h3, h4⟩ := h0
  refine ⟨by simp, h1, h2, fun x hx hk => ?_⟩
  rcases List.mem_append.1 hx with hx | hx
  · exact Int.le_of_lt (h3 x hx hk)
  · rcases List.mem_cons.1 hx with rfl | hx
    · omega
    · exact h4 x hx hk

end Go.Proofs.YtnfbdkdjoekifaaGreatDoor
end
