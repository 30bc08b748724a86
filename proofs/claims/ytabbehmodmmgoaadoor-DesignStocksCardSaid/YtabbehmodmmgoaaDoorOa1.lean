/- Plain facts on designs from stock: ranges of sums, margins, what a choice costs, the cheapest one, and the bound of prices. No program is in sight. -/
import Derived.Test.YtabbehmodmmgoaaDoorRows

section
namespace Go.Proofs.YtabbehmodmmgoaaDoor
structure DTerm where
  f : Int
  q : Int
structure DReq where
  ts : List DTerm
  ge : Bool
  lim : Int
  unit : Int
structure DPart where
  name : ByteArray
  price : Int
  vs : List (Int × Int)
instance : Inhabited DTerm := ⟨⟨0, 0⟩⟩
instance : Inhabited DReq := ⟨⟨[], false, 0, 0⟩⟩
instance : Inhabited DPart := ⟨⟨default, 0, []⟩⟩
/-- The range of a quantity of a part; its cost; the part of a slot by a choice's number. -/
def valP (p : DPart) (q : Int) : Int × Int := p.vs.getD q.toNat (0, 0)
def partC (idle price : Int) (p : DPart) : Int := p.price + idle * (valP p 2).2 + price * (valP p 3).2
def partAt (sl : List (List DPart)) (i : Nat) (n : Int) : DPart := (sl.getD i []).getD n.toNat default
def valsF (sl : List (List DPart)) (ch : List Int) : Nat → Int → Int × Int
  | 0, _ => (0, 0)
  | k + 1, q => ((valsF sl ch k q).1 + (valP (partAt sl k (ch.getD k 0)) q).1, (valsF sl ch k q).2 + (valP (partAt sl k (ch.getD k 0)) q).2)
def costF (idle price : Int) (sl : List (List DPart)) (ch : List Int) : Nat → Int
  | 0 => 0
  | k + 1 => costF idle price sl ch k + partC idle price (partAt sl k (ch.getD k 0))
def costC (idle price : Int) (sl : List (List DPart)) (ch : List Int) : Int := costF idle price sl ch ch.length
/-- The range of the sum of terms. -/
def stepT (v : Int → Int × Int) (o : Int × Int) (t : DTerm) : Int × Int := (o.1 + min (t.f * (v t.q).1) (t.f * (v t.q).2), o.2 + max (t.f * (v t.q).1) (t.f * (v t.q).2))
def sumT (ts : List DTerm) (v : Int → Int × Int) : Int × Int := ts.foldl (stepT v) (0, 0)
def marginV (r : DReq) (v : Int → Int × Int) : Int × Int := if r.ge then ((sumT r.ts v).1 - r.lim, (sumT r.ts v).2 - r.lim) else (r.lim - (sumT r.ts v).2, r.lim - (sumT r.ts v).1)
def marginsV (rs : List DReq) (sl : List (List DPart)) (ch : List Int) : List (Int × Int) := rs.map fun r => marginV r (valsF sl ch ch.length)
/-- 0: surely not, 1: undecided, 2: surely. -/
def meetsF : List (Int × Int) → Int → Int
  | [], a => a
  | m :: l, a => if m.2 < 0 then 0 else meetsF l (if m.1 < 0 then 1 else a)
def meetsV (rs : List DReq) (sl : List (List DPart)) (ch : List Int) : Int := meetsF (marginsV rs sl ch) 2

theorem sumT_nil (v : Int → Int × Int) : sumT [] v = (0, 0) := rfl
theorem sumT_snoc (ts : List DTerm) (t : DTerm) (v : Int → Int × Int) : sumT (ts ++ [t]) v = stepT v (sumT ts v) t := by
  unfold sumT
  rw [List.foldl_append]
  rfl
theorem foldT (v : Int → Int × Int) : ∀ (ts : List DTerm) (o : Int × Int), ts.foldl (stepT v) o = (o.1 + (sumT ts v).1, o.2 + (sumT ts v).2)
  | [], o => by simp [sumT]
  | t :: ts, o => by
    unfold sumT
    rw [List.foldl_cons, List.foldl_cons, foldT v ts, foldT v ts (stepT v (0, 0) t)]
    unfold stepT
    ext <;> simp <;> omega
theorem sumT_cons (t : DTerm) (ts : List DTerm) (v : Int → Int × Int) : sumT (t :: ts) v = (min (t.f * (v t.q).1) (t.f * (v t.q).2) + (sumT ts v).1, max (t.f * (v t.q).1) (t.f * (v t.q).2) + (sumT ts v).2) := by
  rw [sumT, List.foldl_cons, foldT]
  unfold stepT
  ext <;> simp
/-- Whatever the values are in their ranges, the sum is in its own. -/
def sumX (x : Int → Int) : List DTerm → Int
  | [] => 0
  | t :: ts => t.f * x t.q + sumX x ts
theorem mul_range {f a b x : Int} (h1 : a ≤ x) (h2 : x ≤ b) : min (f * a) (f * b) ≤ f * x ∧ f * x ≤ max (f * a) (f * b) := by
  rcases Int.le_total 0 f with h | h
  · have := Int.mul_le_mul_of_nonneg_left h1 h
    have := Int.mul_le_mul_of_nonneg_left h2 h
    omega
  · have := Int.mul_le_mul_of_nonpos_left h h1
    have := Int.mul_le_mul_of_nonpos_left h h2
    omega
theorem sum_in {v : Int → Int × Int} {x : Int → Int} (h : ∀ q, (v q).1 ≤ x q ∧ x q ≤ (v q).2) : ∀ ts : List DTerm, (sumT ts v).1 ≤ sumX x ts ∧ sumX x ts ≤ (sumT ts v).2
  | [] => by simp [sumT, sumX]
  | t :: ts => by
    have h1 := sum_in h ts
    have h2 := mul_range (f := t.f) (h t.q).1 (h t.q).2
    rw [sumT_cons, sumX]
    simp only
    omega
def diffX (r : DReq) (x : Int → Int) : Int := if r.ge then sumX x r.ts - r.lim else r.lim - sumX x r.ts
theorem margin_in {v : Int → Int × Int} {x : Int → Int} (h : ∀ q, (v q).1 ≤ x q ∧ x q ≤ (v q).2) (r : DReq) : (marginV r v).1 ≤ diffX r x ∧ diffX r x ≤ (marginV r v).2 := by
  have := sum_in h r.ts
  unfold marginV diffX
  split
  · simp only; omega
  · simp only; omega
theorem meetsF_yes : ∀ (l : List (Int × Int)) (a : Int), (meetsF l a = 2 → a = 2 ∧ ∀ m ∈ l, 0 ≤ m.1 ∨ m.2 < 0) ∧ (a = 2 → (∀ m ∈ l, 0 ≤ m.1 ∧ 0 ≤ m.2) → meetsF l a = 2)
  | [], a => ⟨fun h => ⟨h, fun m hm => by cases hm⟩, fun h _ => h⟩
  | m :: l, a => by
    obtain ⟨h1, h2⟩ := meetsF_yes l (if m.1 < 0 then 1 else a)
    rw [meetsF]
    constructor
    · intro h
      split at h
      · omega
      · rename_i hm
        obtain ⟨h3, h4⟩ := h1 h
        split at h3
        · omega
        · rename_i hn
          refine ⟨h3, fun k hk => ?_⟩
          rcases List.mem_cons.1 hk with rfl | hk
          · exact .inl (by omega)
          · exact h4 k hk
    · intro h h5
      have h6 := h5 m (List.mem_cons_self ..)
      rw [if_neg (by omega)]
      rw [if_neg (by omega)] at h2 ⊢
      exact h2 h fun k hk => h5 k (List.mem_cons_of_mem _ hk)
theorem meetsF_hi : ∀ {l : List (Int × Int)} {a : Int}, meetsF l a ≠ 0 → ∀ m ∈ l, 0 ≤ m.2
  | [], _, _, m, hm => by cases hm
  | k :: l, a, h, m, hm => by
    rw [meetsF] at h
    split at h
    · exact absurd rfl h
    · rename_i hk
      rcases List.mem_cons.1 hm with rfl | hm
      · omega
      · exact meetsF_hi h m hm
theorem meetsF_no : ∀ {l : List (Int × Int)} {a : Int}, a ≠ 0 → meetsF l a = 0 → ∃ m ∈ l, m.2 < 0
  | [], _, h0, h => absurd h h0
  | k :: l, a, h0, h => by
    rw [meetsF] at h
    split at h
    · rename_i hk; exact ⟨k, List.mem_cons_self .., hk⟩
    · obtain ⟨m, hm, h1⟩ := meetsF_no (l := l) (by split <;> omega) h
      exact ⟨m, List.mem_cons_of_mem _ hm, h1⟩
theorem meetsF_range : ∀ {l : List (Int × Int)} {a : Int}, 0 ≤ a ∧ a ≤ 2 → 0 ≤ meetsF l a ∧ meetsF l a ≤ 2
  | [], _, h => h
  | k :: l, a, h => by
    rw [meetsF]
    split
    · omega
    · exact meetsF_range (by split <;> omega)
theorem meets_yes {rs : List DReq} {sl : List (List DPart)} {ch : List Int} : meetsV rs sl ch = 2 ↔ ∀ r ∈ rs, 0 ≤ (marginV r (valsF sl ch ch.length)).1 ∧ 0 ≤ (marginV r (valsF sl ch ch.length)).2 := by
  unfold meetsV marginsV
  constructor
  · intro h r hr
    have h1 := ((meetsF_yes _ _).1 h).2 _ (List.mem_map.2 ⟨r, hr, rfl⟩)
    have h2 := meetsF_hi (by rw [h]; decide) _ (List.mem_map.2 ⟨r, hr, rfl⟩)
    omega
  · intro h
    refine (meetsF_yes _ _).2 rfl fun m hm => ?_
    obtain ⟨r, hr, rfl⟩ := List.mem_map.1 hm
    exact h r hr
/-- Fewer requirements are met as well. -/
theorem meets_sub {rs qs : List DReq} {sl : List (List DPart)} {ch : List Int} (h : meetsV rs sl ch = 2) (hs : ∀ r ∈ qs, r ∈ rs) : meetsV qs sl ch = 2 := meets_yes.2 fun r hr => meets_yes.1 h r (hs r hr)
/-- A choice's ranges are ranges. -/
def PartOk (p : DPart) : Prop := p.vs.length = 6 ∧ (0 ≤ p.price ∧ p.price ≤ 1000000) ∧ ∀ q : Int, 0 ≤ (valP p q).1 ∧ (valP p q).1 ≤ (valP p q).2 ∧ (valP p q).2 ≤ 1000000
def SlotsOk (sl : List (List DPart)) : Prop := (0 < sl.length ∧ sl.length ≤ 5) ∧ ∀ l ∈ sl, (0 < l.length ∧ l.length ≤ 6) ∧ ∀ p ∈ l, PartOk p
def ChoiceOk (sl : List (List DPart)) (ch : List Int) : Prop := ch.length = sl.length ∧ ∀ i, i < sl.length → 0 ≤ ch.getD i 0 ∧ ch.getD i 0 < ((sl.getD i []).length : Int)
theorem part_mem {sl : List (List DPart)} (h : SlotsOk sl) {ch : List Int} (hc : ChoiceOk sl ch) {i : Nat} (hi : i < sl.length) : partAt sl i (ch.getD i 0) ∈ sl.getD i [] ∧ sl.getD i [] ∈ sl ∧ PartOk (partAt sl i (ch.getD i 0)) := by
  have h1 := hc.2 i hi
  have h2 : sl.getD i [] ∈ sl := by
    rw [List.getD_eq_getElem?_getD, List.getElem?_eq_getElem hi]
    exact List.getElem_mem _
  have h3 : partAt sl i (ch.getD i 0) ∈ sl.getD i [] := by
    unfold partAt
    generalize sl.getD i [] = l at *
    rw [List.getD_eq_getElem?_getD, List.getElem?_eq_getElem (by omega)]
    exact List.getElem_mem _
  exact ⟨h3, h2, (h.2 _ h2).2 _ h3⟩
theorem vals_bd {sl : List (List DPart)} (h : SlotsOk sl) {ch : List Int} (hc : ChoiceOk sl ch) (q : Int) : ∀ {k : Nat}, k ≤ sl.length → 0 ≤ (valsF sl ch k q).1 ∧ (valsF sl ch k q).1 ≤ (valsF sl ch k q).2 ∧ (valsF sl ch k q).2 ≤ k * 1000000
  | 0, _ => by simp [valsF]
  | k + 1, hk => by
    have h1 := vals_bd h hc q (k := k) (by omega)
    obtain ⟨_, _, _, _, h2⟩ := part_mem h hc (i := k) (by omega)
    have h2 := h2 q
    rw [valsF]
    push_cast
    omega

/-- What a requirement needs of a part, and its limit: both with the sign that makes it an upper bound. -/
def needV (r : DReq) (v : Int → Int × Int) : Int := if r.ge then -(sumT r.ts v).1 else (sumT r.ts v).2
def limitV (r : DReq) : Int := if r.ge then -r.lim else r.lim
theorem margin_need (r : DReq) (v : Int → Int × Int) : (marginV r v).1 = limitV r - needV r v := by
  unfold marginV limitV needV
  split
  · simp only; omega
  · simp only
theorem mul_minmax {f a b c d : Int} (h1 : a ≤ b) (h2 : c ≤ d) : min (f * (a + c)) (f * (b + d)) = min (f * a) (f * b) + min (f * c) (f * d) ∧ max (f * (a + c)) (f * (b + d)) = max (f * a) (f * b) + max (f * c) (f * d) := by
  rw [Int.mul_add, Int.mul_add]
  rcases Int.le_total 0 f with h | h
  · have := Int.mul_le_mul_of_nonneg_left h1 h
    have := Int.mul_le_mul_of_nonneg_left h2 h
    omega
  · have := Int.mul_le_mul_of_nonpos_left h h1
    have := Int.mul_le_mul_of_nonpos_left h h2
    omega
theorem sumT_add {v w : Int → Int × Int} (hv : ∀ q, (v q).1 ≤ (v q).2) (hw : ∀ q, (w q).1 ≤ (w q).2) : ∀ ts : List DTerm, sumT ts (fun q => ((v q).1 + (w q).1, (v q).2 + (w q).2)) = ((sumT ts v).1 + (sumT ts w).1, (sumT ts v).2 + (sumT ts w).2)
  | [] => by simp [sumT]
  | t :: ts => by
    rw [sumT_cons, sumT_cons, sumT_cons, sumT_add hv hw ts]
    have h := mul_minmax (f := t.f) (hv t.q) (hw t.q)
    simp only
    rw [h.1, h.2]
    ext <;> simp only <;> omega
theorem needV_add (r : DReq) {v w : Int → Int × Int} (hv : ∀ q, (v q).1 ≤ (v q).2) (hw : ∀ q, (w q).1 ≤ (w q).2) : needV r (fun q => ((v q).1 + (w q).1, (v q).2 + (w q).2)) = needV r v + needV r w := by
  unfold needV
  rw [sumT_add hv hw]
  split
  · simp only; omega
  · rfl
theorem sumT_zero : ∀ ts : List DTerm, sumT ts (fun _ => (0, 0)) = (0, 0)
  | [] => rfl
  | t :: ts => by rw [sumT_cons, sumT_zero ts]; simp
theorem needV_zero (r : DReq) : needV r (fun _ => (0, 0)) = 0 := by
  unfold needV
  rw [sumT_zero]
  simp
def needF (r : DReq) (sl : List (List DPart)) (ch : List Int) : Nat → Int
  | 0 => 0
  | k + 1 => needF r sl ch k + needV r (valP (partAt sl k (ch.getD k 0)))
theorem need_sum {sl : List (List DPart)} (h : SlotsOk sl) {ch : List Int} (hc : ChoiceOk sl ch) (r : DReq) : ∀ {k : Nat}, k ≤ sl.length → needV r (valsF sl ch k) = needF r sl ch k
  | 0, _ => by
    rw [show valsF sl ch 0 = fun _ => (0, 0) from rfl, needV_zero]
    rfl
  | k + 1, hk => by
    obtain ⟨_, _, _, _, h2⟩ := part_mem h hc (i := k) (by omega)
    rw [show valsF sl ch (k + 1) = fun q => ((valsF sl ch k q).1 + (valP (partAt sl k (ch.getD k 0)) q).1, (valsF sl ch k q).2 + (valP (partAt sl k (ch.getD k 0)) q).2) from rfl,
      needV_add r (fun q => (vals_bd h hc q (k := k) (by omega)).2.1) (fun q => (h2 q).2.1), need_sum h hc r (k := k) (by omega), needF]
/-- The prices of what is needed. -/
def payV : List DReq → List Int → (DReq → Int) → Int
  | r :: rs, p :: ps, f => p * f r + payV rs ps f
  | _, _, _ => 0
theorem payV_add : ∀ (rs : List DReq) (ps : List Int) (f g : DReq → Int), payV rs ps (fun r => f r + g r) = payV rs ps f + payV rs ps g
  | [], _, _, _ => by simp [payV]
  | _ :: _, [], _, _ => by simp [payV]
  | r :: rs, p :: ps, f, g => by
    rw [payV, payV, payV, payV_add rs ps, Int.mul_add]
    omega
theorem payV_zero : ∀ (rs : List DReq) (ps : List Int), payV rs ps (fun _ => 0) = 0
  | [], _ => by simp [payV]
  | _ :: _, [] => by simp [payV]
  | r :: rs, p :: ps => by rw [payV, payV_zero rs ps]; simp
theorem payV_le : ∀ {rs : List DReq} {ps : List Int} {f g : DReq → Int}, (∀ p ∈ ps, 0 ≤ p) → (∀ r ∈ rs, f r ≤ g r) → payV rs ps f ≤ payV rs ps g
  | [], _, _, _, _, _ => by simp [payV]
  | _ :: _, [], _, _, _, _ => by simp [payV]
  | r :: rs, p :: ps, f, g, hp, hf => by
    have h1 := payV_le (rs := rs) (ps := ps) (f := f) (g := g) (fun p h => hp p (List.mem_cons_of_mem _ h)) (fun r h => hf r (List.mem_cons_of_mem _ h))
    have h2 := Int.mul_le_mul_of_nonneg_left (hf r (List.mem_cons_self ..)) (hp p (List.mem_cons_self ..))
    rw [payV, payV]
    omega
def pricedC (idle price : Int) (rs : List DReq) (ps : List Int) (p : DPart) : Int := partC idle price p + payV rs ps (fun r => needV r (valP p))
def minL : List Int → Int
  | [] => 0
  | [x] => x
  | x :: y :: l => min x (minL (y :: l))
theorem minL_le : ∀ {l : List Int}, ∀ x ∈ l, minL l ≤ x
  | [], x, h => by cases h
  | [y], x, h => by rw [List.mem_singleton] at h; subst h; exact Int.le_refl _
  | y :: z :: l, x, h => by
    rw [minL]
    rcases List.mem_cons.1 h with rfl | h
    · omega
    · have := minL_le (l := z :: l) x h
      omega
theorem minL_mem : ∀ {l : List Int}, l ≠ [] → minL l ∈ l
  | [], h => absurd rfl h
  | [y], _ => by simp [minL]
  | y :: z :: l, _ => by
    rw [minL]
    have := minL_mem (l := z :: l) (by simp)
    rcases Int.le_total y (minL (z :: l)) with h | h
    · rw [Int.min_eq_left h]; exact List.mem_cons_self ..
    · rw [Int.min_eq_right h]; exact List.mem_cons_of_mem _ this
def boundF (idle price : Int) (rs : List DReq) (ps : List Int) : List (List DPart) → Int
  | [] => 0
  | l :: sl => minL (l.map (pricedC idle price rs ps)) + boundF idle price rs ps sl
def boundV (idle price : Int) (rs : List DReq) (ps : List Int) (sl : List (List DPart)) : Int := boundF idle price rs ps sl - payV rs ps limitV
theorem boundF_app (idle price : Int) (rs : List DReq) (ps : List Int) (a b : List (List DPart)) : boundF idle price rs ps (a ++ b) = boundF idle price rs ps a + boundF idle price rs ps b := by
  induction a with
  | nil => simp [boundF]
  | cons l a ih => rw [List.cons_append, boundF, boundF, ih]; omega
theorem boundF_step {idle price : Int} {rs : List DReq} {ps : List Int} {sl : List (List DPart)} {k : Nat} (hk : k < sl.length) : boundF idle price rs ps (sl.take (k + 1)) = boundF idle price rs ps (sl.take k) + minL ((sl.getD k []).map (pricedC idle price rs ps)) := by
  rw [List.take_add_one, List.getElem?_eq_getElem hk, List.getD_eq_getElem?_getD, List.getElem?_eq_getElem hk, Option.toList_some, boundF_app]
  simp [boundF]
theorem bound_upto {idle price : Int} {rs : List DReq} {ps : List Int} {sl : List (List DPart)} (h : SlotsOk sl) {ch : List Int} (hc : ChoiceOk sl ch) : ∀ {k : Nat}, k ≤ sl.length →
    boundF idle price rs ps (sl.take k) ≤ costF idle price sl ch k + payV rs ps (fun r => needF r sl ch k)
  | 0, _ => by
    simp only [List.take_zero, boundF, costF]
    have := payV_zero rs ps
    simp only [needF]
    omega
  | k + 1, hk => by
    have h1 := bound_upto (idle := idle) (price := price) (rs := rs) (ps := ps) h hc (k := k) (by omega)
    obtain ⟨h2, _, _⟩ := part_mem h hc (i := k) (by omega)
    have h3 := minL_le (pricedC idle price rs ps (partAt sl k (ch.getD k 0))) (List.mem_map.2 ⟨_, h2, rfl⟩)
    have h4 := payV_add rs ps (fun r => needF r sl ch k) (fun r => needV r (valP (partAt sl k (ch.getD k 0))))
    rw [boundF_step (by omega)]
    simp only [costF, needF]
    rw [h4]
    rw [show pricedC idle price rs ps (partAt sl k (ch.getD k 0)) = partC idle price (partAt sl k (ch.getD k 0)) + payV rs ps (fun r => needV r (valP (partAt sl k (ch.getD k 0)))) from rfl] at h3
    omega
/-- No choice that surely meets all requirements costs less than the bound. -/
theorem bound_le {idle price : Int} {rs : List DReq} {ps : List Int} {sl : List (List DPart)} (h : SlotsOk sl) {ch : List Int} (hc : ChoiceOk sl ch) (hp : ∀ p ∈ ps, 0 ≤ p) (hm : meetsV rs sl ch = 2) : boundV idle price rs ps sl ≤ costC idle price sl ch := by
  have h1 := bound_upto (idle := idle) (price := price) (rs := rs) (ps := ps) h hc (Nat.le_refl _)
  rw [List.take_length] at h1
  have h2 : payV rs ps (fun r => needF r sl ch sl.length) ≤ payV rs ps limitV := payV_le hp fun r hr => by
    have h3 := (meets_yes.1 hm r hr).1
    rw [margin_need, hc.1, need_sum h hc r (Nat.le_refl _)] at h3
    omega
  unfold boundV costC
  rw [hc.1]
  omega
/-- With prices 0: the sum of the cheapest parts. -/
theorem payV_zeros : ∀ (rs : List DReq) (n : Nat) (f : DReq → Int), payV rs (List.replicate n 0) f = 0
  | [], _, _ => by simp [payV]
  | _ :: _, 0, _ => by simp [payV]
  | r :: rs, n + 1, f => by rw [List.replicate_succ, payV, payV_zeros rs n f]; simp
theorem bound_zero (idle price : Int) (rs : List DReq) (n : Nat) (sl : List (List DPart)) : boundV idle price rs (List.replicate n 0) sl = (sl.map fun l => minL (l.map (partC idle price))).sum := by
  unfold boundV
  rw [payV_zeros]
  induction sl with
  | nil => rfl
  | cons l sl ih =>
    rw [boundF, List.map_cons, List.sum_cons, ← ih]
    have e : (fun p => pricedC idle price rs (List.replicate n 0) p) = partC idle price := by
      funext p
      unfold pricedC
      rw [payV_zeros]
      omega
    rw [show pricedC idle price rs (List.replicate n 0) = partC idle price from e]
    omega

/-- The first of the cheapest of the choices that surely meet all requirements. -/
def cheapS (ok : List Int → Bool) (cost : List Int → Int) (b : Option (List Int × Int)) (c : List Int) : Option (List Int × Int) := if ok c && (match b with | none => true | some x => decide (cost c < x.2)) then some (c, cost c) else b
def cheapF (ok : List Int → Bool) (cost : List Int → Int) (l : List (List Int)) (b : Option (List Int × Int)) : Option (List Int × Int) := l.foldl (cheapS ok cost) b
theorem cheapF_app (ok : List Int → Bool) (cost : List Int → Int) (l m : List (List Int)) (b : Option (List Int × Int)) : cheapF ok cost (l ++ m) b = cheapF ok cost m (cheapF ok cost l b) := by
  unfold cheapF
  rw [List.foldl_append]
/-- What has been found behind some choices: nothing if none meets; else the first of the cheapest. -/
def CheapIs (ok : List Int → Bool) (cost : List Int → Int) (l : List (List Int)) : Option (List Int × Int) → Prop
  | none => ∀ c ∈ l, ok c = false
  | some (c, n) => ok c = true ∧ cost c = n ∧ ∃ a b, l = a ++ c :: b ∧ (∀ x ∈ a, ok x = true → n < cost x) ∧ ∀ x ∈ b, ok x = true → n ≤ cost x
theorem cheap_step {ok : List Int → Bool} {cost : List Int → Int} {l : List (List Int)} {b : Option (List Int × Int)} (h : CheapIs ok cost l b) (c : List Int) : CheapIs ok cost (l ++ [c]) (cheapF ok cost [c] b) := by
  show CheapIs ok cost (l ++ [c]) (cheapS ok cost b c)
  unfold cheapS
  cases hc : ok c with
  | false =>
    rw [Bool.false_and, if_neg (by simp)]
    cases b with
    | none =>
      intro x hx
      rcases List.mem_append.1 hx with hx | hx
      · exact h x hx
      · rw [List.mem_singleton] at hx; rw [hx]; exact hc
    | some x =>
      obtain ⟨y, n⟩ := x
      obtain ⟨h1, h2, a, b, rfl, h3, h4⟩ := h
      refine ⟨h1, h2, a, b ++ [c], by simp, h3, fun x hx hk => ?_⟩
      rcases List.mem_append.1 hx with hx | hx
      · exact h4 x hx hk
      · rw [List.mem_singleton] at hx; rw [hx, hc] at hk; cases hk
  | true =>
    rw [Bool.true_and]
    cases b with
    | none =>
      rw [if_pos rfl]
      exact ⟨hc, rfl, l, [], rfl, (fun x hx hk => by rw [h x hx] at hk; cases hk), (fun x hx => by cases hx)⟩
    | some x =>
      obtain ⟨y, n⟩ := x
      obtain ⟨h1, h2, a, b, rfl, h3, h4⟩ := h
      simp only [decide_eq_true_eq]
      split
      · rename_i hlt
        refine ⟨hc, rfl, a ++ y :: b, [], rfl, fun x hx hk => ?_, fun x hx => by cases hx⟩
        rcases List.mem_append.1 hx with hx | hx
        · have := h3 x hx hk; omega
        · rcases List.mem_cons.1 hx with rfl | hx
          · omega
          · have := h4 x hx hk; omega
      · rename_i hge
        refine ⟨h1, h2, a, b ++ [c], by simp, h3, fun x hx hk => ?_⟩
        rcases List.mem_append.1 hx with hx | hx
        · exact h4 x hx hk
        · rw [List.mem_singleton] at hx; rw [hx]; omega
theorem cheap_is (ok : List Int → Bool) (cost : List Int → Int) : ∀ (l m : List (List Int)) (b : Option (List Int × Int)), CheapIs ok cost m b → CheapIs ok cost (m ++ l) (cheapF ok cost l b)
  | [], m, b, h => by rw [List.append_nil]; exact h
  | c :: l, m, b, h => by
    have h1 := cheap_is ok cost l (m ++ [c]) _ (cheap_step h c)
    rw [List.append_assoc, List.singleton_append] at h1
    rw [show cheapF ok cost (c :: l) b = cheapF ok cost l (cheapF ok cost [c] b) from cheapF_app ok cost [c] l b]
    exact h1
def cheapV (ok : List Int → Bool) (cost : List Int → Int) (l : List (List Int)) : Option (List Int × Int) := cheapF ok cost l none
theorem cheapV_is (ok : List Int → Bool) (cost : List Int → Int) (l : List (List Int)) : CheapIs ok cost l (cheapV ok cost l) := by
  have := cheap_is ok cost l [] none (fun c h => by cases h)
  rwa [List.nil_append] at this
theorem cheapV_none {ok : List Int → Bool} {cost : List Int → Int} {l : List (List Int)} : cheapV ok cost l = none ↔ ∀ c ∈ l, ok c = false := by
  have h := cheapV_is ok cost l
  cases hc : cheapV ok cost l with
  | none => rw [hc] at h; exact ⟨fun _ => h, fun _ => rfl⟩
  | some x =>
    rw [hc] at h
    obtain ⟨y, n⟩ := x
    obtain ⟨h1, h2, a, b, h5, h3, h4⟩ := h
    refine ⟨(fun h => by cases h), fun h => ?_⟩
    have := h y (by rw [h5]; simp)
    rw [h1] at this; cases this
theorem cheapV_least {ok : List Int → Bool} {cost : List Int → Int} {l : List (List Int)} {c : List Int} {n : Int} (h : cheapV ok cost l = some (c, n)) : c ∈ l ∧ ok c = true ∧ cost c = n ∧ ∀ x ∈ l, ok x = true → n ≤ cost x := by
  have h0 := cheapV_is ok cost l
  rw [h] at h0
  obtain ⟨h1, h2, a, b, rfl, h3, h4⟩ := h0
  refine ⟨by simp, h1, h2, fun x hx hk => ?_⟩
  rcases List.mem_append.1 hx with hx | hx
  · exact Int.le_of_lt (h3 x hx hk)
  · rcases List.mem_cons.1 hx with rfl | hx
    · omega
    · exact h4 x hx hk

end Go.Proofs.YtabbehmodmmgoaaDoor
end
