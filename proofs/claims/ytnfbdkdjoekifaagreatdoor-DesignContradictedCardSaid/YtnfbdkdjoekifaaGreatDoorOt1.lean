/- Plain facts on requirements that contradict the stock: the first set by its size. No program is in sight.
Plain facts on parts that others dominate: they are not needed. No program is in sight.
Plain facts: all choices as the specification lists them, one slot after the other. No program is in sight.
Rows of rows of numbers. Printed by a program (gen_d4subs.py).
A law: one of the two operations that may come up in a drawn region comes up.
Contract: the specification's recursive list of all choices. Printed by a program (gen_e1cho.py).
Contracts: base.Root, HeightOf, AreaOf (the specification of chapter 2). Printed by a program (gen_d4root.py).
Contract: the specification's recursive list of all sets of so many numbers (chapter 2). Printed by a program (gen_d4subs.py).
Contract: BestSteps (the specification of chapter 2). Printed by a program (gen_d4best.py).
Contract: Cheapest (the specification). Printed by a program (gen_e1chea.py).
Rows of requirements whose terms lie in old memory. Contract: only (the specification). Printed by a program (gen_e1only.py).
Contract: Contradicting (the specification). Printed by a program (gen_e1ctr.py).
Contract: isPossible (package design). Printed by a program (gen_e2pos.py).
Contract: Contradicting (package design). Printed by a program (gen_e2ctr.py).
light; the contracts of Cheapest as laws want them. Printed by a program (gen_e3lig.py).
Plain facts on a set of requirements that contradict the stock, and on the set without one of them. -/
import Derived.Test.YtnfbdkdjoekifaaGreatDoorOd1
import Derived.Test.YtnfbdkdjoekifaaGreatDoorOa1
import Derived.Test.YtnfbdkdjoekifaaGreatDoorOn2
import Derived.Test.YtnfbdkdjoekifaaGreatDoorOc2
import Derived.Test.YtnfbdkdjoekifaaGreatDoorOe2j
import Derived.Test.YtnfbdkdjoekifaaGreatDoorOb5
import Derived.Test.YtnfbdkdjoekifaaGreatDoorOn3
import Derived.Test.YtnfbdkdjoekifaaGreatDoorOd8
import Derived.Test.YtnfbdkdjoekifaaGreatDoorOd9
import Derived.Test.YtnfbdkdjoekifaaGreatDoorOe1
import Derived.Test.YtnfbdkdjoekifaaGreatDoorOn6
import Derived.Test.YtnfbdkdjoekifaaGreatDoorOd5
import Derived.Test.YtnfbdkdjoekifaaGreatDoorOc3
import Derived.Test.YtnfbdkdjoekifaaGreatDoorOb1

section
namespace Go.Proofs.YtnfbdkdjoekifaaGreatDoor
/-- The first set, by its size, for which something holds. -/
def firstS (P : List Int → Bool) (n : Nat) : Nat → Option (List Int)
  | 0 => none
  | k + 1 => match firstS P n k with
    | some s => some s
    | none => (allS n (k + 1) 0).find? P
theorem firstS_none {P : List Int → Bool} {n : Nat} : ∀ {k : Nat}, firstS P n k = none ↔ ∀ c, c < k → ∀ s ∈ allS n (c + 1) 0, P s = false
  | 0 => ⟨fun _ c h => by omega, fun _ => rfl⟩
  | k + 1 => by
    rw [firstS]
    cases h : firstS P n k with
    | some s =>
      refine ⟨(fun h => by cases h), fun hh => ?_⟩
      rw [firstS_none.2 fun c hc => hh c (by omega)] at h
      cases h
    | none =>
      have h1 := firstS_none.1 h
      simp only
      rw [List.find?_eq_none]
      constructor
      · intro h2 c hc s hs
        rcases Nat.lt_or_ge c k with h3 | h3
        · exact h1 c h3 s hs
        · obtain rfl : c = k := by omega
          have := h2 s hs
          simpa using this
      · intro h2 s hs
        rw [h2 k (by omega) s hs]
        simp
theorem firstS_some {P : List Int → Bool} {n : Nat} {s : List Int} : ∀ {k : Nat}, firstS P n k = some s → ∃ c, c < k ∧ s ∈ allS n (c + 1) 0 ∧ P s = true ∧ ∀ d, d < c → ∀ t ∈ allS n (d + 1) 0, P t = false
  | 0, h => by cases h
  | k + 1, h => by
    rw [firstS] at h
    cases h1 : firstS P n k with
    | some t =>
      rw [h1] at h
      injection h with h
      subst h
      obtain ⟨c, hc, h2⟩ := firstS_some h1
      exact ⟨c, by omega, h2⟩
    | none =>
      rw [h1] at h
      simp only at h
      exact ⟨k, by omega, List.mem_of_find?_eq_some h, List.find?_some h, firstS_none.1 h1⟩
/-- Without one number an ascending list still ascends. -/
theorem asc_erase {n : Nat} : ∀ {l : List Int} {lo : Int} (i : Nat), AscS n lo l → AscS n lo (l.eraseIdx i)
  | [], _, _, h => by simpa using h
  | x :: l, lo, 0, h => by
    obtain ⟨h1, _, h3⟩ := h
    rw [List.eraseIdx_cons_zero]
    exact asc_weak (by omega) h3
  | x :: l, lo, i + 1, h => by
    obtain ⟨h1, h2, h3⟩ := h
    rw [List.eraseIdx_cons_succ]
    exact ⟨h1, h2, asc_erase i h3⟩
where
  asc_weak {n : Nat} : ∀ {l : List Int} {a b : Int}, a ≤ b → AscS n b l → AscS n a l
    | [], _, _, _, _ => trivial
    | x :: l, a, b, h, hh => ⟨by have := hh.1; omega, hh.2.1, hh.2.2⟩
theorem firstS_erase {P : List Int → Bool} {n k : Nat} {s : List Int} (h : firstS P n k = some s) {i : Nat} (hi : i < s.length) (h2 : 1 < s.length) : P (s.eraseIdx i) = false := by
  obtain ⟨c, hc, hs, _, hd⟩ := firstS_some h
  obtain ⟨h3, h4⟩ := allS_mem.1 hs
  refine hd (c - 1) (by omega) _ (allS_mem.2 ⟨?_, asc_erase i h4⟩)
  rw [List.length_eraseIdx, if_pos hi]
  omega
/-- A set of requirements; whether it contradicts the stock. -/
def pickR (rs : List DReq) (set : List Int) : List DReq := set.map fun i => rs.getD i.toNat default
def clashB (rs : List DReq) (sl : List (List DPart)) (cs : List (List Int)) (set : List Int) : Bool := !(cs.any fun c => meetsV (pickR rs set) sl c == 2)
def sizesV (sl : List (List DPart)) : List Nat := sl.map List.length
def contrV (rs : List DReq) (sl : List (List DPart)) : Option (List Int) := firstS (clashB rs sl (allC (sizesV sl))) rs.length rs.length
theorem pickR_all (rs : List DReq) : pickR rs (upS 0 rs.length) = rs := by
  apply List.ext_getElem?
  intro i
  unfold pickR
  rw [List.getElem?_map]
  by_cases h : i < rs.length
  · have h2 : i < (upS 0 rs.length).length := by rw [upS_length]; exact h
    have e := upS_get (x := 0) (d := rs.length) h
    rw [List.getD_eq_getElem?_getD, List.getElem?_eq_getElem h2] at e
    rw [List.getElem?_eq_getElem h2, List.getElem?_eq_getElem h]
    simp only [Option.getD_some] at e
    simp [e, List.getD_eq_getElem?_getD, List.getElem?_eq_getElem h]
  · have h2 : (upS 0 rs.length).length ≤ i := by rw [upS_length]; omega
    rw [List.getElem?_eq_none h2, List.getElem?_eq_none (by omega)]
    rfl
theorem clash_iff {rs : List DReq} {sl : List (List DPart)} {cs : List (List Int)} {set : List Int} : clashB rs sl cs set = true ↔ ∀ c ∈ cs, meetsV (pickR rs set) sl c ≠ 2 := by
  unfold clashB
  rw [Bool.not_eq_true', List.any_eq_false]
  constructor
  · intro h c hc e
    exact h c hc (by rw [e]; rfl)
  · intro h c hc e
    exact h c hc (by simpa using e)
theorem clash_none {rs : List DReq} {sl : List (List DPart)} {cs : List (List Int)} {set : List Int} {cost : List Int → Int} : clashB rs sl cs set = true ↔ cheapV (fun c => meetsV (pickR rs set) sl c == 2) cost cs = none := by
  rw [clash_iff, cheapV_none]
  constructor
  · intro h c hc; exact beq_eq_false_iff_ne.2 (h c hc)
  · intro h c hc; exact beq_eq_false_iff_ne.1 (h c hc)
/-- There is a cheapest design exactly if no requirements contradict the stock. -/
theorem contr_iff {rs : List DReq} (h0 : 0 < rs.length) {sl : List (List DPart)} {cost : List Int → Int} : contrV rs sl = none ↔ cheapV (fun c => meetsV rs sl c == 2) cost (allC (sizesV sl)) ≠ none := by
  unfold contrV
  rw [firstS_none]
  constructor
  · intro h e
    have h1 := h (rs.length - 1) (by omega) (upS 0 rs.length) (allS_mem.2 ⟨by rw [upS_length]; omega, asc_up (by simp)⟩)
    have h2 := clash_none (rs := rs) (sl := sl) (cs := allC (sizesV sl)) (set := upS 0 rs.length) (cost := cost)
    rw [pickR_all] at h2
    rw [h2.2 e] at h1
    cases h1
  · intro h c hc s hs
    cases hb : clashB rs sl (allC (sizesV sl)) s with
    | false => rfl
    | true =>
      exfalso
      refine h (cheapV_none.2 fun x hx => ?_)
      have h1 := clash_iff.1 hb x hx
      refine beq_eq_false_iff_ne.2 fun e => h1 (meets_sub e fun r hr => ?_)
      obtain ⟨i, hi, rfl⟩ := List.mem_map.1 hr
      obtain ⟨h3, h4⟩ := allS_mem.1 hs
      have h5 := asc_in h4 i hi
      rw [List.getD_eq_getElem?_getD, List.getElem?_eq_getElem (by omega)]
      exact List.getElem_mem _
where
  asc_in {n : Nat} : ∀ {l : List Int} {lo : Int}, AscS n lo l → ∀ i ∈ l, lo ≤ i ∧ i < (n : Int)
    | [], _, _, i, h => by cases h
    | x :: l, lo, h, i, hi => by
      rcases List.mem_cons.1 hi with rfl | hi
      · exact ⟨h.1, h.2.1⟩
      · have := asc_in h.2.2 i hi
        have := h.1
        omega

end Go.Proofs.YtnfbdkdjoekifaaGreatDoor
end

section
namespace Go.Proofs.YtnfbdkdjoekifaaGreatDoor
/-- Whether a part may replace another one, whatever they are used for. -/
def goodB (a b : DPart) : Bool := decide (a.price ≤ b.price) && decide (valP a 4 = valP b 4) && decide (valP a 5 = valP b 5) &&
  decide ((valP a 0).1 ≤ (valP b 0).1 ∧ (valP a 0).2 ≤ (valP b 0).2) && decide ((valP a 1).1 ≤ (valP b 1).1 ∧ (valP a 1).2 ≤ (valP b 1).2) && decide ((valP a 2).1 ≤ (valP b 2).1 ∧ (valP a 2).2 ≤ (valP b 2).2) && decide ((valP a 3).1 ≤ (valP b 3).1 ∧ (valP a 3).2 ≤ (valP b 3).2)
/-- Part n of a slot dominates part i. -/
def domB (l : List DPart) (n i : Nat) : Bool := decide (n ≠ i) && goodB (l.getD n default) (l.getD i default) && (decide (n < i) || !goodB (l.getD i default) (l.getD n default))
def freeB (l : List DPart) (i : Nat) : Bool := !((List.range l.length).any fun n => domB l n i)
def undomV (l : List DPart) : List Nat := (List.range l.length).filter (freeB l)
def domN (l : List DPart) (i : Nat) : Nat := ((List.range l.length).filter fun n => domB l n i).length
def FitB (rs : List DReq) : Prop := ∀ r ∈ rs, r.ge = false ∧ ∀ t ∈ r.ts, 0 ≤ t.f ∧ 0 ≤ t.q ∧ t.q ≤ 5
/-- Only the parts that nothing dominates. -/
def fewL (l : List DPart) : List DPart := (undomV l).map fun n => l.getD n default
def fewSl (sl : List (List DPart)) : List (List DPart) := sl.map fewL
theorem sizes_getD {sl : List (List DPart)} {i : Nat} (hi : i < sl.length) : (sizesV sl).getD i 0 = (sl.getD i []).length := by
  unfold sizesV
  rw [List.getD_eq_getElem?_getD, List.getElem?_map, List.getElem?_eq_getElem hi, List.getD_eq_getElem?_getD, List.getElem?_eq_getElem hi]
  rfl
theorem allC_ok {sl : List (List DPart)} {c : List Int} : c ∈ allC (sizesV sl) ↔ ChoiceOk sl c := by
  rw [allC_mem]
  unfold ChoiceOk
  rw [show (sizesV sl).length = sl.length by simp [sizesV]]
  constructor
  · rintro ⟨h1, h2⟩
    exact ⟨h1, fun i hi => by have := h2 i hi; rw [sizes_getD hi] at this; exact this⟩
  · rintro ⟨h1, h2⟩
    exact ⟨h1, fun i hi => by rw [sizes_getD hi]; exact h2 i hi⟩
end Go.Proofs.YtnfbdkdjoekifaaGreatDoor
end

section
namespace Go.Proofs.YtnfbdkdjoekifaaGreatDoor
/-- All choices that begin with some numbers, d slots being left. -/
def choV (sl : List (List DPart)) : Nat → List Int → List (List Int)
  | 0, xs => [xs]
  | d + 1, xs => ((List.range (sl.getD xs.length []).length).map fun (j : Nat) => choV sl d (xs ++ [(j : Int)])).flatten
def choUpto (sl : List (List DPart)) (d : Nat) (xs : List Int) (k : Nat) : List (List Int) := ((List.range k).map fun (j : Nat) => choV sl d (xs ++ [(j : Int)])).flatten
/-- What has been found so far, and the numbers of a slice of it. -/
def bestL : Option (List Int × Int) → List Int
  | none => []
  | some x => x.1
end Go.Proofs.YtnfbdkdjoekifaaGreatDoor
end

section
namespace Go.Proofs.YtnfbdkdjoekifaaGreatDoor
open Go.RowKit

/-- From A on lie the numbers xs, in a block of numbers. -/
def IntRow (w : World) (A : Option Addr) (xs : List Int) : Prop :=
  xs = [] ∨ ∃ b off, A = some ⟨b, off, none⟩ ∧ (∃ (cs : Array Value) (fz : Nat × Nat), w.heap[b]? = some (Obj.cells cs 3 fz)) ∧ ∀ j, j < xs.length → w.cell? ⟨b, off + j, none⟩ = some (.int .i64 (xs.getD j 0))
/-- The values us are slices that read as the rows L. -/
def RowsOf (w : World) (us : List Value) (L : List (List Int)) : Prop :=
  us.length = L.length ∧ ∀ j, j < L.length → ∃ A c, us.getD j undef = .slice A (L.getD j []).length c ∧ (L.getD j []).length ≤ c ∧ IntRow w A (L.getD j [])

section
variable {w w' : World} {A : Option Addr} {xs : List Int} {us us2 : List Value} {L L2 : List (List Int)}
theorem IntRow.same (h : IntRow w A xs) (hk : ∀ (b : Nat) (cs : Array Value) (fz : Nat × Nat), w.heap[b]? = some (Obj.cells cs 3 fz) → w'.heap[b]? = w.heap[b]?) : IntRow w' A xs := by
  rcases h with h | ⟨b, off, hA, ⟨cs, fz, ht⟩, hc⟩
  · exact .inl h
  · exact .inr ⟨b, off, hA, ⟨cs, fz, (hk b cs fz ht).trans ht⟩, fun j hj => (World.cell?_of_block (hk b cs fz ht)).trans (hc j hj)⟩
theorem IntRow.ints (h : IntRow w A xs) : IntsIn w.heap.size w A xs := by
  rcases h with h | ⟨b, off, hA, ⟨cs, fz, ht⟩, hc⟩
  · exact .inl h
  · exact .inr ⟨b, off, hA, (Array.getElem?_eq_some_iff.1 ht).1, hc⟩
theorem RowsOf.same (h : RowsOf w us L) (hk : ∀ (b : Nat) (cs : Array Value) (fz : Nat × Nat), w.heap[b]? = some (Obj.cells cs 3 fz) → w'.heap[b]? = w.heap[b]?) : RowsOf w' us L :=
  ⟨h.1, fun j hj => by
    obtain ⟨A, c, h1, h2, h3⟩ := h.2 j hj
    exact ⟨A, c, h1, h2, h3.same hk⟩⟩
theorem RowsOf.nil : RowsOf w [] [] := ⟨rfl, fun j hj => by simp at hj⟩
theorem RowsOf.one {c : Nat} (h : IntRow w A xs) (hc : xs.length ≤ c) : RowsOf w [.slice A xs.length c] [xs] := ⟨rfl, fun j hj => by
  obtain rfl : j = 0 := by simp at hj; omega
  exact ⟨A, c, rfl, hc, h⟩⟩
theorem RowsOf.append (h : RowsOf w us L) (h2 : RowsOf w us2 L2) : RowsOf w (us ++ us2) (L ++ L2) := by
  refine ⟨by simp [h.1, h2.1], fun j hj => ?_⟩
  rcases Nat.lt_or_ge j L.length with hl | hl
  · obtain ⟨A, c, q1, q2, q3⟩ := h.2 j hl
    have e1 : (us ++ us2).getD j undef = us.getD j undef := by simp [List.getD, List.getElem?_append_left (show j < us.length by rw [h.1]; exact hl)]
    have e2 : (L ++ L2).getD j [] = L.getD j [] := by simp [List.getD, List.getElem?_append_left hl]
    rw [e1, e2]
    exact ⟨A, c, q1, q2, q3⟩
  · obtain ⟨A, c, q1, q2, q3⟩ := h2.2 (j - L.length) (by simp at hj; omega)
    have e1 : (us ++ us2).getD j undef = us2.getD (j - L.length) undef := by simp [List.getD, List.getElem?_append_right (show us.length ≤ j by rw [h.1]; exact hl), h.1]
    have e2 : (L ++ L2).getD j [] = L2.getD (j - L.length) [] := by simp [List.getD, List.getElem?_append_right hl]
    rw [e1, e2]
    exact ⟨A, c, q1, q2, q3⟩
end

def RowsRet (w : World) (L : List (List Int)) (e : Ending) (w' : World) : Prop :=
  ∃ A c us, e = .returned (.slice A L.length c) ∧ w'.ownsRow w.heap.size 32 1 (.slice A L.length c) L.length us ∧ RowsOf w' us L ∧ Below w.heap.size w w'

end Go.Proofs.YtnfbdkdjoekifaaGreatDoor
end

section
namespace Go.Proofs.YtnfbdkdjoekifaaGreatDoor
open Go.RowKit

/-- Only what ends as it should: nothing panics. -/
def calmQ (Q : Exit → Act → World → Prop) : Exit → Act → World → Prop
  | .normal, a, w => Q .normal a w
  | _, _, _ => False
theorem wp_calm {P : Program} {c : Code} {Q : Exit → Act → World → Prop} {a : Act} {w : World} (h : c.wp P (calmQ Q) a w) : c.wp P Q a w :=
  Code.wp_mono (fun e a w h => by cases e <;> first | exact h | exact h.elim) h
theorem wpAnyG_doneC {P : Program} {ops : Array Oper} {md : Region.Mode} {Q : Exit → Act → World → Prop} {S : World → Prop} {n : Nat} {fuel : Nat} {listed : Array Bool} {a : Act} {w : World} (hr : Region.ready md ops listed = []) (h : Q .normal a w) : wpAnyG P md ops (calmQ Q) S n fuel listed a w := wpAnyG_done hr h
theorem own_base {w : World} {base base' : Nat} {e : TypeId} {size n : Nat} {v : Value} {xs : List Value} (h : w.ownsRow base e size v n xs) (hb : base' ≤ base) : w.ownsRow base' e size v n xs :=
  ⟨h.1, h.2.imp_right fun ⟨g, cap, cur, h1, h2, h3⟩ => ⟨g, cap, cur, h1, Nat.le_trans hb h2, h3⟩⟩

end Go.Proofs.YtnfbdkdjoekifaaGreatDoor
end

section
namespace Go.Proofs.YtnfbdkdjoekifaaGreatDoor
open Go.RowKit

end Go.Proofs.YtnfbdkdjoekifaaGreatDoor
end

section
namespace Go.Proofs.YtnfbdkdjoekifaaGreatDoor
open Go.RowKit

end Go.Proofs.YtnfbdkdjoekifaaGreatDoor
end

section
namespace Go.Proofs.YtnfbdkdjoekifaaGreatDoor
open Go.RowKit


end Go.Proofs.YtnfbdkdjoekifaaGreatDoor
end

section
namespace Go.Proofs.YtnfbdkdjoekifaaGreatDoor
open Go.RowKit

/-- The best of all sets of at most k widths. -/
def bu (d : Int) (ws : List Int) (k : Nat) : List Int × Int := bestF (areaD d) (candU ws k) ([], 0)
def BestRet (w : World) (T : List Int × Int) (e : Ending) (w' : World) : Prop :=
  ∃ A2 c2, e = .returned (.tuple #[.slice A2 T.1.length c2, .int .i64 T.2]) ∧ IntsIn w'.heap.size w' A2 T.1 ∧ Below w.heap.size w w'

end Go.Proofs.YtnfbdkdjoekifaaGreatDoor
end

section
namespace Go.Proofs.YtnfbdkdjoekifaaGreatDoor
open Go.RowKit

/-- The cheapest design, its cost and whether there is one. -/
def OptRet (w : World) (n : Nat) (T : Option (List Int × Int)) (e : Ending) (w' : World) : Prop :=
  Below w.heap.size w w' ∧ ((T = none ∧ e = .returned (.tuple #[.slice none 0 0, .int .i64 0, .bool false])) ∨ ∃ l k b o c, T = some (l, k) ∧ e = .returned (.tuple #[.slice (some ⟨b, o, none⟩) n c, .int .i64 k, .bool true]) ∧ l.length = n ∧ n ≤ c ∧ IntsIn w'.heap.size w' (some ⟨b, o, none⟩) l)
def OptIs (n : Nat) (T : Option (List Int × Int)) (wr : World) (bv nv : Value) : Prop :=
  (T = none ∧ bv = .slice none 0 0 ∧ nv = .int .i64 0) ∨ ∃ l k b o c, T = some (l, k) ∧ bv = .slice (some ⟨b, o, none⟩) n c ∧ nv = .int .i64 k ∧ l.length = n ∧ n ≤ c ∧ IntsIn wr.heap.size wr (some ⟨b, o, none⟩) l
theorem OptIs.past {n : Nat} {T : Option (List Int × Int)} {wr w' : World} {bv nv : Value} (h : OptIs n T wr bv nv) (hb : Below wr.heap.size wr w') : OptIs n T w' bv nv := by
  rcases h with h | ⟨l, k, b, o, c, h1, h2, h3, h4, h5, h6⟩
  · exact .inl h
  · exact .inr ⟨l, k, b, o, c, h1, h2, h3, h4, h5, (h6.below hb).more hb.size⟩
end Go.Proofs.YtnfbdkdjoekifaaGreatDoor
end

section
namespace Go.Proofs.YtnfbdkdjoekifaaGreatDoor
open Go.RowKit

/-- The values us are requirements that read as rs; their terms lie below B. -/
def OldRow (B : Nat) (w : World) (us : List Value) (rs : List DReq) : Prop :=
  us.length = rs.length * 4 ∧ ∀ i, i < rs.length → ∃ A c, us[i * 4]? = some (.slice A (rs.getD i default).ts.length c) ∧ us[i * 4 + 1]? = some (.bool (rs.getD i default).ge) ∧ us[i * 4 + 2]? = some (.int .i64 (rs.getD i default).lim) ∧ us[i * 4 + 3]? = some (.int .i64 (rs.getD i default).unit) ∧ CellsIn B w A (termsC (rs.getD i default).ts) ∧ (rs.getD i default).ts.length ≤ c
theorem OldRow.nil {B : Nat} {w : World} : OldRow B w [] [] := ⟨rfl, fun i hi => by simp at hi⟩
theorem OldRow.below {B : Nat} {w w' : World} {us : List Value} {rs : List DReq} (h : OldRow B w us rs) (hk : Below B w w') : OldRow B w' us rs := ⟨h.1, fun i hi => by
  obtain ⟨A, c, h0, h1, h2, h3, h4, h5⟩ := h.2 i hi
  exact ⟨A, c, h0, h1, h2, h3, h4.below hk, h5⟩⟩
theorem OldRow.snoc {B : Nat} {w : World} {us : List Value} {rs : List DReq} (h : OldRow B w us rs) {r : DReq} {A : Option Addr} {c : Nat} (hl : CellsIn B w A (termsC r.ts)) (hc : r.ts.length ≤ c) : OldRow B w (us ++ [.slice A r.ts.length c, .bool r.ge, .int .i64 r.lim, .int .i64 r.unit]) (rs ++ [r]) := by
  refine ⟨by simp [h.1]; omega, fun i hi => ?_⟩
  rcases Nat.lt_or_ge i rs.length with h2 | h2
  · obtain ⟨A', c', h3, h4, h5, h6, h7, h8⟩ := h.2 i h2
    have e : (rs ++ [r]).getD i default = rs.getD i default := by simp [List.getD, List.getElem?_append_left h2]
    have hl := h.1
    rw [e]
    exact ⟨A', c', by rw [List.getElem?_append_left (by omega)]; exact h3, by rw [List.getElem?_append_left (by omega)]; exact h4, by rw [List.getElem?_append_left (by omega)]; exact h5, by rw [List.getElem?_append_left (by omega)]; exact h6, h7, h8⟩
  · have hie : i = rs.length := by simp at hi; omega
    subst hie
    have e : (rs ++ [r]).getD rs.length default = r := by simp [List.getD]
    have hl2 := h.1
    rw [e]
    exact ⟨A, c, by rw [List.getElem?_append_right (by omega), hl2, Nat.sub_self]; rfl, by rw [List.getElem?_append_right (by omega), hl2, show rs.length * 4 + 1 - rs.length * 4 = 1 by omega]; rfl, by rw [List.getElem?_append_right (by omega), hl2, show rs.length * 4 + 2 - rs.length * 4 = 2 by omega]; rfl, by rw [List.getElem?_append_right (by omega), hl2, show rs.length * 4 + 3 - rs.length * 4 = 3 by omega]; rfl, hl, hc⟩
theorem OldRow.reqs {B : Nat} {w : World} {us : List Value} {rs : List DReq} {base n c : Nat} {A : Option Addr} (h : OldRow B w us rs) (hB : B ≤ w.heap.size) (ho : w.ownsRow base 45 4 (.slice A n c) n us) : ReqsIn w.heap.size w A rs := by
  rcases cellsIn_of_own ho with hu | ⟨b, off, hA, hb, hc⟩
  · refine .inl ?_
    have := h.1
    rw [hu] at this
    exact List.eq_nil_of_length_eq_zero (by simp at this; omega)
  · refine .inr ⟨b, off, hA, hb, fun i hi => ?_⟩
    obtain ⟨A', c', h0, h1, h2, h3, h4, h5⟩ := h.2 i hi
    have hl := h.1
    exact ⟨A', c', (hc _ (by omega)).trans h0, (hc _ (by omega)).trans h1, (hc _ (by omega)).trans h2, (hc _ (by omega)).trans h3, h4.more hB, h5⟩
theorem pick_snoc {rs : List DReq} {set : List Int} {i : Nat} (h : i < set.length) : pickR rs (set.take (i + 1)) = pickR rs (set.take i) ++ [rs.getD (set.getD i 0).toNat default] := by
  unfold pickR
  rw [List.take_succ_eq_append_getElem h, List.map_append]
  simp [List.getD, h]
theorem pick_len (rs : List DReq) (set : List Int) : (pickR rs set).length = set.length := List.length_map _

end Go.Proofs.YtnfbdkdjoekifaaGreatDoor
end

section
namespace Go.Proofs.YtnfbdkdjoekifaaGreatDoor
open Go.RowKit

theorem clash_chea {rs : List DReq} {sl : List (List DPart)} {idle price : Int} {set : List Int} : clashB rs sl (allC (slotN sl)) set = (cheaF (pickR rs set) idle price sl (allC (slotN sl))).isNone := by
  have h := clash_none (rs := rs) (sl := sl) (cs := allC (slotN sl)) (set := set) (cost := costC idle price sl)
  have e : (fun c => meetsV (pickR rs set) sl c == 2) = meetB (pickR rs set) sl := by
    funext c
    unfold meetB
    by_cases h2 : meetsV (pickR rs set) sl c = 2 <;> simp [h2]
  rw [e] at h
  unfold cheaF
  generalize cheapV (meetB (pickR rs set) sl) (costC idle price sl) (allC (slotN sl)) = T at *
  cases T with
  | none => exact h.2 rfl
  | some x =>
    cases hc : clashB rs sl (allC (slotN sl)) set with
    | false => rfl
    | true => exact absurd (h.1 hc) (by simp)
theorem pickR_ok {rs : List DReq} (h : ∀ r ∈ rs, ReqOk r) {set : List Int} (hs : ∀ j, j < set.length → 0 ≤ set.getD j 0 ∧ set.getD j 0 < (rs.length : Int)) : ∀ r ∈ pickR rs set, ReqOk r := by
  intro r hr
  unfold pickR at hr
  obtain ⟨i, hi, rfl⟩ := List.mem_map.1 hr
  obtain ⟨j, hj, rfl⟩ := List.getElem_of_mem hi
  have h2 := hs j hj
  have e : set.getD j 0 = set[j] := by simp [List.getD, hj]
  rw [e] at h2
  exact h _ (getD_mem' (by omega))
/-- The first set that contradicts, and whether there is one. -/
def SetRet (w : World) (T : Option (List Int)) (e : Ending) (w' : World) : Prop :=
  Below w.heap.size w w' ∧ ((T = none ∧ e = .returned (.tuple #[.slice none 0 0, .bool false])) ∨ ∃ l b o c, T = some l ∧ e = .returned (.tuple #[.slice (some ⟨b, o, none⟩) l.length c, .bool true]) ∧ l.length ≤ c ∧ IntsIn w'.heap.size w' (some ⟨b, o, none⟩) l)

end Go.Proofs.YtnfbdkdjoekifaaGreatDoor
end

section
namespace Go.Proofs.YtnfbdkdjoekifaaGreatDoor
open Go.RowKit Go.Shelf
attribute [local go_sem] Oper.semAt_some undef

set_option maxRecDepth 100000 in
set_option maxHeartbeats 8000000 in
theorem isPossible_in (k : Nat) (B : Nat) (rs : List DReq) (RA : Option Addr) (rn rc : Nat) (sl : List (List DPart)) (SA : Option Addr) (n c : Nat) (idle price : Int) (set : List Int) (CA : Option Addr) (m cc : Nat) (w : World) (hrr : ReqsIn B w RA rs) (hr : SlotsIn B w SA sl) (hc : IntsIn B w CA set) (hB : B ≤ w.heap.size) (hrn : rs.length = rn) (hn : sl.length = n) (hm : set.length = m) (hm2 : m ≤ 1000) (hs : SlotsOk sl) (hrs : ∀ r ∈ rs, ReqOk r) (hb : ∀ j, j < m → 0 ≤ set.getD j 0 ∧ set.getD j 0 < (rn : Int)) (h1 : 1 ≤ k) :
    CallsIn Fence.wide k Tryz.prog 39 #[.agg #[.slice SA n c, .int .i64 idle, .int .i64 price, .slice RA rn rc], .slice CA m cc] w fun e w' => e = .returned (.bool (!clashB rs sl (allC (slotN sl)) set)) ∧ Below w.heap.size w w' := by
  obtain ⟨s0, hs0, hsz, hss, hsb⟩ := info_partsC req_infoC
  have HSeq := Lib.hid (fun w0 (hW : Below w.heap.size w w0) => choices_seq (k - 1) B sl SA n c idle price w0 (hr.below (hW.mono hB)) (Nat.le_trans hB hW.size) hn hs)
  have HPl := Lib.hid ((pick_len rs set).trans hm)
  have HPo := Lib.hid (pickR_ok (rs := rs) (set := set) hrs (by rw [hm, hrn]; exact hb))
  have HR := Lib.hid hrr
  have HSl := Lib.hid hr
  have HC := Lib.hid hc
  have HS2 := Lib.hid hb
  have HN := Lib.hid hrn
  have HNs := Lib.hid hn
  have HM := Lib.hid hm
  have HSo := Lib.hid hs
  have HCl := Lib.hid (clash_iff (rs := rs) (sl := sl) (cs := allC (slotN sl)) (set := set))
  clear hrr hr hc hb hrn hn hm hs hrs
  refine callsIn_of_wp_marks Tryz.func39 rfl trivial ?_ rfl
  simp only [undef, Tryz.ntmps39, List.size_toArray, List.length_cons, List.length_nil, Nat.reduceAdd, Nat.reduceSub, Array.replicate_succ, Array.replicate_zero, List.push_toArray, List.append_toArray, List.nil_append, List.cons_append]
  gi_wp2
  gi_loopw [14] (fun ix wr => ∃ (i : Nat) (A' : Option Addr) (c' : Nat) (us : List Value), ix = .int .i64 (i : Int) ∧ i ≤ m ∧ Blk wr w.heap.size 82 #[.slice SA n c, .int .i64 idle, .int .i64 price, .slice RA rn rc] ∧ Blk wr (w.heap.size + 1) 4 #[.bool false] ∧ Blk wr (w.heap.size + 1 + 1) 82 #[.slice SA n c, .int .i64 idle, .int .i64 price, .slice A' i c'] ∧ wr.ownsRow w.heap.size 45 4 (.slice A' i c') i us ∧ OldRow B wr us (pickR rs (set.take i)) ∧ Below w.heap.size w wr) (fun ix _ => m - (intOf ix).toNat)
  case atStart => exact ⟨0, none, 0, [], rfl, Nat.zero_le _, ((Blk.newAt rfl).alloc).alloc, (Blk.newAt (by simp)).alloc, Blk.newAt (by simp), World.ownsRow_nil _ _ _ _, OldRow.nil, pa (pa (pa pr))⟩
  case round =>
    obtain ⟨i, A', c', us, rfl, hi, k0, k1, k2, hown, hrow, hq⟩ := hrel
    by_cases hlt : i < m
    · obtain ⟨b2, o2, rfl, hb2, hc2⟩ := HC.out.at_ (k := i) (by rw [HM.out]; exact hlt)
      have e2 := hc2 i (by rw [HM.out]; exact hlt)
      have hyb := HS2.out i hlt
      have HStep := Lib.hid (pick_snoc (rs := rs) (set := set) (i := i) (by rw [HM.out]; exact hlt))
      generalize set.getD i 0 = y at *
      obtain ⟨yn, rfl⟩ : ∃ yn : Nat, y = (yn : Int) := ⟨y.toNat, by omega⟩
      rw [Int.toNat_natCast] at HStep
      have hyl : yn < rs.length := by rw [HN.out]; omega
      obtain ⟨b, off, rfl, hbB, hct⟩ := HR.out.at_ hyl
      obtain ⟨A3, c3, t0, t1, t2, t3, tps, tc⟩ := hct yn hyl
      have HPs := Lib.hid tps
      have n0 : (0 : Int) ≤ (i : Int) := by omega
      have n1 : (i : Int) < (m : Int) := by omega
      have y0 : (0 : Int) ≤ (yn : Int) := by omega
      have y1 : (yn : Int) < (rn : Int) := hyb.2
      generalize rs.getD yn default = r at *
      have HCs := Lib.hid (fun W (hW : Below w.heap.size w W) => (show W.cell? ⟨b2, o2 + i, none⟩ = some (.int .i64 (yn : Int)) ∧ W.cell? ⟨b, off + yn * 4, none⟩ = some (.slice A3 r.ts.length c3) ∧ W.cell? ⟨b, off + yn * 4 + 1, none⟩ = some (.bool r.ge) ∧ W.cell? ⟨b, off + yn * 4 + 2, none⟩ = some (.int .i64 r.lim) ∧ W.cell? ⟨b, off + yn * 4 + 3, none⟩ = some (.int .i64 r.unit) from
        ⟨((bcell hW).1 _ _ (by omega)).trans e2, ((bcell hW).1 _ _ (by omega)).trans t0, ((bcell hW).1 _ _ (by omega)).trans t1, ((bcell hW).1 _ _ (by omega)).trans t2, ((bcell hW).1 _ _ (by omega)).trans t3⟩))
      have HOwn := Lib.hid hown
      have HRow := Lib.hid hrow
      have HQ := Lib.hid hq
      have K0 := Lib.hid k0
      have K1 := Lib.hid k1
      have K2 := Lib.hid k2
      have hqs := hq.size
      have hbw : b < wr.heap.size := by omega
      have hb2w : b2 < wr.heap.size := by omega
      have e9 := (HCs.out wr HQ.out).1
      clear hown hrow hq k0 k1 k2 hct hc2 e2 t0 t1 t2 t3 tps hyb
      gi_wp2
      clear e9
      refine wpIn_wide.2 ?_
      have HSS := Lib.hid (fun W (hW : Below w.heap.size w W) (h0 : Blk W w.heap.size 82 #[.slice SA n c, .int .i64 idle, .int .i64 price, .slice (some ⟨b, off, none⟩) rn rc]) (h2 : Blk W (w.heap.size + 1 + 1) 82 #[.slice SA n c, .int .i64 idle, .int .i64 price, .slice A' i c']) => (show W.cell? ⟨w.heap.size, 3, none⟩ = some (.slice (some ⟨b, off, none⟩) rn rc) ∧ W.cell? ⟨w.heap.size + 1 + 1, 3, none⟩ = some (.slice A' i c') ∧ W.cell? ⟨b, off + yn * 4, none⟩ = some (.slice A3 r.ts.length c3) ∧ W.cell? ⟨b, off + yn * 4 + 1, none⟩ = some (.bool r.ge) ∧ W.cell? ⟨b, off + yn * 4 + 2, none⟩ = some (.int .i64 r.lim) ∧ W.cell? ⟨b, off + yn * 4 + 3, none⟩ = some (.int .i64 r.unit) from ⟨h0.cellAt 3 rfl, h2.cellAt 3 rfl, (HCs.out W hW).2.1, (HCs.out W hW).2.2.1, (HCs.out W hW).2.2.2.1, (HCs.out W hW).2.2.2.2⟩))
      refine wp_calm ?_
      refine wp_region_G 10 follows_mixed (fun W => W.cell? ⟨w.heap.size, 3, none⟩ = some (.slice (some ⟨b, off, none⟩) rn rc) ∧ W.cell? ⟨w.heap.size + 1 + 1, 3, none⟩ = some (.slice A' i c') ∧ W.cell? ⟨b, off + yn * 4, none⟩ = some (.slice A3 r.ts.length c3) ∧ W.cell? ⟨b, off + yn * 4 + 1, none⟩ = some (.bool r.ge) ∧ W.cell? ⟨b, off + yn * 4 + 2, none⟩ = some (.int .i64 r.lim) ∧ W.cell? ⟨b, off + yn * 4 + 3, none⟩ = some (.int .i64 r.unit)) (HSS.out _ (pd HQ.out) K0.out.drew K2.out.drew) ?_
      intro hSd inv
      have HSd := Lib.hid hSd
      clear hSd
      refine wpAnyG_take (i := 0) (v := ?_) rfl (by kernel_rfl) (by kernel_rfl) (by kernel_rfl) (by kernel_rfl) (by kernel_rfl) (by decide) (by decide) inv (fun _ _ _ h => h) (Or.inl ⟨by rfl, ?_⟩) HSd.out ?_; rotate_left; (focus (intro W y1; obtain ⟨y1, y2, y3, y4, y5, y6⟩ := y1; go_simp; (first | done | with_reducible rfl))); clear inv; intro inv; simp only [List.getElem_toArray, List.getElem_cons_zero, Act.put, List.setIfInBounds_toArray, List.set_cons_zero, List.set_cons_succ]
      refine wpAnyG_take (i := 1) (v := ?_) rfl (by kernel_rfl) (by kernel_rfl) (by kernel_rfl) (by kernel_rfl) (by kernel_rfl) (by decide) (by decide) inv (fun _ _ _ h => h) (Or.inl ⟨by rfl, ?_⟩) HSd.out ?_; rotate_left; (focus (intro W y1; obtain ⟨y1, y2, y3, y4, y5, y6⟩ := y1; go_simp; (first | done | with_reducible rfl))); clear inv; intro inv; simp only [List.getElem_toArray, List.getElem_cons_zero, List.getElem_cons_succ, Act.put, List.setIfInBounds_toArray, List.set_cons_zero, List.set_cons_succ]
      refine wpAnyG_take (i := 2) (v := ?_) rfl (by kernel_rfl) (by kernel_rfl) (by kernel_rfl) (by kernel_rfl) (by kernel_rfl) (by decide) (by decide) inv (fun _ _ _ h => h) (Or.inl ⟨by rfl, ?_⟩) HSd.out ?_; rotate_left; (focus (intro W y1; obtain ⟨y1, y2, y3, y4, y5, y6⟩ := y1; go_simp; (first | done | with_reducible rfl))); clear inv; intro inv; simp only [List.getElem_toArray, List.getElem_cons_zero, List.getElem_cons_succ, Act.put, List.setIfInBounds_toArray, List.set_cons_zero, List.set_cons_succ]
      refine wpAnyG_take (i := 3) (v := ?_) rfl (by kernel_rfl) (by kernel_rfl) (by kernel_rfl) (by kernel_rfl) (by kernel_rfl) (by decide) (by decide) inv (fun _ _ _ h => h) (Or.inl ⟨by rfl, ?_⟩) HSd.out ?_; rotate_left; (focus (intro W y1; obtain ⟨y1, y2, y3, y4, y5, y6⟩ := y1; go_simp; (first | done | with_reducible rfl))); clear inv; intro inv; simp only [List.getElem_toArray, List.getElem_cons_zero, List.getElem_cons_succ, Act.put, List.setIfInBounds_toArray, List.set_cons_zero, List.set_cons_succ]
      refine wpAnyG_take (i := 4) (v := ?_) rfl (by kernel_rfl) (by kernel_rfl) (by kernel_rfl) (by kernel_rfl) (by kernel_rfl) (by decide) (by decide) inv (fun _ _ _ h => h) (Or.inl ⟨by rfl, ?_⟩) HSd.out ?_; rotate_left; (focus (intro W y1; obtain ⟨y1, y2, y3, y4, y5, y6⟩ := y1; go_simp; (first | done | with_reducible rfl))); clear inv; intro inv; simp only [List.getElem_toArray, List.getElem_cons_zero, List.getElem_cons_succ, Act.put, List.setIfInBounds_toArray, List.set_cons_zero, List.set_cons_succ]
      refine wpAnyG_take (i := 5) (v := ?_) rfl (by kernel_rfl) (by kernel_rfl) (by kernel_rfl) (by kernel_rfl) (by kernel_rfl) (by decide) (by decide) inv (fun _ _ _ h => h) (Or.inl ⟨by rfl, ?_⟩) HSd.out ?_; rotate_left; (focus (intro W y1; obtain ⟨y1, y2, y3, y4, y5, y6⟩ := y1; go_simp; (first | done | with_reducible rfl))); clear inv; intro inv; simp only [List.getElem_toArray, List.getElem_cons_zero, List.getElem_cons_succ, Act.put, List.setIfInBounds_toArray, List.set_cons_zero, List.set_cons_succ]
      refine wpAnyG_take (i := 6) (v := ?_) rfl (by kernel_rfl) (by kernel_rfl) (by kernel_rfl) (by kernel_rfl) (by kernel_rfl) (by decide) (by decide) inv (fun _ _ _ h => h) (Or.inl ⟨by rfl, ?_⟩) HSd.out ?_; rotate_left; (focus (intro W y1; obtain ⟨y1, y2, y3, y4, y5, y6⟩ := y1; go_simp; (first | done | with_reducible rfl))); clear inv; intro inv; simp only [List.getElem_toArray, List.getElem_cons_zero, List.getElem_cons_succ, Act.put, List.setIfInBounds_toArray, List.set_cons_zero, List.set_cons_succ]
      clear inv
      refine wpAnyG_one (i := 7) (by kernel_rfl) rfl rfl fun K hK => ?_
      go_simp
      have hBr : Below wr.heap.size wr ((wr.alloc (.cells #[.slice A3 r.ts.length c3, .bool r.ge, .int .i64 r.lim, .int .i64 r.unit] 45)).drew) := pd (pa pr)
      have HB2 := Lib.hid (pt HQ.out hBr)
      have K0a := Lib.hid (K0.out.past hBr)
      have K1a := Lib.hid (K1.out.past hBr)
      have K2a := Lib.hid (K2.out.past hBr)
      have HOa := Lib.hid (own_past hBr HOwn.out)
      have HC1 := Lib.hid (show CellsIn (wr.heap.size + 1) ((wr.alloc (.cells #[.slice A3 r.ts.length c3, .bool r.ge, .int .i64 r.lim, .int .i64 r.unit] 45)).drew) (some ⟨wr.heap.size, 0, none⟩) [.slice A3 r.ts.length c3, .bool r.ge, .int .i64 r.lim, .int .i64 r.unit] from cells_new wr 45 #[.slice A3 r.ts.length c3, .bool r.ge, .int .i64 r.lim, .int .i64 r.unit])
      have hsx : ((wr.alloc (.cells #[.slice A3 r.ts.length c3, .bool r.ge, .int .i64 r.lim, .int .i64 r.unit] 45)).drew).heap.size = wr.heap.size + 1 := by simp [World.drew]
      generalize (wr.alloc (.cells #[.slice A3 r.ts.length c3, .bool r.ge, .int .i64 r.lim, .int .i64 r.unit] 45)).drew = wx at *
      refine hK.out _ _ (fun _ => HSS.out _ HB2.out K0a.out K2a.out) ?_
      clear hK K
      refine wpAnyG_one (i := 8) (by kernel_rfl) rfl rfl fun K hK => ?_
      refine wp_append_cells _ (.tmp 19) (.tmp 25) _ (by rfl) w.heap.size 45 s0 _ 4 48 Tryz.underlying22 hs0 hsz hss hsb (by rfl) (by omega) (.slice A' i c') i us (by rfl) HOa.out (wr.heap.size + 1) (some ⟨wr.heap.size, 0, none⟩) 1 1 [.slice A3 r.ts.length c3, .bool r.ge, .int .i64 r.lim, .int .i64 r.unit] (by rfl) HC1.out rfl (by simp [Value.oneCell']) (by simp only [maxLen]; omega) (by omega) (by omega) ?_
      intro v4 w4 hown4 hg4 _
      obtain ⟨A4, c4, rfl, hc4, _⟩ := own_form hown4
      have HB4 := Lib.hid (pg HB2.out HOa.out (Nat.le_refl _) hg4)
      have K04 := Lib.hid (K0a.out.grown hg4 (own_ne HOa.out K0a.out (by decide)))
      have K14 := Lib.hid (K1a.out.grown hg4 (own_ne HOa.out K1a.out (by decide)))
      have K24 := Lib.hid (K2a.out.grown hg4 (own_ne HOa.out K2a.out (by decide)))
      have HRow4 := Lib.hid ((HRow.out.below (hBr.mono (by omega))).snoc (r := r) (HPs.out.below (HB2.out.mono hB)) tc)
      have HRow5 := Lib.hid (HRow4.out.below (w := wx) (w' := w4) ((show Below w.heap.size wx w4 from ⟨hg4.os, hg4.tape, hg4.output, hg4.size, fun k hk => hg4.block k (by have := HB2.out.size; omega) (fun e => by have := (HOa.out.lt k e.symm).1; omega)⟩).mono hB))
      have HO4 := Lib.hid hown4
      clear hown4 hg4 HOa K0a K1a K2a HRow4 hBr HB2 HRow HOwn K0 K1 K2 HC1
      refine hK.out _ _ (fun _ => HSS.out _ HB4.out K04.out K24.out) ?_
      clear hK K
      refine wpAnyG_one (i := 9) (by kernel_rfl) rfl rfl fun K hK => ?_
      go_simp
      refine hK.out _ _ (fun _ => HSS.out _ HB4.out K04.out K24.out) ?_
      clear hK K
      refine wpAnyG_one (i := 10) (by kernel_rfl) rfl rfl fun K hK => ?_
      have q1 : w4.cell? ⟨w.heap.size + 1 + 1, 3, none⟩ = some (.slice A' i c') := K24.out.cellAt 3 rfl
      have q2 := K24.out.frozen 3
      have q3 := K24.out.lt
      go_simp
      refine hK.out _ _ (fun h => absurd h (by decide)) ?_
      clear hK K
      refine wpAnyG_doneC (by kernel_rfl) ?_
      clear HSS HSd
      have HK0 := Lib.hid (K04.out.far (p := ⟨w.heap.size + 1 + 1, 3, none⟩) (u := .slice A4 (i + 1) c4) (by dsimp only; omega))
      have HK1 := Lib.hid (K14.out.far (p := ⟨w.heap.size + 1 + 1, 3, none⟩) (u := .slice A4 (i + 1) c4) (by dsimp only; omega))
      have HK2 := Lib.hid (K24.out.set_ 3 (.slice A4 (i + 1) c4))
      have HOw := Lib.hid (own_cellT HO4.out K24.out (by decide) (q := ⟨w.heap.size + 1 + 1, 3, none⟩) rfl (.slice A4 (i + 1) c4))
      have HRw := Lib.hid (HRow5.out.below ((show Below w.heap.size w4 (w4.setCell ⟨w.heap.size + 1 + 1, 3, none⟩ (.slice A4 (i + 1) c4)) from (Below.refl w.heap.size w4).setCell (by show w.heap.size ≤ w.heap.size + 1 + 1; omega) _).mono hB))
      have HBw := Lib.hid (ps HB4.out (p := ⟨w.heap.size + 1 + 1, 3, none⟩) (u := .slice A4 (i + 1) c4) (by dsimp only; omega))
      clear q1 q2 q3 K04 K14 K24 HO4 HRow5 HB4
      gi_wp2
      go_roundw
      case rel => exact ⟨i + 1, A4, c4, _, by go_num, by omega, HK0.out, HK1.out, HK2.out, HOw.out, by rw [HStep.out]; exact HRw.out, HBw.out⟩
      case measure => simp [intOf]; omega
    · obtain rfl : i = m := by omega
      rw [List.take_of_length_le (by rw [HM.out]; exact Nat.le_refl _)] at hrow
      have HRq := Lib.hid (hrow.reqs (Nat.le_trans hB hq.size) hown)
      have K1 := Lib.hid k1
      have K2 := Lib.hid k2
      have HQ := Lib.hid hq
      have g0 := k2.cellAt 0 rfl
      have g1 := k2.cellAt 1 rfl
      have g2 := k2.cellAt 2 rfl
      have x1 := k2.lt
      clear hown hrow k0 k1 k2 hq
      gi_wp2
      clear g0 g1 g2
      generalize wr = w0 at *
      have hlt1 := K1.out.lt
      have hlt2 := K2.out.lt
      have hn5 : n ≤ 5 := by rw [← HNs.out]; exact HSo.out.1.2
      refine rangeFunc_lawG h1 (gf := 34) (fb := #[.agg #[.slice SA n c, .int .i64 idle, .int .i64 price]]) (lb := #[]) rfl (enters_of Tryz.func34 (by kernel_rfl) rfl)
        (HSeq.out w0 HQ.out) (Below.refl _ _)
        (fun h q => h.trans q) (fun G W A l o o' hG hl hl2 ho hc => KeepG.put o' (fun q hq => by have : q < B := hq; have := HQ.out.size; omega) (fun q hq => by have := hG q hq; omega))
        (fun G x A l o o' ho hc hp => hp.put o' ho hc) (fun x => rfl)
        (fun G (pre : List RowI) W => (∀ x ∈ pre.map (·.2), meetsV (pickR rs set) sl x ≠ 2) ∧ Below w0.heap.size w0 W)
        (fun G c pre W => c = .ret ∧ (∃ x ∈ pre.map (·.2), meetsV (pickR rs set) sl x = 2) ∧ Blk W (w.heap.size + 1) 4 #[.bool true] ∧ Below w.heap.size w W)
        (fun G hG s W W' row hs hg hr => ⟨hs.1, below_grown hs.2 hs.2.size hg (fun r e => by
          rcases hr r e with h2 | ⟨h2, _⟩
          · have := hG r h2; omega
          · exact h2)⟩)
        (fun G c s A B row hs hg hr => ⟨hs.1, hs.2.1, own_blk _ _ _ _ s A B row hs.2.2.1 hg hr, ownFrom_below (Nat.le_refl _) HQ.out.size s A B row hs.2.2.2 hg hr⟩)
        (fun G hG => ⟨fun x hx => by simp at hx, Below.refl _ _⟩)
        (fun x => { tmps := #[.agg #[.slice SA n c, .int .i64 idle, .int .i64 price, .slice RA rn rc], .slice CA i cc, .pointer (some ⟨w.heap.size, 0, none⟩), .tuple #[], .pointer (some ⟨w.heap.size + 1, 0, none⟩), .pointer (some ⟨w.heap.size + 1 + 1, 0, none⟩), .tuple #[], u7, .slice x.1.1 n x.1.2, .pointer (some ⟨w.heap.size, 0, none⟩), .agg #[.slice SA n c, .int .i64 idle, .int .i64 price], .pointer (some ⟨w.heap.size + 1 + 1, 0, none⟩), .slice CA i cc, .int .i64 (i : Int), .int .i64 (i : Int), .bool false, u16, u17, u18, u19, u20, u21, u22, u23, u24, u25, u26, u27, u28, .pointer (some ⟨w.heap.size + 1 + 1, 0, none⟩), .agg #[.slice SA n c, .int .i64 idle, .int .i64 price], .func (.func 34) #[.agg #[.slice SA n c, .int .i64 idle, .int .i64 price]] #[], .slice x.1.1 n x.1.2, .tuple #[], .tuple #[], .tuple #[], .tuple #[]], defers := [] })
        ?assign ?body ?done ?stop
      case assign =>
        intro l x W K hK
        unfold rowEnc
        gi_wp2
        exact hK
      case body =>
        rintro l G pre ⟨⟨X, cX⟩, xs⟩ Wb W hG hWb ⟨hno, hq⟩ ⟨⟨hx1, hx2, hx3⟩, hx4, hx5⟩ hlen
        dsimp only at hx1 hx2 hx3 hx5 ⊢
        have hch : ChoiceOk sl xs := (allC_ok (sl := sl)).1 hx5
        have HMe := Lib.hid (meets_any W.heap.size (pickR rs set) A' i c' sl SA n c idle price xs X cX W ((HRq.out.past (Nat.le_refl _) hq)) ((HSl.out.past hB (pt HQ.out hq))) hx1.ints (Nat.le_refl _) HPl.out hm2 HNs.out HSo.out hch HPo.out)
        have t0 := (K2.out.past hq).cellAt 0 rfl
        have t1 := (K2.out.past hq).cellAt 1 rfl
        have t2 := (K2.out.past hq).cellAt 2 rfl
        have t3 := (K2.out.past hq).cellAt 3 rfl
        have tl := (K2.out.past hq).lt
        have HX4 := Lib.hid hx4
        have HNo := Lib.hid hno
        have HQx := Lib.hid hq
        have hWsz := hq.size
        have hWs2 := HQ.out.size
        clear hx1 hx2 hx3 hx4 hx5 hlen hno hq hch
        generalize hmv : meetsV (pickR rs set) sl xs = mv at *
        have HMv := Lib.hid hmv
        clear hmv
        by_cases hy : mv = 2
        · have hmb : (mv == 2) = true := by simpa using hy
          have HY := Lib.hid hy
          clear hy
          gi_wp2_with (refine ⟨trivial, (fun h => nomatch h), ?_⟩; gi_at_call 36; refine (callsIn_wide.2 HMe.out).mono ?_; rintro e w2 ⟨rfl, hb2⟩; have HP2 := Lib.hid hb2; have q1 := ((K1.out.past HQx.out).past hb2).cellAt 0 rfl; have q2 := ((K1.out.past HQx.out).past hb2).frozen 0; have q3 := ((K1.out.past HQx.out).past hb2).lt; have KB := Lib.hid ((K1.out.past HQx.out).past hb2); clear hb2 t0 t1 t2 t3 tl)
          refine ⟨((keeps_below HP2.out).trans (KeepsOthers.setCell _ _ _)).from _, rfl, ⟨xs, by simp, HMv.out.trans HY.out⟩, by simpa using KB.out.set_ 0 (.bool true), ps (pt (pt HQ.out HQx.out) HP2.out) (by dsimp only; omega)⟩
        · have hmb : (mv == 2) = false := by simpa using hy
          have HY := Lib.hid hy
          clear hy
          gi_wp2_with (refine ⟨trivial, (fun h => nomatch h), ?_⟩; gi_at_call 36; refine (callsIn_wide.2 HMe.out).mono ?_; rintro e w2 ⟨rfl, hb2⟩; have HP2 := Lib.hid hb2; clear hb2 t0 t1 t2 t3 tl)
          refine ⟨(keeps_below HP2.out).from _, KeepG.of_below HP2.out (fun q hq => by have : q < B := hq; omega) HX4.out, ?_, pt HQx.out HP2.out⟩
          intro x hx
          rw [List.map_append, List.mem_append] at hx
          rcases hx with hx | hx
          · exact HNo.out x hx
          · have e : x = xs := by simpa using hx
            subst e
            exact fun h => HY.out (HMv.out.symm.trans h)
      case done =>
        rintro G D ys W hD hS ⟨hno, hq⟩ hK
        have HA := Lib.hid (show clashB rs sl (allC (slotN sl)) set = true from HCl.out.2 (by
          rw [show List.map Prod.snd ys = allC (slotN sl) from hS] at hno
          exact hno))
        have KB := Lib.hid (K1.out.past hq)
        have q1 := KB.out.cellAt 0 rfl
        have q2 := KB.out.frozen 0
        have q3 := KB.out.lt
        have HQx := Lib.hid hq
        have hWs2 := HQ.out.size
        clear hno hq hS
        gi_wp2
        refine ⟨by simp, .inl ⟨_, _, rfl, run_takeDeferred ((KeepsOthers.setCell W ⟨w.heap.size + 1, 0, none⟩ (.bool false)).same D _ hK rfl), ?_⟩⟩
        have p4 : Blk ((W.setCell ⟨w.heap.size + 1, 0, none⟩ (.bool false)).putObj D (.deferred none)) (w.heap.size + 1) 4 #[.bool false] := Blk.putObj (by simpa using KB.out.set_ 0 (.bool false)) (by omega)
        have e0 := p4.cellAt 0 rfl
        refine ⟨.bool false, by simp [results, Tryz.results39, go_sem, e0], ?_⟩
        rw [HA.out]
        exact ⟨rfl, (ps (pt HQ.out HQx.out) (by dsimp only; omega)).trans ⟨rfl, rfl, rfl, by simp, fun k hk => World.putObj_heap_other (by omega)⟩⟩
      case stop =>
        rintro G D c' pre W hD ⟨_, hpf⟩ ⟨rfl, ⟨x, hx, hx2⟩, q4, hq⟩ hK
        have HA := Lib.hid (show clashB rs sl (allC (slotN sl)) set = false from by
          cases hc : clashB rs sl (allC (slotN sl)) set with
          | false => rfl
          | true => exact absurd hx2 (HCl.out.1 hc x (hpf.subset hx)))
        have d4 := q4.cellAt 0 rfl
        have hWs2 := HQ.out.size
        clear hx hx2 hpf
        gi_wp2
        refine ⟨by simp, .inl ⟨_, _, rfl, run_takeDeferred hK, ?_⟩⟩
        have p4 : Blk (W.putObj D (.deferred none)) (w.heap.size + 1) 4 #[.bool true] := q4.putObj (by omega)
        have e0 := p4.cellAt 0 rfl
        refine ⟨.bool true, by simp [results, Tryz.results39, go_sem, e0], ?_⟩
        rw [HA.out]
        exact ⟨rfl, hq.trans ⟨rfl, rfl, rfl, by simp, fun k hk => World.putObj_heap_other (by omega)⟩⟩

theorem isPossible_any (B : Nat) (rs : List DReq) (RA : Option Addr) (rn rc : Nat) (sl : List (List DPart)) (SA : Option Addr) (n c : Nat) (idle price : Int) (set : List Int) (CA : Option Addr) (m cc : Nat) (w : World) (hrr : ReqsIn B w RA rs) (hr : SlotsIn B w SA sl) (hc : IntsIn B w CA set) (hB : B ≤ w.heap.size) (hrn : rs.length = rn) (hn : sl.length = n) (hm : set.length = m) (hm2 : m ≤ 1000) (hs : SlotsOk sl) (hrs : ∀ r ∈ rs, ReqOk r) (hb : ∀ j, j < m → 0 ≤ set.getD j 0 ∧ set.getD j 0 < (rn : Int)) :
    Calls Tryz.prog 39 #[.agg #[.slice SA n c, .int .i64 idle, .int .i64 price, .slice RA rn rc], .slice CA m cc] w fun e w' => e = .returned (.bool (!clashB rs sl (allC (slotN sl)) set)) ∧ Below w.heap.size w w' :=
  callsIn_wide.1 (isPossible_in 1 B rs RA rn rc sl SA n c idle price set CA m cc w hrr hr hc hB hrn hn hm hm2 hs hrs hb (Nat.le_refl _))

end Go.Proofs.YtnfbdkdjoekifaaGreatDoor
end

section
namespace Go.Proofs.YtnfbdkdjoekifaaGreatDoor
open Go.RowKit Go.Shelf
attribute [local go_sem] Oper.semAt_some undef

def setL (T : Option (List Int)) : List Int := T.getD []
def setE : Option (List Int) → Int
  | none => 12
  | some _ => 0
/-- A set of the callee's own, and an error. -/
def CtrRet (w : World) (xs : List Int) (err : Int) (e : Ending) (w' : World) : Prop :=
  ∃ A c, e = .returned (.tuple #[.slice A xs.length c, .int .i64 err]) ∧ IntsIn w'.heap.size w' A xs ∧ xs.length ≤ c ∧ Below w.heap.size w w'

set_option maxRecDepth 100000 in
set_option maxHeartbeats 4000000 in
theorem contradicting_err (B : Nat) (rs : List DReq) (RA : Option Addr) (rn rc : Nat) (sl : List (List DPart)) (SA : Option Addr) (n c : Nat) (idle price : Int) (w : World) (hrr : ReqsIn B w RA rs) (hr : SlotsIn B w SA sl) (hB : B ≤ w.heap.size) (hrn : rs.length = rn) (hrm : rn ≤ 1000) (hrs : ∀ r ∈ rs, r.ts.length ≤ 1000) (hU : UnitIn w) (hn : sl.length = n) (hm : n ≤ 1000) (hs : SmallSlots sl) (h0 : openE rs idle price sl ≠ 0) :
    Calls Tryz.prog 13 #[.agg #[.slice RA rn rc], .agg #[.slice SA n c, .int .i64 idle, .int .i64 price]] w (CtrRet w [] (openE rs idle price sl)) := by
  have HO := Lib.hid (fun W (hW : Below w.heap.size w W) => open_any B rs RA rn rc sl SA n c idle price W (hrr.below (hW.mono hB)) (hr.below (hW.mono hB)) (Nat.le_trans hB hW.size) hrn hrm hrs (hU.below hW) hn hm hs)
  have z1 : (openE rs idle price sl != 0) = true := by simpa using h0
  clear hrr hr hrn hrs hU hn hs h0
  generalize openE rs idle price sl = E at *
  have HB0 := Lib.hid (show Below w.heap.size w ((((w.alloc (.cells #[.slice RA rn rc] 24)).alloc (.cells #[.slice SA n c, .int .i64 idle, .int .i64 price] 27)).alloc (.cells #[.slice none 0 0] 32)).alloc (.cells #[.int .i64 0] 33)) from pa (pa (pa (pa pr))))
  have R4 := Lib.hid (show Blk ((((w.alloc (.cells #[.slice RA rn rc] 24)).alloc (.cells #[.slice SA n c, .int .i64 idle, .int .i64 price] 27)).alloc (.cells #[.slice none 0 0] 32)).alloc (.cells #[.int .i64 0] 33)) (w.heap.size + 1 + 1) 32 #[.slice none 0 0] from (Blk.newAt (by simp)).alloc)
  have R5 := Lib.hid (show Blk ((((w.alloc (.cells #[.slice RA rn rc] 24)).alloc (.cells #[.slice SA n c, .int .i64 idle, .int .i64 price] 27)).alloc (.cells #[.slice none 0 0] 32)).alloc (.cells #[.int .i64 0] 33)) (w.heap.size + 1 + 1 + 1) 33 #[.int .i64 0] from Blk.newAt (by simp))
  go_enter Tryz.func13, Tryz.ntmps13
  go_wp2_with (go_at_call 33; refine (HO.out _ HB0.out).mono ?_; rintro e w1 ⟨rfl, hb1⟩; have HB1 := Lib.hid (pt HB0.out hb1); have q4 := (R4.out.past hb1).cellAt 0 rfl; have f4 := (R4.out.past hb1).frozen 0; have l4 := (R4.out.past hb1).lt; have q5 := (R5.out.past hb1).cellAt 0 rfl; have f5 := (R5.out.past hb1).frozen 0; have l5 := (R5.out.past hb1).lt; have R4b := Lib.hid (R4.out.past hb1); have R5b := Lib.hid (R5.out.past hb1); clear hb1)

  have P4 := Lib.hid (show Blk (((w1.setCell ⟨w.heap.size + 1 + 1, 0, none⟩ (.slice none 0 0)).setCell ⟨w.heap.size + 1 + 1 + 1, 0, none⟩ (.int .i64 E)).alloc (.cells #[.slice SA n c, .int .i64 idle, .int .i64 price, .slice RA rn rc] 82)) (w.heap.size + 1 + 1) 32 #[.slice none 0 0] from ((by simpa using R4b.out.set_ 0 (.slice none 0 0) : Blk _ _ _ #[Value.slice none 0 0]).far (by dsimp only; omega)).alloc)
  have P5 := Lib.hid (show Blk (((w1.setCell ⟨w.heap.size + 1 + 1, 0, none⟩ (.slice none 0 0)).setCell ⟨w.heap.size + 1 + 1 + 1, 0, none⟩ (.int .i64 E)).alloc (.cells #[.slice SA n c, .int .i64 idle, .int .i64 price, .slice RA rn rc] 82)) (w.heap.size + 1 + 1 + 1) 33 #[.int .i64 E] from (by simpa using (R5b.out.far (p := ⟨w.heap.size + 1 + 1, 0, none⟩) (u := .slice none 0 0) (by dsimp only; omega)).set_ 0 (.int .i64 E) : Blk _ _ _ #[Value.int .i64 E]).alloc)
  have e0 := P4.out.cellAt 0 rfl
  have e1 := P5.out.cellAt 0 rfl
  refine bodyPost_ret (v := .tuple #[.slice none 0 0, .int .i64 E]) (by simp [results, Tryz.results13, go_sem, e0, e1]) rfl ?_
  exact ⟨none, 0, rfl, .inl rfl, Nat.zero_le _, pa (ps (ps HB1.out (by dsimp only; omega)) (by dsimp only; omega))⟩

set_option maxRecDepth 100000 in
set_option maxHeartbeats 8000000 in
theorem contradicting_in (m : Nat) (B : Nat) (rs : List DReq) (RA : Option Addr) (rn rc : Nat) (sl : List (List DPart)) (SA : Option Addr) (n c : Nat) (idle price : Int) (w : World) (hrr : ReqsIn B w RA rs) (hr : SlotsIn B w SA sl) (hB : B ≤ w.heap.size) (hrn : rs.length = rn) (hrm : rn ≤ 1000) (hrs : ∀ r ∈ rs, r.ts.length ≤ 1000) (hU : UnitIn w) (hn : sl.length = n) (hm : n ≤ 1000) (hs : SmallSlots sl) (h1 : 1 ≤ m) (h0 : openE rs idle price sl = 0) (hok : TaskOk rs idle price sl) :
    CallsIn Fence.wide m Tryz.prog 13 #[.agg #[.slice RA rn rc], .agg #[.slice SA n c, .int .i64 idle, .int .i64 price]] w (CtrRet w (setL (contrV rs sl)) (setE (contrV rs sl))) := by
  have HO := Lib.hid (fun W (hW : Below w.heap.size w W) => open_any B rs RA rn rc sl SA n c idle price W (hrr.below (hW.mono hB)) (hr.below (hW.mono hB)) (Nat.le_trans hB hW.size) hrn hrm hrs (hU.below hW) hn hm hs)
  rw [h0] at HO
  have HPo := Lib.hid (fun W set CA m cc (hW : Below w.heap.size w W) (hx : IntsIn W.heap.size W CA set) (hm : set.length = m) (hm2 : m ≤ 1000) (hb : ∀ j, j < m → 0 ≤ set.getD j 0 ∧ set.getD j 0 < (rn : Int)) => isPossible_any W.heap.size rs RA rn rc sl SA n c idle price set CA m cc W ((hrr.below (hW.mono hB)).more (Nat.le_trans hB hW.size)) ((hr.below (hW.mono hB)).more (Nat.le_trans hB hW.size)) hx (Nat.le_refl _) hrn hn hm hm2 hok.s hok.r hb)
  have HT := Lib.hid (show contrV rs sl = firstS (clashB rs sl (allC (slotN sl))) rn rn by rw [← hrn]; rfl)
  have hr6 : rn ≤ 6 := by rw [← hrn]; exact hok.n
  clear hrr hr hrn hrs hU hn hs h0 hok
  generalize contrV rs sl = T at *
  generalize clashB rs sl (allC (slotN sl)) = P at *
  refine callsIn_of_wp_marks Tryz.func13 rfl trivial ?_ rfl
  simp only [undef, Tryz.ntmps13, List.size_toArray, List.length_cons, List.length_nil, Nat.reduceAdd, Nat.reduceSub, Array.replicate_succ, Array.replicate_zero, List.push_toArray, List.append_toArray, List.nil_append, List.cons_append]
  have HB0 := Lib.hid (show Below w.heap.size w ((((w.alloc (.cells #[.slice RA rn rc] 24)).alloc (.cells #[.slice SA n c, .int .i64 idle, .int .i64 price] 27)).alloc (.cells #[.slice none 0 0] 32)).alloc (.cells #[.int .i64 0] 33)) from pa (pa (pa (pa pr))))
  have R4 := Lib.hid (show Blk ((((w.alloc (.cells #[.slice RA rn rc] 24)).alloc (.cells #[.slice SA n c, .int .i64 idle, .int .i64 price] 27)).alloc (.cells #[.slice none 0 0] 32)).alloc (.cells #[.int .i64 0] 33)) (w.heap.size + 1 + 1) 32 #[.slice none 0 0] from (Blk.newAt (by simp)).alloc)
  have R5 := Lib.hid (show Blk ((((w.alloc (.cells #[.slice RA rn rc] 24)).alloc (.cells #[.slice SA n c, .int .i64 idle, .int .i64 price] 27)).alloc (.cells #[.slice none 0 0] 32)).alloc (.cells #[.int .i64 0] 33)) (w.heap.size + 1 + 1 + 1) 33 #[.int .i64 0] from Blk.newAt (by simp))
  gi_wp2_with (refine ⟨trivial, ?_⟩; gi_at_call 33; refine (callsIn_wide.2 (HO.out _ HB0.out)).mono ?_; rintro e w1 ⟨rfl, hb1⟩; have HB1 := Lib.hid (pt HB0.out hb1); have R4b := Lib.hid (R4.out.past hb1); have R5b := Lib.hid (R5.out.past hb1); have T6 := Lib.hid (show Blk (w1.alloc (.cells #[.slice SA n c, .int .i64 idle, .int .i64 price, .slice RA rn rc] 82)) w1.heap.size 82 #[.slice SA n c, .int .i64 idle, .int .i64 price, .slice RA rn rc] from Blk.newAt rfl); have q6 := T6.out.cellAt 3 rfl; have l6 := T6.out.lt; clear hb1)
  have HBv := Lib.hid (show Below w.heap.size w (w1.alloc (.cells #[.slice SA n c, .int .i64 idle, .int .i64 price, .slice RA rn rc] 82)) from pa HB1.out)
  have R4c := Lib.hid (show Blk (w1.alloc (.cells #[.slice SA n c, .int .i64 idle, .int .i64 price, .slice RA rn rc] 82)) (w.heap.size + 1 + 1) 32 #[.slice none 0 0] from R4b.out.alloc)
  have R5c := Lib.hid (show Blk (w1.alloc (.cells #[.slice SA n c, .int .i64 idle, .int .i64 price, .slice RA rn rc] 82)) (w.heap.size + 1 + 1 + 1) 33 #[.int .i64 0] from R5b.out.alloc)
  generalize (w1.alloc (.cells #[.slice SA n c, .int .i64 idle, .int .i64 price, .slice RA rn rc] 82)) = v0 at *
  generalize w1.heap.size = tb at *
  clear R4 R5 R4b R5b HB0 HB1 q6 l6 HO
  refine wpIn_loop (fun a' wr => ∃ (u8 u9 u22 u23 u24 u25 u26 u27 u28 u29 u30 u31 u32 u33 u34 u35 u36 u37 u38 : Value) (Ds : List Nat), (∃ k : Nat, u22 = .int .i64 (k : Int) ∧ k ≤ rn ∧ firstS P rn k = none ∧ Below v0.heap.size v0 wr ∧ CollIn w.heap.size Ds wr) ∧ a' = { tmps := #[.agg #[.slice RA rn rc], .agg #[.slice SA n c, .int .i64 idle, .int .i64 price], .pointer (some ⟨w.heap.size, 0, none⟩), .pointer (some ⟨w.heap.size + 1, 0, none⟩), .pointer (some ⟨w.heap.size + 1 + 1, 0, none⟩), .pointer (some ⟨w.heap.size + 1 + 1 + 1, 0, none⟩), .pointer (some ⟨tb, 0, none⟩), .int .i64 0, u8, u9, .tuple #[.agg #[.slice SA n c, .int .i64 idle, .int .i64 price, .slice RA rn rc], .int .i64 0], .agg #[.slice RA rn rc], .agg #[.slice SA n c, .int .i64 idle, .int .i64 price], .tuple #[.agg #[.slice SA n c, .int .i64 idle, .int .i64 price, .slice RA rn rc], .int .i64 0], .agg #[.slice SA n c, .int .i64 idle, .int .i64 price, .slice RA rn rc], .int .i64 0, .int .i64 0, .bool false, .tuple #[], .pointer (some ⟨tb, 3, none⟩), .slice RA rn rc, .int .i64 (rn : Int), u22, u23, u24, u25, u26, u27, u28, u29, u30, u31, u32, u33, u34, u35, u36, u37, u38], defers := coll Ds }) (fun a' _ => rn - (intOf (a'.tmps.getD 22 undef)).toNat) ?_ ?_
  · (repeat apply Exists.intro)
    exact ⟨⟨0, rfl, Nat.zero_le _, rfl, Below.refl _ _, ⟨List.nodup_nil, fun D hD => by cases hD⟩⟩, rfl⟩
  · rintro _ wo ⟨u8, u9, u22, u23, u24, u25, u26, u27, u28, u29, u30, u31, u32, u33, u34, u35, u36, u37, u38, Ds, ⟨k, rfl, hk, hno, hq, hC⟩, rfl⟩
    have HNo := Lib.hid hno
    have HQ := Lib.hid hq
    have HC := Lib.hid hC
    have hwv := HBv.out.size
    have hvo := hq.size
    clear hno hq hC
    by_cases hlt : k < rn
    · have hlt2 : (k : Int) < (rn : Int) := by omega
      have q3 := (T6.out.past HQ.out).cellAt 3 rfl
      have l3 := (T6.out.past HQ.out).lt
      gi_wp2_with (refine ⟨trivial, ?_⟩; gi_at_call 38; refine (callsIn_wide.2 (subsets_any _ _ _)).mono ?_; rintro e w' ⟨rfl, rfl⟩)
      have c1 : Blk ((wo.alloc (.cells #[.int .i64 (rn : Int)] 3)).alloc (.cells #[.int .i64 ((k : Int) + 1)] 3)) (wo.heap.size + 1) 3 #[.int .i64 ((k + 1 : Nat) : Int)] := Blk.newAt (by simp)
      have c2 : Blk ((wo.alloc (.cells #[.int .i64 (rn : Int)] 3)).alloc (.cells #[.int .i64 ((k : Int) + 1)] 3)) wo.heap.size 3 #[.int .i64 (rn : Int)] := (Blk.newAt rfl).alloc
      have hW0 : ((wo.alloc (.cells #[.int .i64 (rn : Int)] 3)).alloc (.cells #[.int .i64 ((k : Int) + 1)] 3)).heap.size = wo.heap.size + 1 + 1 := by simp
      have hb2 : Below wo.heap.size wo ((wo.alloc (.cells #[.int .i64 (rn : Int)] 3)).alloc (.cells #[.int .i64 ((k : Int) + 1)] 3)) := pa (pa pr)
      generalize (wo.alloc (.cells #[.int .i64 (rn : Int)] 3)).alloc (.cells #[.int .i64 ((k : Int) + 1)] 3) = W0 at *
      have HQ0 := Lib.hid (pt HQ.out hb2)
      have HQw := Lib.hid (pt HBv.out HQ0.out)
      have HD := Lib.hid (fun D hD => HC.out.lt (D := D) hD)
      have HCk := Lib.hid (fun W (hW : Below W0.heap.size W0 W) => (show CollIn w.heap.size Ds W from ⟨HC.out.nodup, fun D hD => ⟨(HC.out.at_ D hD).1, (hW.block D (by have := HD.out D hD; omega)).trans ((hb2.block D (HD.out D hD)).trans (HC.out.at_ D hD).2)⟩⟩))
      have HFn := Lib.hid (fun s (hf : (allS rn (k + 1) 0).find? P = some s) => (show T = some s by
        rw [HT.out]
        have key : ∀ d, k + 1 ≤ d → firstS P rn d = some s := by
          intro d hd
          induction d with
          | zero => omega
          | succ d ih =>
            rw [firstS]
            by_cases e : k + 1 ≤ d
            · rw [ih e]
            · obtain rfl : d = k := by omega
              rw [HNo.out]
              exact hf
        exact key rn (by omega)))
      have HNx := Lib.hid (fun (h : (allS rn (k + 1) 0).find? P = none) => (show firstS P rn (k + 1) = none by rw [firstS, HNo.out]; exact h))
      clear q3 l3
      refine rangeFunc_lawG h1 (gf := 63) (fb := #[]) (lb := #[.pointer (some ⟨wo.heap.size + 1, 0, none⟩), .pointer (some ⟨wo.heap.size, 0, none⟩)]) rfl (enters_of Tryz.func63 (by kernel_rfl) rfl)
        (subsets_seq (m - 1) (k + 1) rn (by omega) (by omega) (by omega) (wo.heap.size + 1) wo.heap.size wo.heap.size W0 (by omega) (by omega) (by omega) (Nat.le_refl _) c1 c2) (Below.refl _ _)
        (fun h q => h.trans q) (fun G W A l o o' hG hl hl2 ho hc => KeepG.put o' (fun q hq => by have := hq.2; omega) (fun q hq => by have := hG q hq; omega))
        (fun G x A l o o' ho hc hp => hp.put o' ho hc) (fun x => rfl)
        (fun G (pre : List RowI) W => (∀ x ∈ pre.map (·.2), P x = false) ∧ Below W0.heap.size W0 W)
        (fun G c pre W => c = .ret ∧ ∃ xs0 x A1 c1, pre.map (·.2) = xs0 ++ [x] ∧ (∀ y ∈ xs0, P y = false) ∧ P x = true ∧ Blk W (w.heap.size + 1 + 1) 32 #[.slice A1 x.length c1] ∧ W.ownsRow w.heap.size 3 1 (.slice A1 x.length c1) x.length (x.map (Value.int .i64)) ∧ Blk W (w.heap.size + 1 + 1 + 1) 33 #[.int .i64 0] ∧ Below w.heap.size w W ∧ CollIn w.heap.size Ds W)
        (fun G hG s W W' row hs hg hr => ⟨hs.1, below_grown hs.2 hs.2.size hg (fun r e => by
          rcases hr r e with h2 | ⟨h2, _⟩
          · have := hG r h2; omega
          · exact h2)⟩)
        (fun G c s A B row hs hg hr => by
          obtain ⟨e, xs0, x, A1, c1, h1, h2, h3, h4, h5, h6, h7, h8⟩ := hs
          refine ⟨e, xs0, x, A1, c1, h1, h2, h3, own_blk _ _ _ _ s A B row h4 hg hr, own_row W0.heap.size w.heap.size 3 1 _ _ _ s A B row h5 hg hr, own_blk _ _ _ _ s A B row h6 hg hr, ownFrom_below (Nat.le_refl _) HQw.out.size s A B row h7 hg hr, ⟨h8.nodup, fun D hD => ⟨(h8.at_ D hD).1, (hg.block D (h8.lt hD) (fun e => by
            have h9 := HD.out D hD
            obtain ⟨h10, _⟩ := hr D e.symm
            omega)).trans (h8.at_ D hD).2⟩⟩⟩)
        (fun G hG => ⟨fun x hx => by simp at hx, Below.refl _ _⟩)
        (fun x => { tmps := #[.agg #[.slice RA rn rc], .agg #[.slice SA n c, .int .i64 idle, .int .i64 price], .pointer (some ⟨w.heap.size, 0, none⟩), .pointer (some ⟨w.heap.size + 1, 0, none⟩), .pointer (some ⟨w.heap.size + 1 + 1, 0, none⟩), .pointer (some ⟨w.heap.size + 1 + 1 + 1, 0, none⟩), .pointer (some ⟨tb, 0, none⟩), .int .i64 0, .int .i64 (k : Int), .slice x.1.1 (k + 1) x.1.2, .tuple #[.agg #[.slice SA n c, .int .i64 idle, .int .i64 price, .slice RA rn rc], .int .i64 0], .agg #[.slice RA rn rc], .agg #[.slice SA n c, .int .i64 idle, .int .i64 price], .tuple #[.agg #[.slice SA n c, .int .i64 idle, .int .i64 price, .slice RA rn rc], .int .i64 0], .agg #[.slice SA n c, .int .i64 idle, .int .i64 price, .slice RA rn rc], .int .i64 0, .int .i64 0, .bool false, .tuple #[], .pointer (some ⟨tb, 3, none⟩), .slice RA rn rc, .int .i64 (rn : Int), .int .i64 (k : Int), .bool true, .int .i64 (k : Int), .pointer (some ⟨tb, 3, none⟩), .slice RA rn rc, .int .i64 (rn : Int), .int .i64 (k : Int), .int .i64 ((k : Int) + 1), .func (.func 63) #[] #[.pointer (some ⟨wo.heap.size + 1, 0, none⟩), .pointer (some ⟨wo.heap.size, 0, none⟩)], .slice x.1.1 (k + 1) x.1.2, u32, u33, u34, u35, u36, u37, u38], defers := [] })
        ?assign ?body ?done ?stop
      case assign =>
        intro l x W K hK
        unfold rowEnc
        gi_wp2
        exact hK
      case body =>
        rintro l G pre ⟨⟨X, cX⟩, xs⟩ Wb W hG hWb ⟨hno, hq⟩ ⟨⟨hx1, hx2, hx3⟩, hx4, hx5⟩ hlen
        dsimp only at hx1 hx2 hx3 hx5 ⊢
        have hbd := asc_bd (allS_mem.1 hx5).2
        rw [hx2] at hbd
        have hWsz := hq.size
        have HMe := Lib.hid (HPo.out W xs X (k + 1) cX (pt HQw.out hq) hx1.ints hx2 (by omega) hbd)
        have HCl := Lib.hid (fun W' (hW' : Below W.heap.size W W') => clone_any W.heap.size X (k + 1) cX xs W' (hx1.ints.below hW') hx2 hW'.size (by omega))
        have TW := Lib.hid (T6.out.past (pt HQ0.out hq))
        have t0 := TW.out.cellAt 0 rfl
        have t1 := TW.out.cellAt 1 rfl
        have t2 := TW.out.cellAt 2 rfl
        have t3 := TW.out.cellAt 3 rfl
        have tl := TW.out.lt
        have HX2 := Lib.hid hx2
        have HX4 := Lib.hid hx4
        have HNo2 := Lib.hid hno
        have HQx := Lib.hid hq
        have R4w := Lib.hid (R4c.out.past (pt HQ0.out hq))
        have R5w := Lib.hid (R5c.out.past (pt HQ0.out hq))
        clear hx1 hx2 hx3 hx4 hx5 hlen hno hq hbd
        generalize hpx : P xs = pb at *
        have HPx := Lib.hid hpx
        clear hpx
        cases pb
        · gi_wp2_with (refine ⟨trivial, (fun h => nomatch h), ?_⟩; gi_at_call 39; refine (callsIn_wide.2 HMe.out).mono ?_; rintro e w2 ⟨rfl, hb2⟩; have HP2 := Lib.hid hb2; clear hb2 t0 t1 t2 t3 tl)
          refine ⟨(keeps_below HP2.out).from _, KeepG.of_below HP2.out (fun q hq => by have := hq.2; omega) HX4.out, ?_, pt HQx.out HP2.out⟩
          intro x hx
          rw [List.map_append, List.mem_append] at hx
          rcases hx with hx | hx
          · exact HNo2.out x hx
          · have e : x = xs := by simpa using hx
            subst e
            exact HPx.out
        · gi_wp2_with (first
            | (refine ⟨trivial, (fun h => nomatch h), ?_⟩; gi_at_call 39; refine (callsIn_wide.2 HMe.out).mono ?_; rintro e w2 ⟨rfl, hb2⟩; have HP2 := Lib.hid hb2; clear hb2 t0 t1 t2 t3 tl)
            | (refine ⟨trivial, (fun h => nomatch h), ?_⟩; gi_at_call 37; refine (callsIn_wide.2 (HCl.out _ HP2.out)).mono ?_; rintro e w4 ⟨v4, rfl, hown, hb3⟩; rw [HX2.out] at hown; obtain ⟨g4, c4, rfl⟩ := own_some hown (Nat.succ_pos k); have HO4 := Lib.hid hown; have HP3 := Lib.hid (pt HP2.out hb3); have K4 := Lib.hid (R4w.out.past HP3.out); have K5 := Lib.hid (R5w.out.past HP3.out); have p4 := K4.out.cellAt 0 rfl; have f4 := K4.out.frozen 0; have z4 := K4.out.lt; have p5 := K5.out.cellAt 0 rfl; have f5 := K5.out.frozen 0; have z5 := K5.out.lt; clear hown hb3))
          refine ⟨((keeps_below HP3.out).trans ((KeepsOthers.setCell _ _ _).trans (KeepsOthers.setCell _ _ _))).from _, rfl, pre.map (·.2), xs, some ⟨g4, 0, none⟩, c4, by simp, HNo2.out, HPx.out, ?_, ?_, ?_, ?_, ?_⟩
          · rw [HX2.out]
            exact (by simpa using K4.out.set_ 0 (.slice (some ⟨g4, 0, none⟩) (k + 1) c4) : Blk _ _ _ #[Value.slice (some ⟨g4, 0, none⟩) (k + 1) c4]).far (by dsimp only; omega)
          · rw [HX2.out]
            exact own_cellT (own_cellT (own_base HO4.out (by have := HP2.out.size; have := HQw.out.size; omega)) K4.out (by decide) rfl _) ((K5.out.far (p := ⟨w.heap.size + 1 + 1, 0, none⟩) (by dsimp only; omega))) (by decide) rfl _
          · simpa using (K5.out.far (p := ⟨w.heap.size + 1 + 1, 0, none⟩) (u := .slice (some ⟨g4, 0, none⟩) (k + 1) c4) (by dsimp only; omega)).set_ 0 (.int .i64 0)
          · exact ps (ps (pt (pt HQw.out HQx.out) HP3.out) (by dsimp only; omega)) (by dsimp only; omega)
          · exact (HCk.out W HQx.out).keeps ((keeps_below HP3.out).trans ((KeepsOthers.setCell _ _ _).trans (KeepsOthers.setCell _ _ _)))
      case done =>
        rintro G D ys W hD hS ⟨hno, hq⟩ hK
        have HN2 := Lib.hid (HNx.out (by
          rw [show List.map Prod.snd ys = allS rn (k + 1) 0 from hS] at hno
          rw [List.find?_eq_none]
          intro x hx h
          rw [hno x hx] at h
          cases h))
        have HC3 := Lib.hid ((HCk.out W hq).cons (Nat.le_trans HQw.out.size hD) hK (fun D' h => by have := HD.out D' h; omega))
        have HQx := Lib.hid (pt HQ0.out hq)
        clear hno hq hS
        gi_wp2
        refine ⟨⟨_, _, _, _, _, _, _, _, _, _, _, _, _, _, _, _, _, _, _, D :: Ds, ⟨k + 1, by go_num, by omega, HN2.out, HQx.out, HC3.out⟩, rfl⟩, ?_⟩
        simp [intOf]; omega
      case stop =>
        rintro G D c' pre W hD hSp ⟨rfl, xs0, x, A1, c1, hpe, hf, hx, h4, h5, h6, h7, h8⟩ hK
        have HTx := Lib.hid (HFn.out x (by
          obtain ⟨_, t, ht⟩ := hSp
          rw [← ht, hpe, List.append_assoc, List.find?_append, List.find?_eq_none.2 (fun y hy h => by rw [hf y hy] at h; cases h), List.singleton_append, List.find?_cons, hx]
          rfl))
        have HC3 := Lib.hid (h8.cons (Nat.le_trans HQw.out.size hD) hK (fun D' h => by have := HD.out D' h; omega))
        have H4 := Lib.hid h4
        have H5 := Lib.hid h5
        have H6 := Lib.hid h6
        have H7 := Lib.hid h7
        clear hpe hf hx h4 h5 h6 h7 h8
        gi_wp2
        refine leaves_coll (B := w.heap.size) (Ds := D :: Ds) HC3.out (fun W' hW' hk' => ?_)
        have e0 := cell_keeps hk' (H4.out.cellAt 0 rfl)
        have e1 := cell_keeps hk' (H6.out.cellAt 0 rfl)
        refine ⟨.tuple #[.slice A1 x.length c1, .int .i64 0], by simp [results, Tryz.results13, go_sem, e0, e1], ?_⟩
        rw [HTx.out]
        refine ⟨A1, c1, rfl, ?_, own_cap H5.out, H7.out.trans hW'⟩
        rcases intsIn_of_own H5.out with h | ⟨b, off, q4, q6, q7⟩
        · exact .inl h
        · exact .inr ⟨b, off, q4, Nat.lt_of_lt_of_le q6 hW'.size, fun j hj => cell_keeps hk' (q7 j hj)⟩
    · have hke : k = rn := by omega
      subst hke
      have hlt2 : ¬ (k : Int) < (k : Int) := by omega
      have HE := Lib.hid (HT.out.trans HNo.out)
      have K4 := Lib.hid (R4c.out.past HQ.out)
      have K5 := Lib.hid (R5c.out.past HQ.out)
      have p4 := K4.out.cellAt 0 rfl
      have f4 := K4.out.frozen 0
      have z4 := K4.out.lt
      have p5 := K5.out.cellAt 0 rfl
      have f5 := K5.out.frozen 0
      have z5 := K5.out.lt
      gi_wp2
      have P4 := Lib.hid (show Blk ((wo.setCell ⟨w.heap.size + 1 + 1, 0, none⟩ (.slice none 0 0)).setCell ⟨w.heap.size + 1 + 1 + 1, 0, none⟩ (.int .i64 12)) (w.heap.size + 1 + 1) 32 #[.slice none 0 0] from (by simpa using K4.out.set_ 0 (.slice none 0 0) : Blk _ _ _ #[Value.slice none 0 0]).far (by dsimp only; omega))
      have P5 := Lib.hid (show Blk ((wo.setCell ⟨w.heap.size + 1 + 1, 0, none⟩ (.slice none 0 0)).setCell ⟨w.heap.size + 1 + 1 + 1, 0, none⟩ (.int .i64 12)) (w.heap.size + 1 + 1 + 1) 33 #[.int .i64 12] from by simpa using (K5.out.far (p := ⟨w.heap.size + 1 + 1, 0, none⟩) (u := .slice none 0 0) (by dsimp only; omega)).set_ 0 (.int .i64 12))
      refine leaves_coll (B := w.heap.size) (HC.out.keeps ((KeepsOthers.setCell _ _ _).trans (KeepsOthers.setCell _ _ _))) (fun W' hW' hk' => ?_)
      have e0 := cell_keeps hk' (P4.out.cellAt 0 rfl)
      have e1 := cell_keeps hk' (P5.out.cellAt 0 rfl)
      refine ⟨.tuple #[.slice none 0 0, .int .i64 12], by simp [results, Tryz.results13, go_sem, e0, e1], ?_⟩
      rw [HE.out]
      exact ⟨none, 0, rfl, .inl rfl, Nat.zero_le _, (ps (ps (pt HBv.out HQ.out) (by dsimp only; omega)) (by dsimp only; omega)).trans hW'⟩

/-- The contract of Contradicting for whatever numbers. -/
def ctrE (rs : List DReq) (idle price : Int) (sl : List (List DPart)) : Int := if openE rs idle price sl = 0 then setE (contrV rs sl) else openE rs idle price sl
def ctrL (rs : List DReq) (idle price : Int) (sl : List (List DPart)) : List Int := if openE rs idle price sl = 0 then setL (contrV rs sl) else []
theorem contradicting_any (B : Nat) (rs : List DReq) (RA : Option Addr) (rn rc : Nat) (sl : List (List DPart)) (SA : Option Addr) (n c : Nat) (idle price : Int) (w : World) (hrr : ReqsIn B w RA rs) (hr : SlotsIn B w SA sl) (hB : B ≤ w.heap.size) (hrn : rs.length = rn) (hrm : rn ≤ 1000) (hrs : ∀ r ∈ rs, r.ts.length ≤ 1000) (hU : UnitIn w) (hn : sl.length = n) (hm : n ≤ 1000) (hs : SmallSlots sl) (h6 : Six sl) :
    Calls Tryz.prog 13 #[.agg #[.slice RA rn rc], .agg #[.slice SA n c, .int .i64 idle, .int .i64 price]] w (CtrRet w (ctrL rs idle price sl) (ctrE rs idle price sl)) := by
  unfold ctrL ctrE
  by_cases h0 : openE rs idle price sl = 0
  · rw [if_pos h0, if_pos h0]
    exact callsIn_wide.1 (contradicting_in 1 B rs RA rn rc sl SA n c idle price w hrr hr hB hrn hrm hrs hU hn hm hs (Nat.le_refl _) h0 (openE_ok h6 h0))
  · rw [if_neg h0, if_neg h0]
    exact contradicting_err B rs RA rn rc sl SA n c idle price w hrr hr hB hrn hrm hrs hU hn hm hs h0

end Go.Proofs.YtnfbdkdjoekifaaGreatDoor
end

section
namespace Go.Proofs.YtnfbdkdjoekifaaGreatDoor
open Go.RowKit
attribute [local go_sem high] maxI

theorem mulm_bd {a b : Int} (h0 : 0 ≤ a) (h1 : a ≤ 300) (h2 : 0 ≤ b) (h3 : b ≤ 1000) : 0 ≤ a * b ∧ a * b ≤ 300000 := by
  have h4 := Int.mul_le_mul h1 h3 h2 (by decide : (0 : Int) ≤ 300)
  exact ⟨Int.mul_nonneg h0 h2, h4⟩

/-- The number of choices of the first slots, or one above 300. -/
def lightN (sl : List (List DPart)) : Nat → Int
  | 0 => 1
  | k + 1 => if lightN sl k ≤ 300 then lightN sl k * max 1 ((sl.getD k []).length : Int) else lightN sl k
def lightB (sl : List (List DPart)) : Bool := decide (lightN sl sl.length ≤ 300)
theorem light_stays {sl : List (List DPart)} {i : Nat} (h : ¬ lightN sl i ≤ 300) : ∀ d, lightN sl (i + d) = lightN sl i
  | 0 => rfl
  | d + 1 => by
    rw [← Nat.add_assoc, lightN, light_stays h d, if_neg h]

set_option maxRecDepth 100000 in
set_option maxHeartbeats 4000000 in
theorem light_any (B : Nat) (sl : List (List DPart)) (A : Option Addr) (n c : Nat) (idle price : Int) (w : World) (hr : SlotsIn B w A sl) (hB : B ≤ w.heap.size) (hn : sl.length = n) (hn1 : n ≤ 1000) (hs : ∀ l ∈ sl, l.length ≤ 1000) :
    Calls Tryz.prog 9 #[.agg #[.slice A n c, .int .i64 idle, .int .i64 price]] w fun e w' => e = .returned (.bool (lightB sl)) ∧ Below w.heap.size w w' := by
  have HR := Lib.hid hr
  have HS := Lib.hid hs
  have HN := Lib.hid hn
  clear hr hs hn
  have K0 := Lib.hid (show Blk (w.alloc (.cells #[.slice A n c, .int .i64 idle, .int .i64 price] 27)) w.heap.size 27 #[.slice A n c, .int .i64 idle, .int .i64 price] from Blk.newAt rfl)
  have HB0 := Lib.hid (show Below w.heap.size w (w.alloc (.cells #[.slice A n c, .int .i64 idle, .int .i64 price] 27)) from pa pr)
  go_enter Tryz.func9, Tryz.ntmps9
  go_wp2
  generalize w.alloc (.cells #[.slice A n c, .int .i64 idle, .int .i64 price] 27) = w0 at *
  go_loopw [3, 4] (fun nv iv wr => ∃ (N : Int) (i : Nat), nv = .int .i64 N ∧ iv = .int .i64 (i : Int) ∧ i ≤ n ∧ lightN sl i = N ∧ 0 ≤ N ∧ N ≤ 300000 ∧ Below w0.heap.size w0 wr) (fun _ iv _ => n - (intOf iv).toNat)
  case atStart => exact ⟨1, 0, rfl, rfl, Nat.zero_le _, rfl, by decide, by decide, pr⟩
  case round =>
    obtain ⟨N, i, rfl, rfl, hi, hNe, hN0, hN1, hq⟩ := hrel
    have HNe := Lib.hid hNe
    clear hNe
    have HQ := Lib.hid hq
    have k0 := (K0.out.past hq).cellAt 0 rfl
    have kl := (K0.out.past hq).lt
    clear hq
    by_cases hlt : i < n
    · have d1 : decide (i < n) = true := decide_eq_true hlt
      by_cases hle : N ≤ 300
      · have hi' : i < sl.length := by rw [HN.out]; exact hlt
        obtain ⟨b, off, rfl, hb, hct⟩ := HR.out.at_ hi'
        obtain ⟨A2, c2, e1, _, _⟩ := hct i hi'
        have hl2 := HS.out (sl.getD i []) (getD_mem' hi')
        have hbw : b < wr.heap.size := by have := HB0.out.size; have := HQ.out.size; omega
        have e2 : wr.cell? ⟨b, off + i, none⟩ = some (.slice A2 (sl.getD i []).length c2) := ((bcell (pt HB0.out HQ.out)).1 _ _ (Nat.lt_of_lt_of_le hb hB)).trans e1
        have i0 : (0 : Int) ≤ (i : Int) := by omega
        have i1 : (i : Int) < (n : Int) := by omega
        have HSt := Lib.hid (show lightN sl (i + 1) = N * max 1 ((sl.getD i []).length : Int) by rw [lightN, HNe.out, if_pos hle])
        generalize (sl.getD i []).length = ln at *
        obtain ⟨mx, hmx⟩ : ∃ mx : Int, max (1 : Int) (ln : Int) = mx := ⟨_, rfl⟩
        rw [hmx] at HSt
        have hbd := mulm_bd hN0 hle (show 0 ≤ mx by omega) (show mx ≤ 1000 by omega)
        have hw : IntKind.i64.wrap (N * mx) = N * mx := IntWalk.i64_in _ (by omega)
        clear hct e1
        go_wp2
        go_roundw
        case rel => exact ⟨N * mx, i + 1, rfl, by go_num, by omega, HSt.out, hbd.1, hbd.2, HQ.out⟩
        case measure => simp [intOf]; omega
      · have d2 : decide (N ≤ 300) = false := decide_eq_false hle
        have HB := Lib.hid (show lightB sl = false by
          have h := light_stays (sl := sl) (i := i) (by rw [HNe.out]; exact hle) (n - i)
          unfold lightB
          rw [HN.out, show n = i + (n - i) by omega, h, HNe.out, d2])
        go_wp2
        refine bodyPost_ret (v := .bool false) (by simp [results, Tryz.results9, go_sem]) rfl ⟨by rw [HB.out], pt HB0.out HQ.out⟩
    · have d1 : decide (i < n) = false := decide_eq_false hlt
      have d3 : ¬ (i : Int) < (n : Int) := by omega
      have hin : i = n := by omega
      have HB0x := Lib.hid (show lightB sl = decide (N ≤ 300) by
        unfold lightB
        rw [HN.out, ← hin, HNe.out])
      clear hin
      by_cases hle : N ≤ 300
      · have HB := Lib.hid (show lightB sl = true by rw [HB0x.out, decide_eq_true hle])
        go_wp2
        refine bodyPost_ret (v := .bool true) (by simp [results, Tryz.results9, go_sem]) rfl ⟨by rw [HB.out], pt HB0.out HQ.out⟩
      · have HB := Lib.hid (show lightB sl = false by rw [HB0x.out, decide_eq_false hle])
        go_wp2
        refine bodyPost_ret (v := .bool false) (by simp [results, Tryz.results9, go_sem]) rfl ⟨by rw [HB.out], pt HB0.out HQ.out⟩

theorem chea_sizes {rs : List DReq} {idle price : Int} {sl : List (List DPart)} (h0 : 0 < rs.length) : contrV rs sl = none ↔ cheaF rs idle price sl (allC (slotN sl)) ≠ none := by
  have h := contr_iff (rs := rs) h0 (sl := sl) (cost := costC idle price sl)
  have e : (fun c => meetsV rs sl c == 2) = meetB rs sl := by
    funext c
    unfold meetB
    by_cases h2 : meetsV rs sl c = 2 <;> simp [h2]
  rw [e] at h
  exact h
/-- Cheapest at a valid task. -/
theorem cheapest_ok (B : Nat) (rs : List DReq) (RA : Option Addr) (rn rc : Nat) (sl : List (List DPart)) (SA : Option Addr) (n c : Nat) (idle price : Int) (w : World) (hrr : ReqsIn B w RA rs) (hr : SlotsIn B w SA sl) (hB : B ≤ w.heap.size) (hrn : rs.length = rn) (hrm : rn ≤ 1000) (hrs : ∀ r ∈ rs, r.ts.length ≤ 1000) (hU : UnitIn w) (hn : sl.length = n) (hm : n ≤ 1000) (hs : SmallSlots sl) (h6 : Six sl) (h0 : openE rs idle price sl = 0) :
    Calls Tryz.prog 10 #[.agg #[.slice RA rn rc], .agg #[.slice SA n c, .int .i64 idle, .int .i64 price]] w (StepsRet w (cheaL (cheaF rs idle price sl (allC (slotN sl)))) (cheaN (cheaF rs idle price sl (allC (slotN sl)))) (cheaE (cheaF rs idle price sl (allC (slotN sl))))) :=
  cheapest_any B rs RA rn rc sl SA n c idle price w hrr hr hB hrn hrm hrs hU hn hm hs (fun h => (openE_ok h6 h).s) (fun h => (openE_ok h6 h).r) (fun h => (openE_ok h6 h).i) (fun h => (openE_ok h6 h).p) h0

end Go.Proofs.YtnfbdkdjoekifaaGreatDoor
end

section
namespace Go.Proofs.YtnfbdkdjoekifaaGreatDoor
open Go.RowKit

theorem specE_pick {rs : List DReq} (h : (specE rs).2 = 0) {set : List Int} (h0 : 0 < set.length) (h6 : set.length ≤ 6) (hb : ∀ j, j < set.length → 0 ≤ set.getD j 0 ∧ set.getD j 0 < (rs.length : Int)) : (specE (pickR rs set)).2 = 0 := by
  have hr : ∀ r ∈ rs, reqE r = 0 := by
    unfold specE at h
    by_cases h1 : specE1 rs.length = 0
    · rw [if_neg (by simpa using h1)] at h
      intro r hr
      obtain ⟨i, hi, he⟩ := mem_getD hr
      have h2 := scan_none (m := rs.length) (k := 0) rfl h i (Nat.zero_le _) hi
      unfold reqErrs at h2
      rw [he] at h2
      exact h2
    · rw [if_pos h1] at h
      exact absurd h h1
  have hl := pick_len rs set
  unfold specE
  have e1 : specE1 (pickR rs set).length = 0 := by
    rw [hl]
    unfold specE1
    rw [decide_eq_true h0, decide_eq_true (show ((set.length : Nat) : Int) ≤ 6 by omega)]
    rfl
  rw [if_neg (by simpa using e1), scan_all (m := (pickR rs set).length) (k := 0) rfl fun j _ hj => ?_]
  unfold reqErrs
  rw [hl] at hj
  have e : (pickR rs set).getD j default = rs.getD (set.getD j 0).toNat default := by
    unfold pickR
    simp [List.getD, hj]
  rw [e]
  have h3 := hb j hj
  exact hr _ (getD_mem' (by omega))
theorem openE_pick {rs : List DReq} {idle price : Int} {sl : List (List DPart)} (h : openE rs idle price sl = 0) {set : List Int} (h0 : 0 < set.length) (h6 : set.length ≤ 6) (hb : ∀ j, j < set.length → 0 ≤ set.getD j 0 ∧ set.getD j 0 < (rs.length : Int)) : openE (pickR rs set) idle price sl = 0 :=
  openE_zero.2 ⟨specE_pick (openE_zero.1 h).1 h0 h6 hb, (openE_zero.1 h).2⟩
theorem asc_next {n : Nat} : ∀ {l : List Int} {lo : Int}, AscS n lo l → ∀ j, j + 1 < l.length → l.getD j 0 < l.getD (j + 1) 0
  | [], _, _, j, hj => by simp at hj
  | [x], _, _, j, hj => by simp at hj
  | x :: y :: l, lo, h, 0, _ => by
    obtain ⟨_, _, h3, _⟩ := h
    show x < y
    omega
  | x :: y :: l, lo, h, j + 1, hj => by
    have h2 := asc_next (l := y :: l) h.2.2 j (by simpa using hj)
    simpa [List.getD] using h2
/-- The set without one of its numbers, up to an index; below 0: with all. -/
def skipL (s : List Int) (wo : Int) (i : Nat) : List Int := if wo < 0 then s.take i else (s.take i).eraseIdx wo.toNat
theorem skip_len (s : List Int) (wo : Int) (i : Nat) : (skipL s wo i).length ≤ i := by
  unfold skipL
  split
  · rw [List.length_take]; omega
  · have h := List.length_eraseIdx_le (s.take i) wo.toNat
    rw [List.length_take] at h
    omega
theorem skip_zero (s : List Int) (wo : Int) : skipL s wo 0 = [] := by
  unfold skipL
  split <;> simp
theorem skip_same {s : List Int} {wo : Int} {i : Nat} (h : i < s.length) (he : wo = (i : Int)) : skipL s wo (i + 1) = skipL s wo i := by
  subst he
  unfold skipL
  rw [if_neg (by omega), if_neg (by omega), Int.toNat_natCast, List.take_succ_eq_append_getElem h]
  have hl : (s.take i).length = i := by rw [List.length_take]; omega
  rw [List.eraseIdx_append_of_length_le (by omega), hl, Nat.sub_self, List.eraseIdx_of_length_le (l := s.take i) (by omega)]
  simp
theorem skip_next {s : List Int} {wo : Int} {i : Nat} (h : i < s.length) (_hw : -1 ≤ wo) (he : wo ≠ (i : Int)) : skipL s wo (i + 1) = skipL s wo i ++ [s.getD i 0] := by
  have hg : s.getD i 0 = s[i] := by simp [List.getD, h]
  have hl : (s.take i).length = i := by rw [List.length_take]; omega
  unfold skipL
  by_cases h0 : wo < 0
  · rw [if_pos h0, if_pos h0, List.take_succ_eq_append_getElem h, hg]
  · rw [if_neg h0, if_neg h0, List.take_succ_eq_append_getElem h, hg]
    by_cases h1 : wo.toNat < i
    · rw [List.eraseIdx_append_of_lt_length (by omega)]
    · rw [List.eraseIdx_of_length_le (l := s.take i ++ [s[i]]) (by rw [List.length_append, hl, List.length_singleton]; omega), List.eraseIdx_of_length_le (l := s.take i) (by omega)]
theorem skip_end (s : List Int) (wo : Int) : skipL s wo s.length = if wo < 0 then s else s.eraseIdx wo.toNat := by
  unfold skipL
  rw [List.take_length]
/-- What is known of requirements that contradict the stock. -/
structure CtrOk (rs : List DReq) (idle price : Int) (sl : List (List DPart)) (s : List Int) : Prop where
  pos : 1 ≤ s.length
  le : s.length ≤ rs.length
  bd : ∀ j, j < s.length → 0 ≤ s.getD j 0 ∧ s.getD j 0 < (rs.length : Int)
  asc : ∀ j, j + 1 < s.length → s.getD j 0 < s.getD (j + 1) 0
  none_ : cheaF (pickR rs s) idle price sl (allC (slotN sl)) = none
  some_ : ∀ i, i < s.length → 1 < s.length → cheaF (pickR rs (s.eraseIdx i)) idle price sl (allC (slotN sl)) ≠ none
  ebd : ∀ i j, j < (s.eraseIdx i).length → 0 ≤ (s.eraseIdx i).getD j 0 ∧ (s.eraseIdx i).getD j 0 < (rs.length : Int)
theorem ctr_ok {rs : List DReq} {idle price : Int} {sl : List (List DPart)} {s : List Int} (h : contrV rs sl = some s) : CtrOk rs idle price sl s := by
  have h' : firstS (clashB rs sl (allC (slotN sl))) rs.length rs.length = some s := h
  obtain ⟨c, hc, hs, hP, _⟩ := firstS_some h'
  obtain ⟨h1, h2⟩ := allS_mem.1 hs
  refine ⟨by omega, by omega, fun j hj => ?_, asc_next h2, ?_, fun i hi h1s => ?_, fun i j hj => ?_⟩
  · have := asc_bd h2 j hj
    omega
  · rw [clash_chea (idle := idle) (price := price)] at hP
    simpa using hP
  · have h3 := firstS_erase h' hi h1s
    rw [clash_chea (idle := idle) (price := price)] at h3
    intro h4
    rw [h4] at h3
    cases h3
  · have := asc_bd (asc_erase i h2) j hj
    omega
/-- The error of the cheapest design of the set, or of the set without one. -/
theorem ctr_err {rs : List DReq} {idle price : Int} {sl : List (List DPart)} {s : List Int} (h : CtrOk rs idle price sl s) (h0 : openE rs idle price sl = 0) (h6 : rs.length ≤ 6) {wo : Int} (_hw : -1 ≤ wo) (hw2 : wo < (s.length : Int)) (hl : 0 < (skipL s wo s.length).length) :
    openE (pickR rs (skipL s wo s.length)) idle price sl = 0 ∧ cheaE (cheaF (pickR rs (skipL s wo s.length)) idle price sl (allC (slotN sl))) = if wo < 0 then 12 else 0 := by
  rw [skip_end] at hl ⊢
  by_cases hn : wo < 0
  · rw [if_pos hn] at hl ⊢
    rw [if_pos hn, h.none_]
    have := h.le
    exact ⟨openE_pick h0 hl (by omega) h.bd, rfl⟩
  · rw [if_neg hn] at hl ⊢
    rw [if_neg hn]
    have hlt : wo.toNat < s.length := by omega
    have hle := List.length_eraseIdx_of_lt hlt
    have := h.le
    have h3 := h.some_ wo.toNat hlt (by omega)
    refine ⟨openE_pick h0 hl (by omega) (h.ebd _), ?_⟩
    cases hx : cheaF (pickR rs (s.eraseIdx wo.toNat)) idle price sl (allC (slotN sl)) with
    | none => exact absurd hx h3
    | some x => rfl

end Go.Proofs.YtnfbdkdjoekifaaGreatDoor
end
