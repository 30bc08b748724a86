/- Plain facts on designs from stock: ranges of sums, margins, what a choice costs, the cheapest one, and the bound of prices. No program is in sight. -/
import Derived.Test.YtapegimghfflhaaRows

section
namespace Go.Proofs.Ytapegimghfflhaa
structure DTerm where
  f : Int
  q : Int
structure DReq where
  ts : List DTerm
  ge : Bool
  lim : Int
  unit : Int
structure DPart where
  name : ByteArray
  price : Int
  vs : List (Int × Int)
instance : Inhabited DTerm := ⟨⟨0, 0⟩⟩
instance : Inhabited DReq := ⟨⟨[], false, 0, 0⟩⟩
instance : Inhabited DPart := ⟨⟨default, 0, []⟩⟩
/-- The range of a quantity of a part; its cost; the part of a slot by a choice's number. -/
def valP (p : DPart) (q : Int) : Int × Int := p.vs.getD q.toNat (0, 0)
def partC (idle price : Int) (p : DPart) : Int := p.price + idle * (valP p 2).2 + price * (valP p 3).2
def partAt (sl : List (List DPart)) (i : Nat) (n : Int) : DPart := (sl.getD i []).getD n.toNat default
def valsF (sl : List (List DPart)) (ch : List Int) : Nat → Int → Int × Int
  | 0, _ => (0, 0)
  | k + 1, q => ((valsF sl ch k q).1 + (valP (partAt sl k (ch.getD k 0)) q).1, (valsF sl ch k q).2 + (valP (partAt sl k (ch.getD k 0)) q).2)
def costF (idle price : Int) (sl : List (List DPart)) (ch : List Int) : Nat → Int
  | 0 => 0
  | k + 1 => costF idle price sl ch k + partC idle price (partAt sl k (ch.getD k 0))
def costC (idle price : Int) (sl : List (List DPart)) (ch : List Int) : Int := costF idle price sl ch ch.length
/-- The range of the sum of terms. -/
def stepT (v : Int → Int × Int) (o : Int × Int) (t : DTerm) : Int × Int := (o.1 + min (t.f * (v t.q).1) (t.f * (v t.q).2), o.2 + max (t.f * (v t.q).1) (t.f * (v t.q).2))
def sumT (ts : List DTerm) (v : Int → Int × Int) : Int × Int := ts.foldl (stepT v) (0, 0)
def marginV (r : DReq) (v : Int → Int × Int) : Int × Int := if r.ge then ((sumT r.ts v).1 - r.lim, (sumT r.ts v).2 - r.lim) else (r.lim - (sumT r.ts v).2, r.lim - (sumT r.ts v).1)
def marginsV (rs : List DReq) (sl : List (List DPart)) (ch : List Int) : List (Int × Int) := rs.map fun r => marginV r (valsF sl ch ch.length)
/-- 0: surely not, 1: undecided, 2: surely. -/
def meetsF : List (Int × Int) → Int → Int
  | [], a => a
  | m :: l, a => if m.2 < 0 then 0 else meetsF l (if m.1 < 0 then 1 else a)
def meetsV (rs : List DReq) (sl : List (List DPart)) (ch : List Int) : Int := meetsF (marginsV rs sl ch) 2

/-- Whatever the values are in their ranges, the sum is in its own. -/
def sumX (x : Int → Int) : List DTerm → Int
  | [] => 0
  | t :: ts => t.f * x t.q + sumX x ts
def diffX (r : DReq) (x : Int → Int) : Int := if r.ge then sumX x r.ts - r.lim else r.lim - sumX x r.ts
/-- A choice's ranges are ranges. -/
def PartOk (p : DPart) : Prop := p.vs.length = 6 ∧ (0 ≤ p.price ∧ p.price ≤ 1000000) ∧ ∀ q : Int, 0 ≤ (valP p q).1 ∧ (valP p q).1 ≤ (valP p q).2 ∧ (valP p q).2 ≤ 1000000
def SlotsOk (sl : List (List DPart)) : Prop := (0 < sl.length ∧ sl.length ≤ 5) ∧ ∀ l ∈ sl, (0 < l.length ∧ l.length ≤ 6) ∧ ∀ p ∈ l, PartOk p
def ChoiceOk (sl : List (List DPart)) (ch : List Int) : Prop := ch.length = sl.length ∧ ∀ i, i < sl.length → 0 ≤ ch.getD i 0 ∧ ch.getD i 0 < ((sl.getD i []).length : Int)
/-- What a requirement needs of a part, and its limit: both with the sign that makes it an upper bound. -/
def needV (r : DReq) (v : Int → Int × Int) : Int := if r.ge then -(sumT r.ts v).1 else (sumT r.ts v).2
def limitV (r : DReq) : Int := if r.ge then -r.lim else r.lim
def needF (r : DReq) (sl : List (List DPart)) (ch : List Int) : Nat → Int
  | 0 => 0
  | k + 1 => needF r sl ch k + needV r (valP (partAt sl k (ch.getD k 0)))
/-- The prices of what is needed. -/
def payV : List DReq → List Int → (DReq → Int) → Int
  | r :: rs, p :: ps, f => p * f r + payV rs ps f
  | _, _, _ => 0
def pricedC (idle price : Int) (rs : List DReq) (ps : List Int) (p : DPart) : Int := partC idle price p + payV rs ps (fun r => needV r (valP p))
def minL : List Int → Int
  | [] => 0
  | [x] => x
  | x :: y :: l => min x (minL (y :: l))
def boundF (idle price : Int) (rs : List DReq) (ps : List Int) : List (List DPart) → Int
  | [] => 0
  | l :: sl => minL (l.map (pricedC idle price rs ps)) + boundF idle price rs ps sl
def boundV (idle price : Int) (rs : List DReq) (ps : List Int) (sl : List (List DPart)) : Int := boundF idle price rs ps sl - payV rs ps limitV
/-- The first of the cheapest of the choices that surely meet all requirements. -/
def cheapS (ok : List Int → Bool) (cost : List Int → Int) (b : Option (List Int × Int)) (c : List Int) : Option (List Int × Int) := if ok c && (match b with | none => true | some x => decide (cost c < x.2)) then some (c, cost c) else b
def cheapF (ok : List Int → Bool) (cost : List Int → Int) (l : List (List Int)) (b : Option (List Int × Int)) : Option (List Int × Int) := l.foldl (cheapS ok cost) b
/-- What has been found behind some choices: nothing if none meets; else the first of the cheapest. -/
def CheapIs (ok : List Int → Bool) (cost : List Int → Int) (l : List (List Int)) : Option (List Int × Int) → Prop
  | none => ∀ c ∈ l, ok c = false
  | some (c, n) => ok c = true ∧ cost c = n ∧ ∃ a b, l = a ++ c :: b ∧ (∀ x ∈ a, ok x = true → n < cost x) ∧ ∀ x ∈ b, ok x = true → n ≤ cost x
def cheapV (ok : List Int → Bool) (cost : List Int → Int) (l : List (List Int)) : Option (List Int × Int) := cheapF ok cost l none
end Go.Proofs.Ytapegimghfflhaa
end
