/- Plain facts on phasors, hours, windings and turns: no program is in sight.
Plain facts: which low-voltage winding gives a clock number, and which renamings match two units: no program is in sight. -/
import Derived.Test.YtapegimghfflhaaRows

section
namespace Go.Proofs.Ytapegimghfflhaa

/-! Three numbers, and three rows of them. -/
structure V3 where
  a : Int
  b : Int
  c : Int
deriving DecidableEq
structure L3 where
  x : V3
  y : V3
  z : V3
deriving DecidableEq

def phP (v : V3) : Int := v.a - v.b
def phQ (v : V3) : Int := v.c - v.b
def sqV (p q : Int) : Int := p * p - p * q + q * q

/-! Hours. -/
def upV (p q : Int) : Option Int :=
  if 0 < p ∧ q = 0 then some 0 else if 0 < q ∧ p = 2 * q then some 1 else if 0 < q ∧ p = q then some 2
  else if 0 < p ∧ q = 2 * p then some 3 else if 0 < q ∧ p = 0 then some 4 else if 0 < q ∧ p = -q then some 5 else none
def hoursV (p q : Int) : Option Int := match upV p q with
  | some h => some h
  | none => (upV (-p) (-q)).map (· + 6)

/-- The phasor of an hour. -/
def dirV (h : Int) : Int × Int :=
  if h = 0 then (1, 0) else if h = 1 then (2, 1) else if h = 2 then (1, 1) else if h = 3 then (1, 2) else if h = 4 then (0, 1) else if h = 5 then (-1, 1)
  else if h = 6 then (-1, 0) else if h = 7 then (-2, -1) else if h = 8 then (-1, -1) else if h = 9 then (-1, -2) else if h = 10 then (0, -1) else (1, -1)
def mulP (p q r s : Int) : Int := p * r - q * s
def mulQ (p q r s : Int) : Int := p * s + q * r - q * s
def patV (k : Int) : V3 := ⟨1, if k = 0 then -1 else if k = 1 then 0 else -2, if k = 2 then 1 else 0⟩
def scaleV (n : Int) (v : V3) : V3 := ⟨n * v.a, n * v.b, n * v.c⟩
/-- Turned by one limb: what stood first stands second. -/
def onV (v : V3) : V3 := ⟨v.c, v.a, v.b⟩
def onN (n : Int) (v : V3) : V3 := if n % 3 = 0 then v else if n % 3 = 1 then onV v else onV (onV v)
structure Wind where
  kind : Int
  turns : Int
  shift : Int
  rev : Bool
deriving DecidableEq
def Wind.sgn (w : Wind) : Int := if w.rev then -w.turns else w.turns
def Wind.one (w : Wind) : Int := if w.rev then -1 else 1
def Wind.ok (w : Wind) : Prop := 0 ≤ w.kind ∧ w.kind ≤ 2 ∧ 1 ≤ w.turns ∧ w.turns ≤ 2000 ∧ 0 ≤ w.shift ∧ w.shift ≤ 2
instance (w : Wind) : Decidable w.ok := by unfold Wind.ok; infer_instance
def rowsV (n : Int) (k s : Int) : L3 := ⟨scaleV n (onN s (patV k)), scaleV n (onN (s + 1) (patV k)), scaleV n (onN (s + 2) (patV k))⟩
def linesV (w : Wind) : L3 := rowsV w.sgn w.kind w.shift
/-- The hours of a winding's lines. -/
def whV (k s : Int) (r : Bool) : Int := ((if k = 0 then 1 else if k = 1 then 0 else 2) - 4 * s + (if r then 6 else 0)) % 12

/-! Lines with renamed terminals. -/
def rowAt (l : L3) (n : Int) : V3 := if n = 0 then l.x else if n = 1 then l.y else l.z
def negV (v : V3) : V3 := ⟨-v.a, -v.b, -v.c⟩
def voltV (l : L3) (f t : Int) : V3 := if t = (f + 1) % 3 then rowAt l f else negV (rowAt l t)
def renV (l : L3) (p : V3) : L3 := ⟨voltV l p.a p.b, voltV l p.b p.c, voltV l p.c p.a⟩
def permL : List V3 := [⟨0, 1, 2⟩, ⟨0, 2, 1⟩, ⟨1, 0, 2⟩, ⟨1, 2, 0⟩, ⟨2, 0, 1⟩, ⟨2, 1, 0⟩]
def isPerm (p : V3) : Bool := permL.contains p
/-- The sequence of lines: 1, -1, or 0 if there is none. -/
def turn1 (z : Int × Int) : Int × Int := (-z.2, z.1 - z.2)
def turn2 (z : Int × Int) : Int × Int := turn1 (turn1 z)
def phV (v : V3) : Int × Int := (phP v, phQ v)
def seqV (l : L3) : Int := if phV l.y = turn2 (phV l.x) ∧ phV l.z = turn2 (phV l.y) then 1 else if phV l.y = turn1 (phV l.x) ∧ phV l.z = turn1 (phV l.y) then -1 else 0

def sL3 (n : Int) (l : L3) : L3 := ⟨scaleV n l.x, scaleV n l.y, scaleV n l.z⟩
/-- What a renaming does to the sequence, and adds to the hours. -/
def evenP (p : V3) : Bool := p.b == (p.a + 1) % 3
def seqP (p : V3) : Int := if evenP p then 1 else -1
def addP (p : V3) : Int := if evenP p then -4 * p.a else 6 - 4 * p.b

theorem kinds {k : Int} (h1 : 0 ≤ k) (h2 : k ≤ 2) : k = 0 ∨ k = 1 ∨ k = 2 := by omega
/-- Two renamings are their composition. -/
def compP (p q : V3) : V3 := ⟨if q.a = 0 then p.a else if q.a = 1 then p.b else p.c, if q.b = 0 then p.a else if q.b = 1 then p.b else p.c, if q.c = 0 then p.a else if q.c = 1 then p.b else p.c⟩
structure Turn where
  hours : Int
  mir : Bool
deriving DecidableEq
def Turn.ok (a : Turn) : Prop := 0 ≤ a.hours ∧ a.hours ≤ 11
def appV (a : Turn) (h : Int) : Int := if a.mir then (a.hours - h) % 12 else (a.hours + h) % 12
def compV (a b : Turn) : Turn := ⟨appV b a.hours, a.mir != b.mir⟩
def invV (a : Turn) : Turn := if a.mir then a else ⟨(-a.hours) % 12, false⟩
def ordF (a : Turn) : Nat → Turn → Int → Int
  | 0, _, n => n
  | k + 1, b, n => if b = ⟨0, false⟩ then n else ordF a k (compV b a) (n + 1)
def ordV (a : Turn) : Int := ordF a 12 a 1
def powV (a : Turn) : Nat → Turn
  | 0 => a
  | n + 1 => compV (powV a n) a
end Go.Proofs.Ytapegimghfflhaa
end

section
namespace Go.Proofs.Ytapegimghfflhaa

def lowL : List (Int × Bool) := [(0, false), (1, false), (2, false), (0, true), (1, true), (2, true)]
/-- The first shift and side that give a clock number beside hours. -/
def lowV (h k c : Int) : Option (Int × Bool) := lowL.find? fun x => (h - whV k x.1 x.2) % 12 == c
def lowOkV (kh h k c : Int) : Option (Int × Bool) → Bool
  | none => ((kh == 0) == (k == 0)) == (c % 2 == 1)
  | some x => (x.1 == 0 || x.1 == 1 || x.1 == 2) && (h - whV k x.1 x.2) % 12 == c && ((kh == 0) == (k == 0)) == (c % 2 == 0)
      && (h - whV k ((x.1 + 1) % 3) x.2) % 12 == (c + 4) % 12 && (h - whV k x.1 (!x.2)) % 12 == (c + 6) % 12
/-- The clock number of a unit with renamed terminals; -1: the sequences differ. -/
def newV (b : Int) (p q : V3) : Int := if seqP p = seqP q then (seqP p * (b + addP p - addP q)) % 12 else -1
def pairL : List (V3 × V3) := permL.flatMap fun p => permL.map fun q => (p, q)
def matchV (a b : Int) : Option (V3 × V3) := pairL.find? fun m => newV b m.1 m.2 == a
def possibleV (a b : Int) : Bool := (a % 2 == 1 && b % 2 == 1) || (a % 2 == 0 && b % 2 == 0 && a % 4 == b % 4)
def matchOkV (a b : Int) : Option (V3 × V3) → Bool
  | none => !possibleV a b
  | some m => possibleV a b && isPerm m.1 && isPerm m.2 && (a != b || m == (⟨0, 1, 2⟩, ⟨0, 1, 2⟩)) && seqP m.1 == seqP m.2 && newV b m.1 m.2 == a
def gcdI (a b : Int) : Int := (Int.gcd a b : Int)
theorem gcd_step (a b : Int) : gcdI b (a.tmod b) = gcdI a b := by
  unfold gcdI Int.gcd
  rw [Int.natAbs_tmod, Nat.gcd_comm b.natAbs, ← Nat.gcd_rec, Nat.gcd_comm]
theorem gcd_end (a : Int) : gcdI a 0 = (a.natAbs : Int) := by simp [gcdI, Int.gcd]
theorem gcd_pos {a b : Int} (h : b ≠ 0) : 0 < gcdI a b := by
  unfold gcdI
  have := Int.gcd_pos_of_ne_zero_right a h
  omega
def sgnV (n : Int) : Int := if n < 0 then -1 else if n = 0 then 0 else 1
end Go.Proofs.Ytapegimghfflhaa
end
