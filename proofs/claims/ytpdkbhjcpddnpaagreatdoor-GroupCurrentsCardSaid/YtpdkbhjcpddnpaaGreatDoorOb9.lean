/- Plain facts on phasors, hours, windings and turns: no program is in sight.
Plain facts: which low-voltage winding gives a clock number, and which renamings match two units: no program is in sight. -/
import Derived.Test.YtpdkbhjcpddnpaaGreatDoorRows

section
namespace Go.Proofs.YtpdkbhjcpddnpaaGreatDoor

/-! Three numbers, and three rows of them. -/
structure V3 where
  a : Int
  b : Int
  c : Int
deriving DecidableEq
structure L3 where
  x : V3
  y : V3
  z : V3
deriving DecidableEq

def phP (v : V3) : Int := v.a - v.b
def phQ (v : V3) : Int := v.c - v.b
def sqV (p q : Int) : Int := p * p - p * q + q * q

/-! Hours. -/
def upV (p q : Int) : Option Int :=
  if 0 < p ∧ q = 0 then some 0 else if 0 < q ∧ p = 2 * q then some 1 else if 0 < q ∧ p = q then some 2
  else if 0 < p ∧ q = 2 * p then some 3 else if 0 < q ∧ p = 0 then some 4 else if 0 < q ∧ p = -q then some 5 else none
def hoursV (p q : Int) : Option Int := match upV p q with
  | some h => some h
  | none => (upV (-p) (-q)).map (· + 6)

theorem mul_pos_iff' {e u : Int} (he : 0 < e) : 0 < e * u ↔ 0 < u := by
  constructor
  · intro h
    rcases Int.lt_trichotomy 0 u with h1 | h1 | h1
    · exact h1
    · subst h1; simp at h
    · have := Int.mul_neg_of_pos_of_neg he h1; omega
  · exact Int.mul_pos he
theorem mul_eq_iff' {e u v : Int} (he : 0 < e) : e * u = e * v ↔ u = v := ⟨fun h => Int.eq_of_mul_eq_mul_left (by omega) h, fun h => by rw [h]⟩
theorem upV_scale {e : Int} (he : 0 < e) (u v : Int) : upV (e * u) (e * v) = upV u v := by
  unfold upV
  have h2 : ∀ x, 2 * (e * x) = e * (2 * x) := fun x => by rw [← Int.mul_assoc, Int.mul_comm 2 e, Int.mul_assoc]
  have h0 : ∀ x, (e * x = 0) ↔ x = 0 := fun x => by rw [← Int.mul_zero e, mul_eq_iff' he, Int.mul_zero]
  have hn : ∀ x, -(e * x) = e * (-x) := fun x => by rw [Int.mul_neg]
  simp only [mul_pos_iff' he, h2, h0, hn, mul_eq_iff' he]
theorem hoursV_scale {e : Int} (he : 0 < e) (u v : Int) : hoursV (e * u) (e * v) = hoursV u v := by
  unfold hoursV
  rw [upV_scale he, show -(e * u) = e * (-u) by rw [Int.mul_neg], show -(e * v) = e * (-v) by rw [Int.mul_neg], upV_scale he]

/-- The phasor of an hour. -/
def dirV (h : Int) : Int × Int :=
  if h = 0 then (1, 0) else if h = 1 then (2, 1) else if h = 2 then (1, 1) else if h = 3 then (1, 2) else if h = 4 then (0, 1) else if h = 5 then (-1, 1)
  else if h = 6 then (-1, 0) else if h = 7 then (-2, -1) else if h = 8 then (-1, -1) else if h = 9 then (-1, -2) else if h = 10 then (0, -1) else (1, -1)
theorem upV_dir {p q h : Int} (hh : upV p q = some h) : 0 ≤ h ∧ h ≤ 5 ∧ ∃ e, 0 < e ∧ p = e * (dirV h).1 ∧ q = e * (dirV h).2 := by
  unfold upV at hh
  split at hh
  · cases hh; exact ⟨by decide, by decide, p, by omega, by simp [dirV], by simp [dirV]; omega⟩
  split at hh
  · cases hh; exact ⟨by decide, by decide, q, by omega, by simp [dirV]; omega, by simp [dirV]⟩
  split at hh
  · cases hh; exact ⟨by decide, by decide, q, by omega, by simp [dirV]; omega, by simp [dirV]⟩
  split at hh
  · cases hh; exact ⟨by decide, by decide, p, by omega, by simp [dirV], by simp [dirV]; omega⟩
  split at hh
  · cases hh; exact ⟨by decide, by decide, q, by omega, by simp [dirV]; omega, by simp [dirV]⟩
  split at hh
  · cases hh; exact ⟨by decide, by decide, q, by omega, by simp [dirV]; omega, by simp [dirV]⟩
  cases hh
theorem hoursV_dir {p q h : Int} (hh : hoursV p q = some h) : 0 ≤ h ∧ h ≤ 11 ∧ ∃ e, 0 < e ∧ p = e * (dirV h).1 ∧ q = e * (dirV h).2 := by
  unfold hoursV at hh
  split at hh
  · rename_i h1 e1
    cases hh
    obtain ⟨a1, a2, a3⟩ := upV_dir e1
    exact ⟨a1, by omega, a3⟩
  · cases e2 : upV (-p) (-q) with
    | none => rw [e2] at hh; cases hh
    | some k =>
      rw [e2] at hh
      obtain rfl : k + 6 = h := Option.some.inj hh
      obtain ⟨a1, a2, e, he, a3, a4⟩ := upV_dir e2
      refine ⟨by omega, by omega, e, he, ?_, ?_⟩
      · have : (dirV (k + 6)).1 = -(dirV k).1 := by
          rcases (by omega : k = 0 ∨ k = 1 ∨ k = 2 ∨ k = 3 ∨ k = 4 ∨ k = 5) with rfl | rfl | rfl | rfl | rfl | rfl <;> rfl
        rw [this, Int.mul_neg]; omega
      · have : (dirV (k + 6)).2 = -(dirV k).2 := by
          rcases (by omega : k = 0 ∨ k = 1 ∨ k = 2 ∨ k = 3 ∨ k = 4 ∨ k = 5) with rfl | rfl | rfl | rfl | rfl | rfl <;> rfl
        rw [this, Int.mul_neg]; omega
def mulP (p q r s : Int) : Int := p * r - q * s
def mulQ (p q r s : Int) : Int := p * s + q * r - q * s
def patV (k : Int) : V3 := ⟨1, if k = 0 then -1 else if k = 1 then 0 else -2, if k = 2 then 1 else 0⟩
def scaleV (n : Int) (v : V3) : V3 := ⟨n * v.a, n * v.b, n * v.c⟩
/-- Turned by one limb: what stood first stands second. -/
def onV (v : V3) : V3 := ⟨v.c, v.a, v.b⟩
def onN (n : Int) (v : V3) : V3 := if n % 3 = 0 then v else if n % 3 = 1 then onV v else onV (onV v)
structure Wind where
  kind : Int
  turns : Int
  shift : Int
  rev : Bool
deriving DecidableEq
def Wind.sgn (w : Wind) : Int := if w.rev then -w.turns else w.turns
def Wind.one (w : Wind) : Int := if w.rev then -1 else 1
def Wind.ok (w : Wind) : Prop := 0 ≤ w.kind ∧ w.kind ≤ 2 ∧ 1 ≤ w.turns ∧ w.turns ≤ 2000 ∧ 0 ≤ w.shift ∧ w.shift ≤ 2
instance (w : Wind) : Decidable w.ok := by unfold Wind.ok; infer_instance
def rowsV (n : Int) (k s : Int) : L3 := ⟨scaleV n (onN s (patV k)), scaleV n (onN (s + 1) (patV k)), scaleV n (onN (s + 2) (patV k))⟩
def linesV (w : Wind) : L3 := rowsV w.sgn w.kind w.shift
/-- The hours of a winding's lines. -/
def whV (k s : Int) (r : Bool) : Int := ((if k = 0 then 1 else if k = 1 then 0 else 2) - 4 * s + (if r then 6 else 0)) % 12

/-! Lines with renamed terminals. -/
def rowAt (l : L3) (n : Int) : V3 := if n = 0 then l.x else if n = 1 then l.y else l.z
def negV (v : V3) : V3 := ⟨-v.a, -v.b, -v.c⟩
def voltV (l : L3) (f t : Int) : V3 := if t = (f + 1) % 3 then rowAt l f else negV (rowAt l t)
def renV (l : L3) (p : V3) : L3 := ⟨voltV l p.a p.b, voltV l p.b p.c, voltV l p.c p.a⟩
def permL : List V3 := [⟨0, 1, 2⟩, ⟨0, 2, 1⟩, ⟨1, 0, 2⟩, ⟨1, 2, 0⟩, ⟨2, 0, 1⟩, ⟨2, 1, 0⟩]
def isPerm (p : V3) : Bool := permL.contains p
/-- The sequence of lines: 1, -1, or 0 if there is none. -/
def turn1 (z : Int × Int) : Int × Int := (-z.2, z.1 - z.2)
def turn2 (z : Int × Int) : Int × Int := turn1 (turn1 z)
def phV (v : V3) : Int × Int := (phP v, phQ v)
def seqV (l : L3) : Int := if phV l.y = turn2 (phV l.x) ∧ phV l.z = turn2 (phV l.y) then 1 else if phV l.y = turn1 (phV l.x) ∧ phV l.z = turn1 (phV l.y) then -1 else 0

def sL3 (n : Int) (l : L3) : L3 := ⟨scaleV n l.x, scaleV n l.y, scaleV n l.z⟩
theorem scale_scale (m n : Int) (v : V3) : scaleV (m * n) v = scaleV m (scaleV n v) := by simp [scaleV, Int.mul_assoc]
theorem rows_scale (m n k s : Int) : rowsV (m * n) k s = sL3 m (rowsV n k s) := by simp [rowsV, sL3, scale_scale]
theorem sgn_one (w : Wind) : w.sgn = w.turns * w.one := by unfold Wind.sgn Wind.one; split <;> omega
theorem linesV_scale (w : Wind) : linesV w = sL3 w.turns (rowsV w.one w.kind w.shift) := by rw [← rows_scale, ← sgn_one]; rfl
theorem phP_scale (m : Int) (v : V3) : phP (scaleV m v) = m * phP v := by simp [phP, scaleV, Int.mul_sub]
theorem phQ_scale (m : Int) (v : V3) : phQ (scaleV m v) = m * phQ v := by simp [phQ, scaleV, Int.mul_sub]
theorem hours_scale {m : Int} (hm : 0 < m) (v : V3) : hoursV (phP (scaleV m v)) (phQ (scaleV m v)) = hoursV (phP v) (phQ v) := by
  rw [phP_scale, phQ_scale, hoursV_scale hm]
/-- What a renaming does to the sequence, and adds to the hours. -/
def evenP (p : V3) : Bool := p.b == (p.a + 1) % 3
def seqP (p : V3) : Int := if evenP p then 1 else -1
def addP (p : V3) : Int := if evenP p then -4 * p.a else 6 - 4 * p.b

theorem base_hours : ∀ k ∈ [(0 : Int), 1, 2], ∀ s ∈ [(0 : Int), 1, 2], ∀ r : Bool, ∀ p ∈ permL,
    hoursV (phP (renV (rowsV (if r then -1 else 1) k s) p).x) (phQ (renV (rowsV (if r then -1 else 1) k s) p).x) = some ((whV k s r + addP p) % 12)
    ∧ seqV (renV (rowsV (if r then -1 else 1) k s) p) = seqP p
    ∧ hoursV (phP (rowsV (if r then -1 else 1) k s).x) (phQ (rowsV (if r then -1 else 1) k s).x) = some (whV k s r)
    ∧ seqV (rowsV (if r then -1 else 1) k s) = 1
    ∧ sqV (phP (renV (rowsV (if r then -1 else 1) k s) p).x) (phQ (renV (rowsV (if r then -1 else 1) k s) p).x) = sqV (phP (rowsV (if r then -1 else 1) k s).x) (phQ (rowsV (if r then -1 else 1) k s).x)
    ∧ sqV (phP (rowsV (if r then -1 else 1) k s).x) (phQ (rowsV (if r then -1 else 1) k s).x) = (if k = 0 then 3 else if k = 1 then 1 else 9) := by decide +kernel
theorem wh_range (k s : Int) (r : Bool) : 0 ≤ whV k s r ∧ whV k s r ≤ 11 := by unfold whV; omega

theorem ok_mem {w : Wind} (h : w.ok) : w.kind ∈ [(0 : Int), 1, 2] ∧ w.shift ∈ [(0 : Int), 1, 2] := by
  obtain ⟨h1, h2, _, _, h5, h6⟩ := h
  exact ⟨by simp; omega, by simp; omega⟩
theorem lines_hours {w : Wind} (h : w.ok) : hoursV (phP (linesV w).x) (phQ (linesV w).x) = some (whV w.kind w.shift w.rev) := by
  have hm : 0 < w.turns := by have := h.2.2.1; omega
  rw [linesV_scale]
  exact (hours_scale hm _).trans (base_hours _ (ok_mem h).1 _ (ok_mem h).2 w.rev ⟨0, 1, 2⟩ (by decide)).2.2.1
/-- Two renamings are their composition. -/
def compP (p q : V3) : V3 := ⟨if q.a = 0 then p.a else if q.a = 1 then p.b else p.c, if q.b = 0 then p.a else if q.b = 1 then p.b else p.c, if q.c = 0 then p.a else if q.c = 1 then p.b else p.c⟩
structure Turn where
  hours : Int
  mir : Bool
deriving DecidableEq
def Turn.ok (a : Turn) : Prop := 0 ≤ a.hours ∧ a.hours ≤ 11
def appV (a : Turn) (h : Int) : Int := if a.mir then (a.hours - h) % 12 else (a.hours + h) % 12
def compV (a b : Turn) : Turn := ⟨appV b a.hours, a.mir != b.mir⟩
def invV (a : Turn) : Turn := if a.mir then a else ⟨(-a.hours) % 12, false⟩
def ordF (a : Turn) : Nat → Turn → Int → Int
  | 0, _, n => n
  | k + 1, b, n => if b = ⟨0, false⟩ then n else ordF a k (compV b a) (n + 1)
def ordV (a : Turn) : Int := ordF a 12 a 1
def powV (a : Turn) : Nat → Turn
  | 0 => a
  | n + 1 => compV (powV a n) a
end Go.Proofs.YtpdkbhjcpddnpaaGreatDoor
end

section
namespace Go.Proofs.YtpdkbhjcpddnpaaGreatDoor

def lowL : List (Int × Bool) := [(0, false), (1, false), (2, false), (0, true), (1, true), (2, true)]
/-- The first shift and side that give a clock number beside hours. -/
def lowV (h k c : Int) : Option (Int × Bool) := lowL.find? fun x => (h - whV k x.1 x.2) % 12 == c
def lowOkV (kh h k c : Int) : Option (Int × Bool) → Bool
  | none => ((kh == 0) == (k == 0)) == (c % 2 == 1)
  | some x => (x.1 == 0 || x.1 == 1 || x.1 == 2) && (h - whV k x.1 x.2) % 12 == c && ((kh == 0) == (k == 0)) == (c % 2 == 0)
      && (h - whV k ((x.1 + 1) % 3) x.2) % 12 == (c + 4) % 12 && (h - whV k x.1 (!x.2)) % 12 == (c + 6) % 12
/-- The clock number of a unit with renamed terminals; -1: the sequences differ. -/
def newV (b : Int) (p q : V3) : Int := if seqP p = seqP q then (seqP p * (b + addP p - addP q)) % 12 else -1
def pairL : List (V3 × V3) := permL.flatMap fun p => permL.map fun q => (p, q)
def matchV (a b : Int) : Option (V3 × V3) := pairL.find? fun m => newV b m.1 m.2 == a
def possibleV (a b : Int) : Bool := (a % 2 == 1 && b % 2 == 1) || (a % 2 == 0 && b % 2 == 0 && a % 4 == b % 4)
def matchOkV (a b : Int) : Option (V3 × V3) → Bool
  | none => !possibleV a b
  | some m => possibleV a b && isPerm m.1 && isPerm m.2 && (a != b || m == (⟨0, 1, 2⟩, ⟨0, 1, 2⟩)) && seqP m.1 == seqP m.2 && newV b m.1 m.2 == a
def gcdI (a b : Int) : Int := (Int.gcd a b : Int)
theorem gcd_step (a b : Int) : gcdI b (a.tmod b) = gcdI a b := by
  unfold gcdI Int.gcd
  rw [Int.natAbs_tmod, Nat.gcd_comm b.natAbs, ← Nat.gcd_rec, Nat.gcd_comm]
theorem gcd_end (a : Int) : gcdI a 0 = (a.natAbs : Int) := by simp [gcdI, Int.gcd]
theorem gcd_pos {a b : Int} (h : b ≠ 0) : 0 < gcdI a b := by
  unfold gcdI
  have := Int.gcd_pos_of_ne_zero_right a h
  omega
def sgnV (n : Int) : Int := if n < 0 then -1 else if n = 0 then 0 else 1
end Go.Proofs.YtpdkbhjcpddnpaaGreatDoor
end
