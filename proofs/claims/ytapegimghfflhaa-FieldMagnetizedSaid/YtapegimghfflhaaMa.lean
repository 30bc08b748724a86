/- Plain facts on choices and sets in lexicographic order: what comes next, and where all of them end. No program is in sight.
Plain facts on cores: heights, the area of widths as the sum of rows. No program is in sight. -/
import Derived.Test.YtapegimghfflhaaRows

section
namespace Go.Proofs.Ytapegimghfflhaa
/-- All choices: for each slot (with so many parts) a number, lexicographically ascending. -/
def allC : List Nat → List (List Int)
  | [] => [[]]
  | n :: ns => (List.range n).flatMap fun (x : Nat) => (allC ns).map fun l => (x : Int) :: l
/-- The next choice; none behind the last one. -/
def nextC : List Nat → List Int → Option (List Int)
  | n :: ns, x :: l => match nextC ns l with
    | some m => some (x :: m)
    | none => if x + 1 < (n : Int) then some ((x + 1) :: List.replicate ns.length 0) else none
  | _, _ => none
/-- A list that goes from its head by steps of a function to an end. -/
def Steps (f : List Int → Option (List Int)) : List (List Int) → Prop
  | [] => True
  | [x] => f x = none
  | x :: y :: l => f x = some y ∧ Steps f (y :: l)
theorem Steps.at_ {f : List Int → Option (List Int)} : ∀ {l : List (List Int)} {i : Nat}, Steps f l → i + 1 < l.length → f (l.getD i []) = some (l.getD (i + 1) [])
  | [], i, _, h => by simp at h
  | [_], i, _, h => by simp at h
  | a :: b :: l, 0, h, _ => h.1
  | a :: b :: l, i + 1, h, hi => by
    have := Steps.at_ (l := b :: l) (i := i) h.2 (by simpa using hi)
    simpa using this
theorem Steps.last {f : List Int → Option (List Int)} : ∀ {l : List (List Int)} {i : Nat}, Steps f l → i + 1 = l.length → f (l.getD i []) = none
  | [], i, _, h => by simp at h
  | [a], i, hs, h => by
    obtain rfl : i = 0 := by simpa using h
    exact hs
  | a :: b :: l, 0, _, h => by simp at h
  | a :: b :: l, i + 1, h, hi => by
    have := Steps.last (l := b :: l) (i := i) h.2 (by simpa using hi)
    simpa using this
/-- The numbers from x on, so many. -/
def upS (x : Int) : Nat → List Int
  | 0 => []
  | d + 1 => x :: upS (x + 1) d
/-- All ascending lists of d numbers from lo on below n. -/
def allS (n : Nat) : Nat → Nat → List (List Int)
  | 0, _ => [[]]
  | d + 1, lo => (List.range' lo (n - lo)).flatMap fun (x : Nat) => (allS n d (x + 1)).map fun l => (x : Int) :: l
def nextS (n : Nat) : List Int → Option (List Int)
  | [] => none
  | x :: l => match nextS n l with
    | some m => some (x :: m)
    | none => if x + 1 + (l.length : Int) < (n : Int) then some (upS (x + 1) (l.length + 1)) else none
end Go.Proofs.Ytapegimghfflhaa
end

section
namespace Go.Proofs.Ytapegimghfflhaa
/-- The greatest number whose square is at most n. -/
def rootN : Nat → Nat
  | 0 => 0
  | n + 1 => if (rootN n + 1) * (rootN n + 1) ≤ n + 1 then rootN n + 1 else rootN n
/-- The height of a width. -/
def hgt (d w : Int) : Int := (rootN (d * d - w * w).toNat : Int)
/-- The area of widths above a height. -/
def areaF (d : Int) : Int → List Int → Int
  | _, [] => 0
  | last, w :: l => w * (hgt d w - last) + areaF d (hgt d w) l
def areaD (d : Int) (l : List Int) : Int := areaF d 0 l
/-- Widths that descend, from 1 on to the diameter. -/
def WidthsOk (d : Int) : List Int → Prop
  | [] => True
  | w :: l => 1 ≤ w ∧ w ≤ d ∧ (∀ v ∈ l, v < w) ∧ WidthsOk d l
/-- The width of a row: that of the first strip that reaches it. -/
def rowW (d : Int) (l : List Int) (r : Int) : Int := (l.find? fun w => decide (r ≤ hgt d w)).getD 0
def rowsF (d : Int) (l : List Int) (a : Int) : Nat → Int
  | 0 => 0
  | k + 1 => rowsF d l a k + rowW d l (a + (k : Int) + 1)
theorem WidthsOk.mem {d : Int} : ∀ {l : List Int}, WidthsOk d l → ∀ w ∈ l, 1 ≤ w ∧ w ≤ d
  | [], _, _, h => by cases h
  | x :: l, h, w, hw => by
    rcases List.mem_cons.1 hw with rfl | hw
    · exact ⟨h.1, h.2.1⟩
    · exact WidthsOk.mem h.2.2.2 w hw
end Go.Proofs.Ytapegimghfflhaa
end
