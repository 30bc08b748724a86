/- Plain facts: which low-voltage winding gives a clock number, and which renamings match two units: no program is in sight. -/
import Derived.Test.YtpdkbhjcpddnpaaDoorG0Plain
namespace Go.Proofs.YtpdkbhjcpddnpaaDoor

def lowL : List (Int × Bool) := [(0, false), (1, false), (2, false), (0, true), (1, true), (2, true)]
/-- The first shift and side that give a clock number beside hours. -/
def lowV (h k c : Int) : Option (Int × Bool) := lowL.find? fun x => (h - whV k x.1 x.2) % 12 == c
def lowOkV (kh h k c : Int) : Option (Int × Bool) → Bool
  | none => ((kh == 0) == (k == 0)) == (c % 2 == 1)
  | some x => (x.1 == 0 || x.1 == 1 || x.1 == 2) && (h - whV k x.1 x.2) % 12 == c && ((kh == 0) == (k == 0)) == (c % 2 == 0)
      && (h - whV k ((x.1 + 1) % 3) x.2) % 12 == (c + 4) % 12 && (h - whV k x.1 (!x.2)) % 12 == (c + 6) % 12
theorem low_table : ∀ kh ∈ [(0 : Int), 1, 2], ∀ sh ∈ [(0 : Int), 1, 2], ∀ rh : Bool, ∀ k ∈ [(0 : Int), 1, 2], ∀ c : Fin 12,
    lowOkV kh (whV kh sh rh) k (c.val : Int) (lowV (whV kh sh rh) k (c.val : Int)) = true := by decide +kernel
theorem low_facts {w : Wind} (hw : w.ok) {k c : Int} (hk : 0 ≤ k ∧ k ≤ 2) (hc : 0 ≤ c ∧ c ≤ 11) :
    lowOkV w.kind (whV w.kind w.shift w.rev) k c (lowV (whV w.kind w.shift w.rev) k c) = true := by
  have h := low_table _ (ok_mem hw).1 _ (ok_mem hw).2 w.rev k (by simp; omega) ⟨c.toNat, by omega⟩
  simp only [Int.toNat_of_nonneg hc.1] at h
  exact h

/-- The clock number of a unit with renamed terminals; -1: the sequences differ. -/
def newV (b : Int) (p q : V3) : Int := if seqP p = seqP q then (seqP p * (b + addP p - addP q)) % 12 else -1
def pairL : List (V3 × V3) := permL.flatMap fun p => permL.map fun q => (p, q)
def matchV (a b : Int) : Option (V3 × V3) := pairL.find? fun m => newV b m.1 m.2 == a
def possibleV (a b : Int) : Bool := (a % 2 == 1 && b % 2 == 1) || (a % 2 == 0 && b % 2 == 0 && a % 4 == b % 4)
def matchOkV (a b : Int) : Option (V3 × V3) → Bool
  | none => !possibleV a b
  | some m => possibleV a b && isPerm m.1 && isPerm m.2 && (a != b || m == (⟨0, 1, 2⟩, ⟨0, 1, 2⟩)) && seqP m.1 == seqP m.2 && newV b m.1 m.2 == a
theorem match_table : ∀ a : Fin 12, ∀ b : Fin 12, matchOkV (a.val : Int) (b.val : Int) (matchV (a.val : Int) (b.val : Int)) = true := by decide +kernel
theorem match_facts {a b : Int} (ha : 0 ≤ a ∧ a ≤ 11) (hb : 0 ≤ b ∧ b ≤ 11) : matchOkV a b (matchV a b) = true := by
  have h := match_table ⟨a.toNat, by omega⟩ ⟨b.toNat, by omega⟩
  simp only [Int.toNat_of_nonneg ha.1, Int.toNat_of_nonneg hb.1] at h
  exact h
theorem new_clock {x y : Int} {p q : V3} (hs : seqP p = seqP q) : (seqP p * ((x + addP p) % 12 - (y + addP q) % 12)) % 12 = newV ((x - y) % 12) p q := by
  unfold newV
  rw [if_pos hs]
  unfold seqP
  split <;> omega

/-! Greatest common divisors, and the comparison of fractions. -/
def gcdI (a b : Int) : Int := (Int.gcd a b : Int)
theorem gcd_step (a b : Int) : gcdI b (a.tmod b) = gcdI a b := by
  unfold gcdI Int.gcd
  rw [Int.natAbs_tmod, Nat.gcd_comm b.natAbs, ← Nat.gcd_rec, Nat.gcd_comm]
theorem gcd_end (a : Int) : gcdI a 0 = (a.natAbs : Int) := by simp [gcdI, Int.gcd]
theorem gcd_pos {a b : Int} (h : b ≠ 0) : 0 < gcdI a b := by
  unfold gcdI
  have := Int.gcd_pos_of_ne_zero_right a h
  omega
def sgnV (n : Int) : Int := if n < 0 then -1 else if n = 0 then 0 else 1
theorem cmp_lt {n d m k : Int} (hd : 0 < d) (hk : 0 < k) (h : n / d < m / k) : n * k - m * d < 0 := by
  have h1 : n < (n / d + 1) * d := Int.lt_ediv_add_one_mul_self n hd
  have h2 : m / k * k ≤ m := Int.ediv_mul_le m (by omega)
  have h3 : (n / d + 1) * d ≤ m / k * d := Int.mul_le_mul_of_nonneg_right (by omega) (by omega)
  have h4 : n < m / k * d := by omega
  have h5 : n * k < m / k * d * k := Int.mul_lt_mul_of_pos_right h4 hk
  have h6 : m / k * k * d ≤ m * d := Int.mul_le_mul_of_nonneg_right h2 (by omega)
  have h7 : m / k * d * k = m / k * k * d := by rw [Int.mul_assoc, Int.mul_comm d k, ← Int.mul_assoc]
  omega
theorem cmp_rest {n d m k : Int} (h : n / d = m / k) : (n - n / d * d) * k - (m - m / k * k) * d = n * k - m * d := by
  rw [Int.sub_mul, Int.sub_mul, ← h]
  have : n / d * d * k = n / d * k * d := by rw [Int.mul_assoc, Int.mul_comm d k, ← Int.mul_assoc]
  omega
theorem rest_range (n : Int) {d : Int} (hd : 0 < d) : 0 ≤ n - n / d * d ∧ n - n / d * d < d := by
  have h1 : n < (n / d + 1) * d := Int.lt_ediv_add_one_mul_self n hd
  have h2 : n / d * d ≤ n := Int.ediv_mul_le n (by omega)
  rw [Int.add_mul] at h1
  omega

end Go.Proofs.YtpdkbhjcpddnpaaDoor
