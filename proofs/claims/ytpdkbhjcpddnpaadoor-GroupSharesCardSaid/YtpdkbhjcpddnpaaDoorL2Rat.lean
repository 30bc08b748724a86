/- Plain facts on ratios: the core's Rat, by numerator and denominator. No program is in sight. -/
import Derived.Test.YtpdkbhjcpddnpaaDoorRows
namespace Go.Proofs.YtpdkbhjcpddnpaaDoor

def makeN (n d : Int) : Int := if d < 0 then -n else n
def makeD (d : Int) : Int := if d < 0 then -d else d
theorem make_gcd (n d : Int) : Int.gcd (makeN n d) (makeD d) = Int.gcd n d := by
  unfold makeN makeD
  split
  · rw [Int.gcd_neg, Int.neg_gcd]
  · rfl
theorem make_num {n d : Int} (hd : d ≠ 0) : (Rat.divInt n d).num = makeN n d / (Int.gcd (makeN n d) (makeD d) : Nat) := by
  rw [make_gcd, Rat.num_divInt, Int.gcd_comm d n]
  unfold makeN
  split
  · rename_i h
    rw [Int.sign_eq_neg_one_of_neg h]
    simp
  · rename_i h
    rw [Int.sign_eq_one_of_pos (by omega)]
    simp
theorem make_den {n d : Int} (hd : d ≠ 0) : ((Rat.divInt n d).den : Int) = makeD d / (Int.gcd (makeN n d) (makeD d) : Nat) := by
  rw [make_gcd, Rat.den_divInt, if_neg hd, Int.natCast_ediv, Int.gcd_comm d n]
  unfold makeD
  split
  · congr 1; omega
  · congr 1; omega
theorem rat_add (a b : Rat) : a + b = Rat.divInt (a.num * b.den + b.num * a.den) (a.den * b.den) := by
  rw [Rat.add_def', ← Int.natCast_mul, Rat.divInt_ofNat]
theorem rat_sub (a b : Rat) : a - b = Rat.divInt (a.num * b.den - b.num * a.den) (a.den * b.den) := by
  rw [Rat.sub_def', ← Int.natCast_mul, Rat.divInt_ofNat]
theorem rat_mul (a b : Rat) : a * b = Rat.divInt (a.num * b.num) (a.den * b.den) := by
  rw [Rat.mul_def', ← Int.natCast_mul, Rat.divInt_ofNat]
theorem rat_div (a b : Rat) : a / b = Rat.divInt (a.num * b.den) (a.den * b.num) := by
  rw [Rat.div_def, Rat.inv_def, ← Rat.divInt_mul_divInt, Rat.num_divInt_den]
def rcmpV (a b : Rat) : Int := if a < b then -1 else if b < a then 1 else 0
theorem rat_cmp (a b : Rat) : rcmpV a b = (a.num * b.den + -(b.num * a.den)).sign := by
  unfold rcmpV
  split
  · rename_i h
    have h := Rat.lt_iff a b |>.1 h
    exact (Int.sign_eq_neg_one_of_neg (by omega)).symm
  · rename_i h1
    have h1 : ¬ a.num * b.den < b.num * a.den := fun h => h1 (Rat.lt_iff a b |>.2 h)
    split
    · rename_i h
      have h := Rat.lt_iff b a |>.1 h
      exact (Int.sign_eq_one_of_pos (by omega)).symm
    · rename_i h2
      have h2 : ¬ b.num * a.den < a.num * b.den := fun h => h2 (Rat.lt_iff b a |>.2 h)
      have e : a.num * b.den + -(b.num * a.den) = 0 := by omega
      rw [e]; rfl

end Go.Proofs.YtpdkbhjcpddnpaaDoor
