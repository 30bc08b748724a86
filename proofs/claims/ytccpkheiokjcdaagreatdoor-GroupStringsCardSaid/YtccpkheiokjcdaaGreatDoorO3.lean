/- Plain facts: which low-voltage winding gives a clock number, and which renamings match two units: no program is in sight.
Contracts of the small functions of package group: first, unless, within, isSized. Each computes just what its name says; nothing is written that was there.
Contracts of phasors: products, squares, hours; the specification's likewise. -/
import Derived.Test.YtccpkheiokjcdaaGreatDoorO1
import Derived.Test.YtccpkheiokjcdaaGreatDoorO2
import Derived.LoopN

section
namespace Go.Proofs.YtccpkheiokjcdaaGreatDoor

def lowL : List (Int × Bool) := [(0, false), (1, false), (2, false), (0, true), (1, true), (2, true)]
/-- The first shift and side that give a clock number beside hours. -/
def lowV (h k c : Int) : Option (Int × Bool) := lowL.find? fun x => (h - whV k x.1 x.2) % 12 == c
def lowOkV (kh h k c : Int) : Option (Int × Bool) → Bool
  | none => ((kh == 0) == (k == 0)) == (c % 2 == 1)
  | some x => (x.1 == 0 || x.1 == 1 || x.1 == 2) && (h - whV k x.1 x.2) % 12 == c && ((kh == 0) == (k == 0)) == (c % 2 == 0)
      && (h - whV k ((x.1 + 1) % 3) x.2) % 12 == (c + 4) % 12 && (h - whV k x.1 (!x.2)) % 12 == (c + 6) % 12
theorem low_table : ∀ kh ∈ [(0 : Int), 1, 2], ∀ sh ∈ [(0 : Int), 1, 2], ∀ rh : Bool, ∀ k ∈ [(0 : Int), 1, 2], ∀ c : Fin 12,
    lowOkV kh (whV kh sh rh) k (c.val : Int) (lowV (whV kh sh rh) k (c.val : Int)) = true := by decide +kernel
theorem low_facts {w : Wind} (hw : w.ok) {k c : Int} (hk : 0 ≤ k ∧ k ≤ 2) (hc : 0 ≤ c ∧ c ≤ 11) :
    lowOkV w.kind (whV w.kind w.shift w.rev) k c (lowV (whV w.kind w.shift w.rev) k c) = true := by
  have h := low_table _ (ok_mem hw).1 _ (ok_mem hw).2 w.rev k (by simp; omega) ⟨c.toNat, by omega⟩
  simp only [Int.toNat_of_nonneg hc.1] at h
  exact h

/-- The clock number of a unit with renamed terminals; -1: the sequences differ. -/
def newV (b : Int) (p q : V3) : Int := if seqP p = seqP q then (seqP p * (b + addP p - addP q)) % 12 else -1
def pairL : List (V3 × V3) := permL.flatMap fun p => permL.map fun q => (p, q)
def matchV (a b : Int) : Option (V3 × V3) := pairL.find? fun m => newV b m.1 m.2 == a
def possibleV (a b : Int) : Bool := (a % 2 == 1 && b % 2 == 1) || (a % 2 == 0 && b % 2 == 0 && a % 4 == b % 4)
def matchOkV (a b : Int) : Option (V3 × V3) → Bool
  | none => !possibleV a b
  | some m => possibleV a b && isPerm m.1 && isPerm m.2 && (a != b || m == (⟨0, 1, 2⟩, ⟨0, 1, 2⟩)) && seqP m.1 == seqP m.2 && newV b m.1 m.2 == a
theorem match_table : ∀ a : Fin 12, ∀ b : Fin 12, matchOkV (a.val : Int) (b.val : Int) (matchV (a.val : Int) (b.val : Int)) = true := by decide +kernel
theorem match_facts {a b : Int} (ha : 0 ≤ a ∧ a ≤ 11) (hb : 0 ≤ b ∧ b ≤ 11) : matchOkV a b (matchV a b) = true := by
  have h := match_table ⟨a.toNat, by omega⟩ ⟨b.toNat, by omega⟩
  simp only [Int.toNat_of_nonneg ha.1, Int.toNat_of_nonneg hb.1] at h
  exact h
theorem new_clock {x y : Int} {p q : V3} (hs : seqP p = seqP q) : (seqP p * ((x + addP p) % 12 - (y + addP q) % 12)) % 12 = newV ((x - y) % 12) p q := by
  unfold newV
  rw [if_pos hs]
  unfold seqP
  split <;> omega

/-! Greatest common divisors, and the comparison of fractions. -/
def gcdI (a b : Int) : Int := (Int.gcd a b : Int)
theorem gcd_step (a b : Int) : gcdI b (a.tmod b) = gcdI a b := by
  unfold gcdI Int.gcd
  rw [Int.natAbs_tmod, Nat.gcd_comm b.natAbs, ← Nat.gcd_rec, Nat.gcd_comm]
theorem gcd_end (a : Int) : gcdI a 0 = (a.natAbs : Int) := by simp [gcdI, Int.gcd]
theorem gcd_pos {a b : Int} (h : b ≠ 0) : 0 < gcdI a b := by
  unfold gcdI
  have := Int.gcd_pos_of_ne_zero_right a h
  omega
def sgnV (n : Int) : Int := if n < 0 then -1 else if n = 0 then 0 else 1
theorem cmp_lt {n d m k : Int} (hd : 0 < d) (hk : 0 < k) (h : n / d < m / k) : n * k - m * d < 0 := by
  have h1 : n < (n / d + 1) * d := Int.lt_ediv_add_one_mul_self n hd
  have h2 : m / k * k ≤ m := Int.ediv_mul_le m (by omega)
  have h3 : (n / d + 1) * d ≤ m / k * d := Int.mul_le_mul_of_nonneg_right (by omega) (by omega)
  have h4 : n < m / k * d := by omega
  have h5 : n * k < m / k * d * k := Int.mul_lt_mul_of_pos_right h4 hk
  have h6 : m / k * k * d ≤ m * d := Int.mul_le_mul_of_nonneg_right h2 (by omega)
  have h7 : m / k * d * k = m / k * k * d := by rw [Int.mul_assoc, Int.mul_comm d k, ← Int.mul_assoc]
  omega
theorem cmp_rest {n d m k : Int} (h : n / d = m / k) : (n - n / d * d) * k - (m - m / k * k) * d = n * k - m * d := by
  rw [Int.sub_mul, Int.sub_mul, ← h]
  have : n / d * d * k = n / d * k * d := by rw [Int.mul_assoc, Int.mul_comm d k, ← Int.mul_assoc]
  omega
theorem rest_range (n : Int) {d : Int} (hd : 0 < d) : 0 ≤ n - n / d * d ∧ n - n / d * d < d := by
  have h1 : n < (n / d + 1) * d := Int.lt_ediv_add_one_mul_self n hd
  have h2 : n / d * d ≤ n := Int.ediv_mul_le n (by omega)
  rw [Int.add_mul] at h1
  omega

end Go.Proofs.YtccpkheiokjcdaaGreatDoor
end

section
namespace Go.Proofs.YtccpkheiokjcdaaGreatDoor
open Go.RowKit

/-- The first number that is not 0. -/
def firstV : List Int → Int
  | [] => 0
  | x :: l => if x = 0 then firstV l else x

def unlessV (ok : Bool) (e : Int) : Int := if ok then 0 else e
def withinB (n lo hi : Int) : Bool := decide (lo ≤ n) && decide (n ≤ hi)

theorem firstV_drop (xs : List Int) (k : Nat) (h : k < xs.length) : firstV (xs.drop k) = if xs.getD k 0 = 0 then firstV (xs.drop (k + 1)) else xs.getD k 0 := by
  rw [List.drop_eq_getElem_cons h, firstV]
  simp [List.getD, h]

set_option maxHeartbeats 400000 in
theorem first_any (B : Nat) (A : Option Addr) (c : Nat) (xs : List Int) (w : World) (hr : IntsIn B w A xs) (hm : xs.length ≤ 1000) :
    Calls Tryz.prog 34 #[.slice A xs.length c] w fun e w' => e = .returned (.int .i64 (firstV xs)) ∧ w = w' := by
  go_enter Tryz.func34, Tryz.ntmps34
  go_wp2
  go_loop [7] (fun i => ∃ k : Nat, k ≤ xs.length ∧ i = .int .i64 k ∧ firstV (xs.drop k) = firstV xs) (fun i => xs.length - (intOf i).toNat)
  case atStart => exact ⟨0, Nat.zero_le _, rfl, rfl⟩
  case round =>
    obtain ⟨k, hk, rfl, hf⟩ := hrel
    by_cases hlt : k < xs.length
    · obtain ⟨b, off, rfl, hb, hc⟩ := hr.at_ hlt
      have hcell := hc k hlt
      have HF := Lib.hid (hf.symm.trans (firstV_drop xs k hlt))
      clear hc hf hr
      generalize xs.getD k 0 = x at *
      go_wp2
      · go_ret
        exact ⟨ret_int (by rw [HF.out, if_neg (by simp_all)]), rfl⟩
      · go_round
        case rel => exact ⟨k + 1, by omega, by go_num, by rw [HF.out, if_pos (by simp_all)]⟩
        case measure => simp [intOf]; omega
    · have hk' : k = xs.length := by omega
      have HF := Lib.hid (show firstV xs = 0 by rw [← hf, hk']; simp [firstV])
      clear hf hk'
      go_wp2
      go_ret
      exact ⟨ret_int HF.out.symm, rfl⟩

theorem unless_any (ok : Bool) (e : Int) (w : World) :
    Calls Tryz.prog 35 #[.bool ok, .int .i64 e] w fun r w' => r = .returned (.int .i64 (unlessV ok e)) ∧ w = w' := by
  cases ok
  all_goals
    go_enter Tryz.func35, Tryz.ntmps35
    go_wp2
    go_ret
    exact ⟨rfl, rfl⟩

theorem within_any (n lo hi : Int) (w : World) :
    Calls Tryz.prog 37 #[.int .i64 n, .int .i64 lo, .int .i64 hi] w fun r w' => r = .returned (.bool (withinB n lo hi)) ∧ w = w' := by
  by_cases h : lo ≤ n
  all_goals
    go_enter Tryz.func37, Tryz.ntmps37
    go_wp2
    all_goals
      go_ret
      exact ⟨ret_bool (by simp [withinB]; try omega), rfl⟩

theorem unless_ne {b : Bool} {e : Int} (he : e ≠ 0) : unlessV b e = 0 ↔ b = true := by cases b <;> simp [unlessV, he]
theorem firstV_zero {x : Int} {l : List Int} : firstV (x :: l) = 0 ↔ x = 0 ∧ firstV l = 0 := by
  unfold firstV
  by_cases h : x = 0
  · subst h; simp; cases l <;> simp [firstV]
  · simp [h]

theorem small_any (n m : Int) (hm : -1000000000 ≤ m) (hm' : m ≤ 1000000000) (w : World) :
    Calls Tryz.prog 44 #[.int .i64 n, .int .i64 m] w fun r w' => r = .returned (.bool (withinB n (-m) m)) ∧ w = w' := by
  go_enter Tryz.func44, Tryz.ntmps44
  go_wp2_with (go_at_call 37; refine (within_any _ _ _ _).mono ?_; rintro e w' ⟨rfl, rfl⟩)
  go_ret
  exact ⟨rfl, rfl⟩

theorem refWithin_any (n lo hi : Int) (w : World) :
    Calls Tryz.prog 29 #[.int .i64 n, .int .i64 lo, .int .i64 hi] w fun r w' => r = .returned (.bool (withinB n lo hi)) ∧ w = w' := by
  by_cases h : lo ≤ n
  all_goals
    go_enter Tryz.func29, Tryz.ntmps29
    go_wp2
    all_goals
      go_ret
      exact ⟨ret_bool (by simp [withinB]; try omega), rfl⟩

theorem isKind_any (n : Int) (w : World) :
    Calls Tryz.prog 36 #[.int .i64 n] w fun r w' => r = .returned (.bool (withinB n 0 2)) ∧ w = w' := by
  go_enter Tryz.func36, Tryz.ntmps36
  go_wp2_with (go_at_call 37; refine (within_any _ _ _ _).mono ?_; rintro e w' ⟨rfl, rfl⟩)
  go_ret
  exact ⟨rfl, rfl⟩

theorem mod12 {n : Int} : ((n.tmod 12) + 12).tmod 12 = n % 12 := by
  have h1 := Int.tmod_lt_of_pos n (show (0 : Int) < 12 by decide)
  have h2 := Int.lt_tmod_of_pos n (show (0 : Int) < 12 by decide)
  rw [Int.tmod_eq_emod_of_nonneg (by omega), Int.tmod_eq_emod]
  split <;> omega
theorem mod_any (n : Int) (w : World) :
    Calls Tryz.prog 63 #[.int .i64 n] w fun r w' => r = .returned (.int .i64 (n % 12)) ∧ w = w' := by
  go_enter Tryz.func63, Tryz.ntmps63
  go_wp2
  go_ret
  have h3 := Int.tmod_lt_of_pos n (show (0 : Int) < 12 by decide)
  have h4 := Int.lt_tmod_of_pos n (show (0 : Int) < 12 by decide)
  refine ⟨ret_int ?_, rfl⟩
  rw [← mod12, w64 (by omega)]

end Go.Proofs.YtccpkheiokjcdaaGreatDoor
end

section
namespace Go.Proofs.YtccpkheiokjcdaaGreatDoor
open Go.RowKit

/-- A number that is small in size. -/
def Sm (m n : Int) : Prop := -m ≤ n ∧ n ≤ m
theorem Sm.mul {m k a b : Int} (ha : Sm m a) (hb : Sm k b) (hm : 0 ≤ m) (hk : 0 ≤ k) : Sm (m * k) (a * b) := by
  have h : a.natAbs * b.natAbs ≤ m.toNat * k.toNat := Nat.mul_le_mul (by unfold Sm at ha; omega) (by unfold Sm at hb; omega)
  have h2 : (a * b).natAbs = a.natAbs * b.natAbs := Int.natAbs_mul a b
  have h3 : ((m.toNat * k.toNat : Nat) : Int) = m * k := by rw [Int.natCast_mul, Int.toNat_of_nonneg hm, Int.toNat_of_nonneg hk]
  unfold Sm
  omega

def turnN : Nat → Int × Int → Int × Int
  | 0, z => z
  | n + 1, z => turnN n (turn1 z)

theorem turned_0 (p q : Int) (_hp : Sm 1000000 p) (_hq : Sm 1000000 q) (w : World) :
    Calls Tryz.prog 62 #[.agg #[.int .i64 p, .int .i64 q], .int .i64 3] w fun e w' => e = .returned (.agg #[.int .i64 (turnN 0 (p, q)).1, .int .i64 (turnN 0 (p, q)).2]) ∧ Below w.heap.size w w' := by
  unfold Sm at _hp _hq
  go_enter Tryz.func62, Tryz.ntmps62
  go_wp2
  refine wp_loop_rounds 3 ?_
  rw [rounds_succ]
  go_wp2
  try (rw [rounds_succ]; go_wp2)
  try (rw [rounds_succ]; go_wp2)
  exact bodyPost_ret (v := .agg #[.int .i64 (turnN 0 (p, q)).1, .int .i64 (turnN 0 (p, q)).2]) (by simp [results, Tryz.results62, go_sem, turnN]) rfl ⟨rfl, (by repeat (first | exact pr | refine pa ?_ | refine ps ?_ (by simp)))⟩
theorem turned_1 (p q : Int) (hp : Sm 1000000 p) (hq : Sm 1000000 q) (w : World) :
    Calls Tryz.prog 62 #[.agg #[.int .i64 p, .int .i64 q], .int .i64 1] w fun e w' => e = .returned (.agg #[.int .i64 (turnN 1 (p, q)).1, .int .i64 (turnN 1 (p, q)).2]) ∧ Below w.heap.size w w' := by
  unfold Sm at hp hq
  go_enter Tryz.func62, Tryz.ntmps62
  go_wp2
  refine wp_loop_rounds 3 ?_
  rw [rounds_succ]
  go_wp2
  try (rw [rounds_succ]; go_wp2)
  try (rw [rounds_succ]; go_wp2)
  exact bodyPost_ret (v := .agg #[.int .i64 (turnN 1 (p, q)).1, .int .i64 (turnN 1 (p, q)).2]) (by simp [results, Tryz.results62, go_sem, turnN, turn1]) rfl ⟨rfl, (by repeat (first | exact pr | refine pa ?_ | refine ps ?_ (by simp)))⟩
theorem turned_2 (p q : Int) (hp : Sm 1000000 p) (hq : Sm 1000000 q) (w : World) :
    Calls Tryz.prog 62 #[.agg #[.int .i64 p, .int .i64 q], .int .i64 2] w fun e w' => e = .returned (.agg #[.int .i64 (turnN 2 (p, q)).1, .int .i64 (turnN 2 (p, q)).2]) ∧ Below w.heap.size w w' := by
  unfold Sm at hp hq
  go_enter Tryz.func62, Tryz.ntmps62
  go_wp2
  refine wp_loop_rounds 3 ?_
  rw [rounds_succ]
  go_wp2
  try (rw [rounds_succ]; go_wp2)
  try (rw [rounds_succ]; go_wp2)
  exact bodyPost_ret (v := .agg #[.int .i64 (turnN 2 (p, q)).1, .int .i64 (turnN 2 (p, q)).2]) (by simp [results, Tryz.results62, go_sem, turnN, turn1]) rfl ⟨rfl, (by repeat (first | exact pr | refine pa ?_ | refine ps ?_ (by simp)))⟩

end Go.Proofs.YtccpkheiokjcdaaGreatDoor
end
