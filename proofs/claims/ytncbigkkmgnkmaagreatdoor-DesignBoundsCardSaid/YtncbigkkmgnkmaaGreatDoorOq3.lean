/- Plain facts: the root of a small whole number in double precision, cut to a whole number, is not negative and small. No program is in sight.
Contracts: the height of a width (package design): the root by the machine's arithmetic, put right by two loops.
Contracts: diameters, widths, heights and areas (package design). Printed by a program (gen_d2core.py). -/
import Derived.Test.YtncbigkkmgnkmaaGreatDoorRows
import GoSem.Core.Float
import Derived.Test.YtncbigkkmgnkmaaGreatDoorOq1
import Derived.Test.YtncbigkkmgnkmaaGreatDoorOa2
import Derived.Test.YtncbigkkmgnkmaaGreatDoorOq2
import Derived.Laws.Cover2
import Derived.Laws.FloatArith
import Derived.Laws.Externs

section
namespace Go.Proofs.YtncbigkkmgnkmaaGreatDoor
open Ieee

theorem rootFrom_lt (n : Nat) : ∀ (t r : Nat), Datum.rootFrom n t r < r + 2 ^ t
  | 0, r => by simp [Datum.rootFrom]
  | t + 1, r => by
    rw [Datum.rootFrom]
    have h := rootFrom_lt n t
    have e : 2 ^ (t + 1) = 2 ^ t + 2 ^ t := by rw [Nat.pow_succ]; omega
    simp only [Nat.one_shiftLeft]
    split
    · have := h (r + 2 ^ t); omega
    · have := h r
      have h2 : 0 < 2 ^ t := Nat.pow_pos (by decide)
      omega
theorem cut_zero_drop (n : Nat) : Toward.even.cut false n 0 = n := by
  simp [Toward.cut, Nat.mod_one]
theorem binade_is : double.binade = 4503599627370496 := by decide
theorem least_is : double.leastPlace = -1074 := by decide
theorem inf_is : double.infRung = 9218868437227405312 := by decide
theorem weight_is : double.signWeight = 9223372036854775808 := by decide
theorem log2_bd {n k : Nat} (h0 : n ≠ 0) (h : n < 2 ^ k) : n.log2 < k := (Nat.log2_lt h0).2 h

/-- What a word of a small rung stands for. -/
theorem read_bd {r : Nat} (h : r < 4661225614328463360) : ∃ (m : Nat) (j : Int), double.read r = .number false m j ∧ m < 9007199254740992 ∧ j ≤ -40 := by
  have hn : (r / double.signWeight % 2 == 1) = false := by
    rw [weight_is, Nat.div_eq_of_lt (by omega)]
    decide
  have hm : r % double.signWeight = r := by rw [weight_is]; exact Nat.mod_eq_of_lt (by omega)
  unfold Format.read
  simp only [hn, hm]
  rw [binade_is, inf_is, least_is]
  by_cases h1 : r < 4503599627370496
  · rw [if_pos h1]
    exact ⟨_, _, rfl, by omega, by decide⟩
  · rw [if_neg h1, if_pos (by omega)]
    exact ⟨_, _, rfl, by omega, by omega⟩
/-- A small whole number, exactly. -/
theorem read_nearest {s : Nat} (h0 : s ≠ 0) (h : s < 4194304) : ∃ (k : Nat) (i : Int), double.read (double.nearest false s 0) = .number false k i ∧ (4503599627370496 ≤ k ∧ k < 9007199254740992) ∧ -52 ≤ i ∧ i ≤ -31 := by
  have hl1 := Nat.log2_self_le h0
  have hl2 := @Nat.lt_log2_self s
  have hl : s.log2 < 22 := log2_bd h0 (by simpa using h)
  have hp : 2 ^ s.log2 * 2 ^ (52 - s.log2) = 4503599627370496 := by
    rw [← Nat.pow_add, show s.log2 + (52 - s.log2) = 52 by omega]
  have hp2 : 2 ^ (s.log2 + 1) * 2 ^ (52 - s.log2) = 9007199254740992 := by
    rw [← Nat.pow_add, show s.log2 + 1 + (52 - s.log2) = 53 by omega]
  have hk1 : 4503599627370496 ≤ s * 2 ^ (52 - s.log2) := by
    rw [← hp]; exact Nat.mul_le_mul_right _ hl1
  have hk2 : s * 2 ^ (52 - s.log2) < 9007199254740992 := by
    rw [← hp2]; exact Nat.mul_lt_mul_of_pos_right hl2 (Nat.pow_pos (by decide))
  have hfb : double.fractionBits = 52 := rfl
  have hlast : max ((0 : Int) + (s.log2 : Int) - (double.fractionBits : Int)) double.leastPlace = (s.log2 : Int) - 52 := by
    rw [least_is, hfb]; omega
  have hw : double.nearest false s 0 = (s.log2 + 1022) * 4503599627370496 + s * 2 ^ (52 - s.log2) := by
    unfold Format.nearest
    rw [if_neg h0]
    simp only [hlast]
    rw [show ((0 : Int) - ((s.log2 : Int) - 52)).toNat = 52 - s.log2 by omega, show ((s.log2 : Int) - 52 - 0).toNat = 0 by omega, cut_zero_drop, least_is, binade_is, inf_is, Nat.shiftLeft_eq,
      show ((s.log2 : Int) - 52 - -1074).toNat = s.log2 + 1022 by omega]
    unfold Format.word
    simp only [Bool.false_eq_true, if_false]
    exact Nat.min_eq_left (by omega)
  rw [hw]
  generalize s * 2 ^ (52 - s.log2) = k at *
  generalize s.log2 = l at *
  have hn : (((l + 1022) * 4503599627370496 + k) / double.signWeight % 2 == 1) = false := by
    rw [weight_is, Nat.div_eq_of_lt (by omega)]
    decide
  have hm : ((l + 1022) * 4503599627370496 + k) % double.signWeight = (l + 1022) * 4503599627370496 + k := by rw [weight_is]; exact Nat.mod_eq_of_lt (by omega)
  unfold Format.read
  simp only [hn, hm]
  rw [binade_is, inf_is, least_is, if_neg (by omega), if_pos (by omega)]
  exact ⟨_, _, rfl, by omega, by omega, by omega⟩
theorem root_bd {k : Nat} {i : Int} (hk : 4503599627370496 ≤ k ∧ k < 9007199254740992) (hi : -52 ≤ i ∧ i ≤ -31) : ∃ (m : Nat) (p : Int), Datum.root 54 (.number false k i) = some (.number false m p) ∧ m < 72057594037927936 ∧ -60 ≤ p ∧ p ≤ -45 := by
  have h0 : k ≠ 0 := by omega
  have hl1 : k.log2 < 53 := log2_bd h0 (by omega)
  have hl2 : 52 ≤ k.log2 := by
    have h := @Nat.lt_log2_self k
    rcases Nat.lt_or_ge k.log2 52 with h1 | h1
    · have := Nat.pow_le_pow_right (show 0 < 2 by decide) (show k.log2 + 1 ≤ 52 by omega)
      omega
    · exact h1
  have hl : k.log2 = 52 := by omega
  unfold Datum.root
  simp only [hl, h0, Bool.false_eq_true, if_false]
  have hb : ((i - ((2 * 54 - 52 : Nat) : Int)) % 2).toNat ≤ 1 := by omega
  generalize ((i - ((2 * 54 - 52 : Nat) : Int)) % 2).toNat = b at *
  have hn : k <<< (2 * 54 - 52 + b) < 2 ^ 110 := by
    rw [Nat.shiftLeft_eq]
    have h1 : 2 ^ (2 * 54 - 52 + b) ≤ 2 ^ 57 := Nat.pow_le_pow_right (by decide) (by omega)
    have h2 := Nat.mul_le_mul (show k ≤ 9007199254740991 by omega) h1
    omega
  have hlog : (k <<< (2 * 54 - 52 + b)).log2 < 110 := by
    by_cases hz : k <<< (2 * 54 - 52 + b) = 0
    · rw [hz]; decide
    · exact log2_bd hz hn
  have hr := rootFrom_lt (k <<< (2 * 54 - 52 + b)) ((k <<< (2 * 54 - 52 + b)).log2 / 2 + 1) 0
  have hp := Nat.pow_le_pow_right (show 0 < 2 by decide) (show (k <<< (2 * 54 - 52 + b)).log2 / 2 + 1 ≤ 55 by omega)
  generalize Datum.rootFrom (k <<< (2 * 54 - 52 + b)) ((k <<< (2 * 54 - 52 + b)).log2 / 2 + 1) 0 = whole at *
  refine ⟨_, _, rfl, ?_, by omega, by omega⟩
  have : ∀ c : Bool, c.toNat ≤ 1 := fun c => by cases c <;> decide
  have := this (whole * whole != k <<< (2 * 54 - 52 + b))
  omega
theorem cut_even_le {n d : Nat} (h : n < 72057594037927936) (hd : d = n.log2 - 52) (hl : 52 < n.log2) : Toward.even.cut false n d ≤ 9007199254740992 := by
  have h0 : n ≠ 0 := fun e => by rw [e] at hl; exact absurd hl (by decide)
  have h1 : n.log2 < 56 := log2_bd h0 (by omega)
  unfold Toward.cut
  simp only [Nat.one_shiftLeft, show min d (n.log2 + 2) = d by omega]
  have h2 := @Nat.lt_log2_self n
  have h3 : n / 2 ^ d < 9007199254740992 := by
    rw [Nat.div_lt_iff_lt_mul (Nat.pow_pos (by decide))]
    refine Nat.lt_of_lt_of_le h2 ?_
    rw [show (9007199254740992 : Nat) = 2 ^ 53 from rfl, ← Nat.pow_add]
    exact Nat.pow_le_pow_right (by decide) (by omega)
  have : ∀ c : Bool, c.toNat ≤ 1 := fun c => by cases c <;> decide
  have := this (decide (2 ^ d < 2 * (n % 2 ^ d)) || (2 ^ d == 2 * (n % 2 ^ d) && n / 2 ^ d % 2 == 1))
  omega
theorem write_bd {m : Nat} {p : Int} (hm : m < 72057594037927936) (hp : -60 ≤ p ∧ p ≤ -45) : double.nearest false m p < 4661225614328463360 := by
  unfold Format.nearest
  by_cases h0 : m = 0
  · rw [if_pos h0]; decide
  · rw [if_neg h0]
    have hl : m.log2 < 56 := log2_bd h0 (by omega)
    have hl2 := @Nat.lt_log2_self m
    have hfb : double.fractionBits = 52 := rfl
    have hlast : max (p + (m.log2 : Int) - (double.fractionBits : Int)) double.leastPlace = p + (m.log2 : Int) - 52 := by
      rw [least_is, hfb]; omega
    simp only [hlast]
    have hkept : Toward.even.cut false (m <<< (p - (p + (m.log2 : Int) - 52)).toNat) (p + (m.log2 : Int) - 52 - p).toNat ≤ 9007199254740992 := by
      by_cases h1 : m.log2 ≤ 52
      · rw [show (p + (m.log2 : Int) - 52 - p).toNat = 0 by omega, cut_zero_drop, show (p - (p + (m.log2 : Int) - 52)).toNat = 52 - m.log2 by omega, Nat.shiftLeft_eq]
        have h3 : m * 2 ^ (52 - m.log2) ≤ 2 ^ (m.log2 + 1) * 2 ^ (52 - m.log2) := Nat.mul_le_mul_right _ (Nat.le_of_lt hl2)
        rw [← Nat.pow_add, show m.log2 + 1 + (52 - m.log2) = 53 by omega] at h3
        exact h3
      · rw [show (p - (p + (m.log2 : Int) - 52)).toNat = 0 by omega]
        exact cut_even_le (n := m) hm (by omega) (by omega)
    generalize Toward.even.cut false (m <<< (p - (p + (m.log2 : Int) - 52)).toNat) (p + (m.log2 : Int) - 52 - p).toNat = kept at *
    rw [least_is, binade_is, inf_is]
    unfold Format.word
    simp only [Bool.false_eq_true, if_false]
    omega
theorem toInt_bd {m : Nat} {j : Int} (hm : m < 9007199254740992) (hj : j ≤ -40) : ∃ n : Nat, Datum.toInt .zero (.number false m j) = some (n : Int) ∧ n < 8192 := by
  unfold Datum.toInt Datum.integral
  simp only
  refine ⟨_, rfl, ?_⟩
  rw [show j.toNat = 0 by omega]
  simp only [Nat.shiftLeft_zero]
  unfold Toward.cut
  simp only [Nat.one_shiftLeft, Bool.toNat_false, Nat.add_zero]
  rcases Nat.lt_or_ge (-j).toNat (m.log2 + 2) with h1 | h1
  · rw [Nat.min_eq_left (Nat.le_of_lt h1), Nat.div_lt_iff_lt_mul (Nat.pow_pos (by decide))]
    have : 2 ^ 40 ≤ 2 ^ (-j).toNat := Nat.pow_le_pow_right (by decide) (by omega)
    omega
  · rw [Nat.min_eq_right h1]
    have h2 := @Nat.lt_log2_self m
    have h3 : 2 ^ (m.log2 + 2) = 2 ^ (m.log2 + 1) * 2 := by rw [Nat.pow_succ]
    rw [Nat.div_eq_of_lt (by omega)]
    decide
theorem write_false (m : Nat) (p : Int) : double.write (.number false m p) = double.nearest false m p := rfl
/-- The root of a small number: a word that is cut to a small whole number. -/
theorem sqrt_ok {s : Int} (h0 : 0 ≤ s) (h : s < 4194304) : ∃ r : Nat, double.sqrt (FloatKind.f64.nearest s) = some r ∧ ∃ n : Nat, (double.read r).toInt .zero = some (n : Int) ∧ n < 8192 := by
  have e : FloatKind.f64.nearest s = double.nearest false s.toNat 0 := by
    have h1 : decide (s < 0) = false := decide_eq_false (by omega)
    have h2 : s.natAbs = s.toNat := by omega
    show double.nearest (decide (s < 0)) s.natAbs 0 = _
    rw [h1, h2]
  rw [e]
  unfold Format.sqrt
  by_cases hz : s.toNat = 0
  · rw [hz]
    exact ⟨0, by decide, 0, by decide, by decide⟩
  · obtain ⟨k, i, h1, h2, h3⟩ := read_nearest hz (by omega)
    obtain ⟨m, p, h4, h5, h6⟩ := root_bd h2 h3
    rw [h1, show double.fractionBits + 2 = 54 from rfl, h4]
    obtain ⟨m2, j, h7, h8, h9⟩ := read_bd (write_bd h5 h6)
    refine ⟨_, rfl, ?_⟩
    rw [write_false, h7]
    exact toInt_bd h8 h9

end Go.Proofs.YtncbigkkmgnkmaaGreatDoor
end

section
namespace Go.Proofs.YtncbigkkmgnkmaaGreatDoor
open Go.RowKit

theorem run_sqrt (x r : Nat) (h : Ieee.double.sqrt x = some r) (w : World) : (Extern.MathSqrt.sqrt #[.float .f64 x]).run Tryz.prog w = .ok (.float .f64 r) w := by
  have h2 : FloatKind.f64.format.sqrt x = some r := h
  have h3 : Extern.MathSqrt.sqrt #[.float .f64 x] = (match FloatKind.f64.format.sqrt x with
    | some r => (pure (.float .f64 r) : Sem Value)
    | none => do pure (.float .f64 (← choose (.nanBits .f64 x x)))) := rfl
  rw [h3, h2]
  rfl
set_option maxRecDepth 100000 in
theorem mathSqrt_any (x r : Nat) (h : Ieee.double.sqrt x = some r) (w : World) :
    Calls Tryz.prog 113 #[.float .f64 x] w fun e w' => e = .returned (.float .f64 r) ∧ w = w' := by
  go_enter Tryz.func113, Tryz.ntmps113
  go_wp2
  rw [run_callFunc_extern Tryz.func122 (by kernel_rfl) (by kernel_rfl) (by kernel_rfl) (e := Extern.MathSqrt.sqrt) (by kernel_rfl)]
  rw [run_sqrt x r h]
  simp only [Result.andThen]
  rw [Oper.upon_value]
  go_wp2
  go_ret
  exact ⟨rfl, rfl⟩
theorem sq_bd {n m : Int} (h0 : 0 ≤ n) (h : n ≤ m) : 0 ≤ n * n ∧ n * n ≤ m * m := ⟨Int.mul_nonneg h0 h0, Int.mul_le_mul h h h0 (Int.le_trans h0 h)⟩
set_option maxHeartbeats 2000000 in
set_option maxRecDepth 100000 in
theorem height_any (d v : Int) (h1 : 1 ≤ v) (h2 : v ≤ d) (h3 : d ≤ 2000) (w : World) :
    Calls Tryz.prog 98 #[.int .i64 d, .int .i64 v] w fun e w' => e = .returned (.int .i64 (hgt d v)) ∧ w = w' := by
  have a1 := sq_bd (show (0 : Int) ≤ d by omega) h3
  have a2 := sq_mono (show (0 : Int) ≤ v by omega) h2
  have a3 := sq_bd (show (0 : Int) ≤ v by omega) (Int.le_trans h2 h3)
  have HG := Lib.hid (fun (n : Int) (g0 : 0 ≤ n) (g1 : n * n ≤ d * d - v * v) (g2 : d * d - v * v < (n + 1) * (n + 1)) => hgt_of (by omega) h2 g0 g1 g2)
  have b1 : 0 ≤ d * d - v * v := by omega
  have b2 : d * d - v * v ≤ 4000000 := by omega
  have hd : wrap64 (d * d) = d * d := w64 (by omega)
  have hv : wrap64 (v * v) = v * v := w64 (by omega)
  have hs : wrap64 (d * d - v * v) = d * d - v * v := w64 (by omega)
  obtain ⟨r, hr1, n0, hr2, hr3⟩ := sqrt_ok b1 (Int.lt_of_le_of_lt b2 (by decide))
  have HSq := Lib.hid (fun W => mathSqrt_any _ r hr1 W)
  have hcv : ∀ W, (convert 172 3 (.float .f64 r)).run Tryz.prog W = .ok (.int .i64 (n0 : Int)) W := fun W => run_convert_float_int W _ _ .f64 .i64 r (n0 : Int) (by kernel_rfl) Tryz.underlying3 (by
    unfold floatToIntVal
    have h5 : (FloatKind.f64.decode r).toInt .zero = some (n0 : Int) := hr2
    have e1 : IntKind.i64.min = -9223372036854775808 := by decide
    have e2 : IntKind.i64.max = 9223372036854775807 := by decide
    rw [h5]
    exact if_pos ⟨by rw [e1]; omega, by rw [e2]; omega⟩)
  clear a1 a2 a3 h1 h2 h3 hr1 hr2
  generalize hgt d v = G at *
  go_enter Tryz.func98, Tryz.ntmps98
  go_wp2_with (go_at_call 113; refine (HSq.out _).mono ?_; rintro e w' ⟨rfl, rfl⟩)
  clear hd hv hs hcv HSq
  generalize d * d - v * v = S at *
  generalize d * d = D at *
  generalize v * v = V at *
  have HB := Lib.hid (And.intro b1 b2)
  go_loop [6] (fun x => ∃ n : Int, x = .int .i64 n ∧ 0 ≤ n ∧ n ≤ 8192) (fun x => (intOf x).toNat)
  case atStart => exact ⟨(n0 : Int), rfl, by omega, by omega⟩
  case round =>
    obtain ⟨n, rfl, g0, g1⟩ := hrel
    have q := sq_bd g0 g1
    by_cases hc : S < n * n
    · have g2 : 1 ≤ n := by
        rcases Int.lt_or_le n 1 with h | h
        · have : n = 0 := by omega
          subst this
          omega
        · exact h
      have hw : wrap64 (n * n) = n * n := w64 (by omega)
      have HN := Lib.hid (And.intro g1 g2)
      clear q b1 b2 hr3
      go_wp2
      go_round
      case rel => exact ⟨n - 1, by go_num, by have := HN.out; omega, by have := HN.out; omega⟩
      case measure => have := HN.out; simp [intOf]; omega
    · have hw : wrap64 (n * n) = n * n := w64 (by omega)
      have hc2 : n * n ≤ S := by omega
      have g2 : n ≤ 2000 := by
        rcases Int.lt_or_le 2000 n with h | h
        · have := sq_mono (show (0 : Int) ≤ 2001 by decide) h
          omega
        · exact h
      have HN := Lib.hid (And.intro g0 (And.intro hc2 g2))
      clear q b1 b2 hr3 hc2 g2 g1
      go_wp2
      clear hw hc
      go_loop [6] (fun x => ∃ n : Int, x = .int .i64 n ∧ 0 ≤ n ∧ n * n ≤ S ∧ n ≤ 2000) (fun x => (2000 - intOf x).toNat)
      case atStart => exact ⟨n, rfl, HN.out⟩
      case round =>
        clear HN g0
        obtain ⟨k, rfl, g0, g1, g2⟩ := hrel
        have q := sq_bd (show (0 : Int) ≤ k + 1 by omega) (show k + 1 ≤ 2001 by omega)
        have hw : wrap64 ((k + 1) * (k + 1)) = (k + 1) * (k + 1) := w64 (by omega)
        have HN := Lib.hid (And.intro g0 (And.intro g1 g2))
        by_cases hc : (k + 1) * (k + 1) ≤ S
        · have g3 : k + 1 ≤ 2000 := by
            rcases Int.lt_or_le 2000 (k + 1) with h | h
            · have := sq_mono (show (0 : Int) ≤ 2001 by decide) h
              have := HB.out
              omega
            · exact h
          have HC := Lib.hid (And.intro hc g3)
          clear q g1 g3
          go_wp2
          go_round
          case rel => exact ⟨k + 1, by go_num, by have := HN.out; omega, HC.out.1, HC.out.2⟩
          case measure => have := HC.out.2; simp [intOf]; omega
        · have HC := Lib.hid (show S < (k + 1) * (k + 1) by omega)
          clear q g1
          go_wp2
          go_ret
          exact ⟨ret_int (HG.out k HN.out.1 HN.out.2.1 HC.out).symm, rfl⟩

end Go.Proofs.YtncbigkkmgnkmaaGreatDoor
end

section
namespace Go.Proofs.YtncbigkkmgnkmaaGreatDoor
open Go.RowKit

def diamE (d : Int) : Int := unlessV (withinB d 1 2000) 2
def widthErr (d : Int) (ws : List Int) (i : Nat) : Int := firstV [unlessV (withinB (ws.getD i 0) 1 d) 2, unlessV (decide (i = 0) || decide (ws.getD i 0 < ws.getD (i - 1) 0)) 9]
/-- The error of widths of a valid diameter; of a diameter and widths. -/
def wE (d : Int) (ws : List Int) : Int := if ws.length ≤ 12 then (scan (widthErr d ws) ws.length 0).2 else 8
def widthsE (d : Int) (ws : List Int) : Int := if diamE d ≠ 0 then diamE d else wE d ws
theorem scan_none {f : Nat → Int} {n : Nat} : ∀ {m k : Nat}, n - k = m → (scan f n k).2 = 0 → ∀ j, k ≤ j → j < n → f j = 0
  | 0, k, h, _, j, h1, h2 => by omega
  | m + 1, k, h, hs, j, h1, h2 => by
    rw [scan_step (by omega)] at hs
    by_cases h0 : f k = 0
    · rw [if_pos h0] at hs
      rcases Nat.eq_or_lt_of_le h1 with rfl | h3
      · exact h0
      · exact scan_none (m := m) (k := k + 1) (by omega) hs j h3 h2
    · rw [if_neg h0] at hs
      exact absurd hs h0
theorem diamE_ok {d : Int} : diamE d = 0 ↔ 1 ≤ d ∧ d ≤ 2000 := by
  unfold diamE
  rw [unless_ne (by decide)]
  simp [withinB]
theorem widthErr_ok {d : Int} {ws : List Int} {i : Nat} (h : widthErr d ws i = 0) : (1 ≤ ws.getD i 0 ∧ ws.getD i 0 ≤ d) ∧ (i = 0 ∨ ws.getD i 0 < ws.getD (i - 1) 0) := by
  obtain ⟨h1, h2⟩ := firstV_zero.1 h
  have g1 := (unless_ne (by decide)).1 h1
  have g2 := (unless_ne (by decide)).1 (firstV_zero.1 h2).1
  simp only [withinB, Bool.and_eq_true, Bool.or_eq_true, decide_eq_true_eq] at g1 g2
  exact ⟨g1, g2⟩
theorem widths_of {d : Int} : ∀ {ws : List Int}, (∀ i, i < ws.length → (1 ≤ ws.getD i 0 ∧ ws.getD i 0 ≤ d) ∧ (i = 0 ∨ ws.getD i 0 < ws.getD (i - 1) 0)) → WidthsOk d ws
  | [], _ => trivial
  | w :: l, h => by
    have h0 := (h 0 (by simp)).1
    have ih : WidthsOk d l := widths_of fun i hi => by
      have h1 := h (i + 1) (by simpa using hi)
      refine ⟨by simpa using h1.1, ?_⟩
      rcases Nat.eq_zero_or_pos i with h2 | h2
      · exact .inl h2
      · refine .inr ?_
        rcases h1.2 with h3 | h3
        · omega
        · obtain ⟨j, rfl⟩ : ∃ j, i = j + 1 := ⟨i - 1, by omega⟩
          simpa using h3
    refine ⟨by simpa using h0.1, by simpa using h0.2, fun v hv => ?_, ih⟩
    cases l with
    | nil => cases hv
    | cons x l =>
      have h1 := h 1 (by simp)
      have h2 : x < w := by
        rcases h1.2 with h3 | h3
        · omega
        · simpa using h3
      rcases List.mem_cons.1 hv with rfl | hv
      · exact h2
      · exact Int.lt_trans (ih.2.2.1 v hv) h2
theorem wE_ok {d : Int} {ws : List Int} (h : wE d ws = 0) : WidthsOk d ws ∧ ws.length ≤ 12 := by
  unfold wE at h
  split at h
  · rename_i h1
    exact ⟨widths_of fun i hi => widthErr_ok (scan_none rfl h i (Nat.zero_le _) hi), h1⟩
  · exact absurd h (by decide)
/-- The height of the last width, or the height at which the area begins. -/
def lastH (d a : Int) (l : List Int) : Int := l.foldl (fun _ w => hgt d w) a
theorem areaF_snoc (d w : Int) : ∀ (l : List Int) (a : Int), areaF d a (l ++ [w]) = areaF d a l + w * (hgt d w - lastH d a l)
  | [], a => by simp [areaF, lastH]
  | v :: l, a => by
    rw [List.cons_append, areaF, areaF_snoc d w l, areaF]
    show _ = _ + w * (hgt d w - lastH d (hgt d v) l)
    omega
theorem lastH_snoc (d a w : Int) (l : List Int) : lastH d a (l ++ [w]) = hgt d w := by simp [lastH]
theorem lastH_bd {d : Int} {l : List Int} (hd : d ≤ 2000) (h : WidthsOk d l) : 0 ≤ lastH d 0 l ∧ lastH d 0 l ≤ 2000 := by
  rcases List.eq_nil_or_concat l with rfl | ⟨m, w, rfl⟩
  · exact ⟨Int.le_refl 0, show (0 : Int) ≤ 2000 by decide⟩
  · rw [List.concat_eq_append] at h ⊢
    rw [lastH_snoc]
    have h1 := h.mem w (by simp)
    have := (hgt_spec (d := d) (w := w) (by omega) h1.2).1
    have := hgt_lt h1.1 h1.2
    omega
theorem WidthsOk.take {d : Int} : ∀ {l : List Int}, WidthsOk d l → ∀ k, WidthsOk d (l.take k)
  | [], _, k => by rw [List.take_nil]; trivial
  | w :: l, _, 0 => trivial
  | w :: l, h, k + 1 => ⟨h.1, h.2.1, fun v hv => h.2.2.1 v (List.mem_of_mem_take hv), h.2.2.2.take k⟩
theorem take_snoc0 {l : List Int} {k : Nat} (h : k < l.length) : l.take (k + 1) = l.take k ++ [l.getD k 0] := by
  have e : l.getD k 0 = l[k] := by simp [List.getD, h]
  rw [List.take_succ_eq_append_getElem h, e]
theorem mulw_bd {a b : Int} (ha : 0 ≤ a ∧ a ≤ 2000) (hb : -2000 ≤ b ∧ b ≤ 2000) : -4000000 ≤ a * b ∧ a * b ≤ 4000000 := by
  have h1 := Int.mul_le_mul_of_nonneg_left hb.2 ha.1
  have h2 := Int.mul_le_mul_of_nonneg_left hb.1 ha.1
  omega

theorem diameterErr_any (d : Int) (w : World) :
    Calls Tryz.prog 97 #[.int .i64 d] w fun e w' => e = .returned (.int .i64 (diamE d)) ∧ w = w' := by
  go_enter Tryz.func97, Tryz.ntmps97
  go_wp2_with (first
    | (go_at_call 73; refine (within_any _ _ _ _).mono ?_; rintro e w' ⟨rfl, rfl⟩)
    | (go_at_call 72; refine (unless_any _ _ _).mono ?_; rintro e w' ⟨rfl, rfl⟩))
  go_ret
  exact ⟨rfl, rfl⟩
set_option maxHeartbeats 2000000 in
set_option maxRecDepth 100000 in
theorem widthsErr_any (B : Nat) (d : Int) (ws : List Int) (A : Option Addr) (n c : Nat) (w : World) (hr : IntsIn B w A ws) (hB : B ≤ w.heap.size) (hn : ws.length = n) (hm : n ≤ 1000) :
    Calls Tryz.prog 76 #[.int .i64 d, .slice A n c] w fun e w' => e = .returned (.int .i64 (widthsE d ws)) ∧ Below w.heap.size w w' := by
  have hV : firstV [diamE d, unlessV (decide ((n : Int) ≤ 12)) 8] = firstV [diamE d, unlessV (decide ((n : Int) ≤ 12)) 8] := rfl
  have HT := Lib.hid (show widthsE d ws = if firstV [diamE d, unlessV (decide ((n : Int) ≤ 12)) 8] ≠ 0 then firstV [diamE d, unlessV (decide ((n : Int) ≤ 12)) 8] else (scan (widthErr d ws) n 0).2 by
    unfold widthsE wE
    rw [hn]
    by_cases h0 : diamE d = 0
    · by_cases h1 : n ≤ 12
      · rw [h0, decide_eq_true (show (n : Int) ≤ 12 by omega)]
        simp [firstV, unlessV, h1]
      · rw [h0, decide_eq_false (show ¬ (n : Int) ≤ 12 by omega)]
        simp [firstV, unlessV, h1]
    · simp [firstV, h0])
  have HR := Lib.hid hr
  have HN := Lib.hid hn
  generalize hE : firstV [diamE d, unlessV (decide ((n : Int) ≤ 12)) 8] = E1 at *
  have HV := Lib.hid hE
  clear hr hV hE
  generalize widthsE d ws = E at *
  by_cases hE : E1 = 0
  · subst hE
    have HE := Lib.hid (show E = (scan (widthErr d ws) n 0).2 by rw [HT.out, if_neg (by simp)])
    clear HT
    go_enter Tryz.func76, Tryz.ntmps76
    go_wp2_with (first
      | (go_at_call 97; refine (diameterErr_any _ _).mono ?_; rintro e w' ⟨rfl, rfl⟩)
      | (go_at_call 72; refine (unless_any _ _ _).mono ?_; rintro e w' ⟨rfl, rfl⟩)
      | (go_at_call 57; refine (first2 _ _ _ _ _ (by first | (go_simp; done) | (go_simp; rfl)) (by first | (go_simp; done) | (go_simp; rfl)) _ HV.out).mono ?_; rintro e w' ⟨rfl, rfl⟩))
    generalize hv : w.alloc _ = v
    have HQ1 : Hid (Below w.heap.size w v) := Lib.hid (by rw [← hv]; exact pa pr)
    clear hv
    go_loopw [22] (fun i wr => ∃ k : Nat, k ≤ n ∧ i = .int .i64 (k : Int) ∧ scan (widthErr d ws) n 0 = scan (widthErr d ws) n k ∧ Below v.heap.size v wr) (fun i _ => n - (intOf i).toNat)
    case atStart => exact ⟨0, Nat.zero_le _, rfl, rfl, pr⟩
    case round =>
      obtain ⟨k, hk, rfl, hf, hq⟩ := hrel
      have HQ := Lib.hid (pt HQ1.out hq)
      by_cases hlt : k < n
      · obtain ⟨b, off, rfl, hb, hct⟩ := (HR.out.below (HQ.out.mono hB)).at_ (k := k) (by rw [hn]; exact hlt)
        have d0 := hct k (by rw [hn]; exact hlt)
        have d1 := hct (k - 1) (by rw [hn]; omega)
        have hbw := Nat.lt_of_lt_of_le hb (Nat.le_trans hB HQ.out.size)
        have HS := Lib.hid (hf.trans (scan_step hlt))
        have hFk : firstV [unlessV (withinB (ws.getD k 0) 1 d) 2, unlessV (decide (k = 0) || decide (ws.getD k 0 < ws.getD (k - 1) 0)) 9] = widthErr d ws k := rfl
        have HQv := Lib.hid (pa (o := .cells #[] 33) hq)
        have HQz := Lib.hid hq
        clear hct hf HQv hq
        generalize widthErr d ws k = e at *
        generalize ws.getD k 0 = x at *
        generalize ws.getD (k - 1) 0 = y at *
        have HFk := Lib.hid hFk
        clear hFk
        by_cases hk0 : k = 0
        · have HW := Lib.hid (show firstV [unlessV (withinB x 1 d) 2, unlessV true 9] = e by rw [← HFk.out, decide_eq_true hk0]; rfl)
          have hz : ((k : Int) == 0) = true := by simp [hk0]
          clear HFk d1 hk0
          by_cases he : e = 0
          · subst he
            have HS2 := Lib.hid (show scan (widthErr d ws) n 0 = scan (widthErr d ws) n (k + 1) by rw [HS.out, if_pos rfl])
            go_wp2_with (first
              | (go_at_call 73; refine (within_any _ _ _ _).mono ?_; rintro e w' ⟨rfl, rfl⟩)
              | (go_at_call 72; refine (unless_any _ _ _).mono ?_; rintro e w' ⟨rfl, rfl⟩)
              | (go_at_call 57; refine (first2 _ _ _ _ _ (by first | (go_simp; done) | (go_simp; rfl)) (by first | (go_simp; done) | (go_simp; rfl)) _ HW.out).mono ?_; rintro e w' ⟨rfl, rfl⟩))
            go_roundw
            case rel => exact ⟨k + 1, by omega, by go_num, HS2.out, pa HQz.out⟩
            case measure => simp [intOf]; omega
          · have he1 : (e == 0) = false := by simpa using he
            have he2 : (e != 0) = true := by simpa using he
            have HRs := Lib.hid (show E = e by rw [HE.out, HS.out, if_neg he])
            go_wp2_with (first
              | (go_at_call 73; refine (within_any _ _ _ _).mono ?_; rintro e w' ⟨rfl, rfl⟩)
              | (go_at_call 72; refine (unless_any _ _ _).mono ?_; rintro e w' ⟨rfl, rfl⟩)
              | (go_at_call 57; refine (first2 _ _ _ _ _ (by first | (go_simp; done) | (go_simp; rfl)) (by first | (go_simp; done) | (go_simp; rfl)) _ HW.out).mono ?_; rintro e w' ⟨rfl, rfl⟩))
            go_ret
            exact ⟨ret_int HRs.out.symm, pa HQ.out⟩
        · have HW := Lib.hid (show firstV [unlessV (withinB x 1 d) 2, unlessV (decide (x < y)) 9] = e by rw [← HFk.out, decide_eq_false hk0, Bool.false_or])
          have hz : ((k : Int) == 0) = false := by simp; omega
          have i2 : max (k : Int) 1 = (k : Int) := by omega
          have i3 : ((k : Int) - 1).toNat = k - 1 := by omega
          have i4 : (0 : Int) ≤ (k : Int) - 1 := by omega
          have i5 : (k : Int) - 1 < (n : Int) := by omega
          have i6 : (1 : Int) ≤ (k : Int) := by omega
          clear HFk hk0
          by_cases he : e = 0
          · subst he
            have HS2 := Lib.hid (show scan (widthErr d ws) n 0 = scan (widthErr d ws) n (k + 1) by rw [HS.out, if_pos rfl])
            go_wp2_with (first
              | (go_at_call 73; refine (within_any _ _ _ _).mono ?_; rintro e w' ⟨rfl, rfl⟩)
              | (go_at_call 72; refine (unless_any _ _ _).mono ?_; rintro e w' ⟨rfl, rfl⟩)
              | (go_at_call 57; refine (first2 _ _ _ _ _ (by first | (go_simp; done) | (go_simp; rfl)) (by first | (go_simp; done) | (go_simp; rfl)) _ HW.out).mono ?_; rintro e w' ⟨rfl, rfl⟩))
            go_roundw
            case rel => exact ⟨k + 1, by omega, by go_num, HS2.out, pa HQz.out⟩
            case measure => simp [intOf]; omega
          · have he1 : (e == 0) = false := by simpa using he
            have he2 : (e != 0) = true := by simpa using he
            have HRs := Lib.hid (show E = e by rw [HE.out, HS.out, if_neg he])
            go_wp2_with (first
              | (go_at_call 73; refine (within_any _ _ _ _).mono ?_; rintro e w' ⟨rfl, rfl⟩)
              | (go_at_call 72; refine (unless_any _ _ _).mono ?_; rintro e w' ⟨rfl, rfl⟩)
              | (go_at_call 57; refine (first2 _ _ _ _ _ (by first | (go_simp; done) | (go_simp; rfl)) (by first | (go_simp; done) | (go_simp; rfl)) _ HW.out).mono ?_; rintro e w' ⟨rfl, rfl⟩))
            go_ret
            exact ⟨ret_int HRs.out.symm, pa HQ.out⟩
      · have HRs := Lib.hid (show E = 0 by rw [HE.out, hf, scan_end (by omega)])
        clear hf
        go_wp2
        go_ret
        exact ⟨ret_int HRs.out.symm, HQ.out⟩
  · have hE1 : (E1 == 0) = false := by simpa using hE
    have hE2 : (E1 != 0) = true := by simpa using hE
    have HE := Lib.hid (show E = E1 by rw [HT.out, if_pos hE])
    clear HT
    go_enter Tryz.func76, Tryz.ntmps76
    go_wp2_with (first
      | (go_at_call 97; refine (diameterErr_any _ _).mono ?_; rintro e w' ⟨rfl, rfl⟩)
      | (go_at_call 72; refine (unless_any _ _ _).mono ?_; rintro e w' ⟨rfl, rfl⟩)
      | (go_at_call 57; refine (first2 _ _ _ _ _ (by first | (go_simp; done) | (go_simp; rfl)) (by first | (go_simp; done) | (go_simp; rfl)) _ HV.out).mono ?_; rintro e w' ⟨rfl, rfl⟩))
    go_ret
    exact ⟨ret_int HE.out.symm, pa pr⟩

set_option maxHeartbeats 2000000 in
set_option maxRecDepth 100000 in
theorem area_any (B : Nat) (d : Int) (ws : List Int) (A : Option Addr) (n c : Nat) (w : World) (hr : IntsIn B w A ws) (hn : ws.length = n) (hm : n ≤ 1000) (hd : 1 ≤ d ∧ d ≤ 2000) (hw : WidthsOk d ws) :
    Calls Tryz.prog 77 #[.int .i64 d, .slice A n c] w fun e w' => e = .returned (.int .i64 (areaD d ws)) ∧ w = w' := by
  subst hn
  have HW := Lib.hid hw
  have HD := Lib.hid hd
  clear hw hd
  go_enter Tryz.func77, Tryz.ntmps77
  go_wp2
  go_loop [5, 6, 12] (fun s l i => ∃ k : Nat, k ≤ ws.length ∧ i = .int .i64 (k : Int) ∧ s = .int .i64 (areaD d (ws.take k)) ∧ l = .int .i64 (lastH d 0 (ws.take k))) (fun _ _ i => ws.length - (intOf i).toNat)
  case atStart => exact ⟨0, Nat.zero_le _, rfl, rfl, rfl⟩
  case round =>
    obtain ⟨k, hk, rfl, rfl, rfl⟩ := hrel
    by_cases hlt : k < ws.length
    · obtain ⟨b, off, rfl, hb, hct⟩ := hr.at_ hlt
      have d0 := hct k hlt
      have hm2 := HW.out.mem _ (show ws.getD k 0 ∈ ws by simp [List.getD, hlt])
      have HH := Lib.hid (fun W => height_any d _ hm2.1 hm2.2 HD.out.2 W)
      have hl := lastH_bd HD.out.2 (HW.out.take k)
      have ha := area_bd HD.out.1 (HW.out.take k)
      have hg := (hgt_spec (d := d) (w := ws.getD k 0) (Int.le_trans (by decide) hm2.1) hm2.2).1
      have hg2 := hgt_lt hm2.1 hm2.2
      have hD := HD.out
      have hp := mulw_bd (a := ws.getD k 0) (b := hgt d (ws.getD k 0) - lastH d 0 (ws.take k)) (by omega) (by omega)
      have hdd := sq_bd (show (0 : Int) ≤ d by omega) hD.2
      have HA := Lib.hid (show areaD d (ws.take (k + 1)) = areaD d (ws.take k) + ws.getD k 0 * (hgt d (ws.getD k 0) - lastH d 0 (ws.take k)) by rw [take_snoc0 hlt]; exact areaF_snoc _ _ _ _)
      have HLs := Lib.hid (show lastH d 0 (ws.take (k + 1)) = hgt d (ws.getD k 0) by rw [take_snoc0 hlt, lastH_snoc])
      clear hct hr
      generalize ws.getD k 0 = x at *
      generalize hgt d x = h at *
      generalize lastH d 0 (ws.take k) = l at *
      generalize areaD d (ws.take k) = S at *
      have b1 : -2000 ≤ h - l ∧ h - l ≤ 2000 := by omega
      have b2 : 0 ≤ S ∧ S ≤ 4000000 := by omega
      have q1 : wrap64 (h - l) = h - l := w64 (by omega)
      have q2 : wrap64 (x * (h - l)) = x * (h - l) := w64 (by omega)
      have q3 : wrap64 (S + x * (h - l)) = S + x * (h - l) := w64 (by omega)
      clear hp hdd ha hg hg2 hl hD hm2 b1 b2
      go_wp2_with (first
        | (go_at_call 98; refine (HH.out _).mono ?_; rintro e w' ⟨rfl, rfl⟩))
      go_round
      case rel => exact ⟨k + 1, by omega, by go_num, by rw [HA.out, q3], by rw [HLs.out]⟩
      case measure => simp [intOf]; omega
    · obtain rfl : k = ws.length := by omega
      have HT := Lib.hid (show ws.take ws.length = ws from List.take_length)
      go_wp2
      go_ret
      exact ⟨ret_int (by first | rfl | rw [HT.out]), rfl⟩
end Go.Proofs.YtncbigkkmgnkmaaGreatDoor
end
