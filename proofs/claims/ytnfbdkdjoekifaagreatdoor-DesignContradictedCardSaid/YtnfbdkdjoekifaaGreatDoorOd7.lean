/- Contracts: the height of a width (package design): the root by the machine's arithmetic, put right by two loops. -/
import Derived.Test.YtnfbdkdjoekifaaGreatDoorOd6
import Derived.Test.YtnfbdkdjoekifaaGreatDoorOa4
import Derived.Test.YtnfbdkdjoekifaaGreatDoorOa2
import Derived.Test.YtnfbdkdjoekifaaGreatDoorOc9
import Derived.Laws.Cover2
import Derived.Laws.FloatArith
import Derived.Laws.Externs

section
namespace Go.Proofs.YtnfbdkdjoekifaaGreatDoor
open Go.RowKit

theorem run_sqrt (x r : Nat) (h : Ieee.double.sqrt x = some r) (w : World) : (Extern.MathSqrt.sqrt #[.float .f64 x]).run Tryz.prog w = .ok (.float .f64 r) w := by
  have h2 : FloatKind.f64.format.sqrt x = some r := h
  have h3 : Extern.MathSqrt.sqrt #[.float .f64 x] = (match FloatKind.f64.format.sqrt x with
    | some r => (pure (.float .f64 r) : Sem Value)
    | none => do pure (.float .f64 (← choose (.nanBits .f64 x x)))) := rfl
  rw [h3, h2]
  rfl
set_option maxRecDepth 100000 in
theorem mathSqrt_any (x r : Nat) (h : Ieee.double.sqrt x = some r) (w : World) :
    Calls Tryz.prog 92 #[.float .f64 x] w fun e w' => e = .returned (.float .f64 r) ∧ w = w' := by
  go_enter Tryz.func92, Tryz.ntmps92
  go_wp2
  rw [run_callFunc_extern Tryz.func105 (by kernel_rfl) (by kernel_rfl) (by kernel_rfl) (e := Extern.MathSqrt.sqrt) (by kernel_rfl)]
  rw [run_sqrt x r h]
  simp only [Result.andThen]
  rw [Oper.upon_value]
  go_wp2
  go_ret
  exact ⟨rfl, rfl⟩
theorem sq_bd {n m : Int} (h0 : 0 ≤ n) (h : n ≤ m) : 0 ≤ n * n ∧ n * n ≤ m * m := ⟨Int.mul_nonneg h0 h0, Int.mul_le_mul h h h0 (Int.le_trans h0 h)⟩
set_option maxHeartbeats 2000000 in
set_option maxRecDepth 100000 in
theorem height_any (d v : Int) (h1 : 1 ≤ v) (h2 : v ≤ d) (h3 : d ≤ 2000) (w : World) :
    Calls Tryz.prog 77 #[.int .i64 d, .int .i64 v] w fun e w' => e = .returned (.int .i64 (hgt d v)) ∧ w = w' := by
  have a1 := sq_bd (show (0 : Int) ≤ d by omega) h3
  have a2 := sq_mono (show (0 : Int) ≤ v by omega) h2
  have a3 := sq_bd (show (0 : Int) ≤ v by omega) (Int.le_trans h2 h3)
  have HG := Lib.hid (fun (n : Int) (g0 : 0 ≤ n) (g1 : n * n ≤ d * d - v * v) (g2 : d * d - v * v < (n + 1) * (n + 1)) => hgt_of (by omega) h2 g0 g1 g2)
  have b1 : 0 ≤ d * d - v * v := by omega
  have b2 : d * d - v * v ≤ 4000000 := by omega
  have hd : wrap64 (d * d) = d * d := w64 (by omega)
  have hv : wrap64 (v * v) = v * v := w64 (by omega)
  have hs : wrap64 (d * d - v * v) = d * d - v * v := w64 (by omega)
  obtain ⟨r, hr1, n0, hr2, hr3⟩ := sqrt_ok b1 (Int.lt_of_le_of_lt b2 (by decide))
  have HSq := Lib.hid (fun W => mathSqrt_any _ r hr1 W)
  have hcv : ∀ W, (convert 147 3 (.float .f64 r)).run Tryz.prog W = .ok (.int .i64 (n0 : Int)) W := fun W => run_convert_float_int W _ _ .f64 .i64 r (n0 : Int) (by kernel_rfl) Tryz.underlying3 (by
    unfold floatToIntVal
    have h5 : (FloatKind.f64.decode r).toInt .zero = some (n0 : Int) := hr2
    have e1 : IntKind.i64.min = -9223372036854775808 := by decide
    have e2 : IntKind.i64.max = 9223372036854775807 := by decide
    rw [h5]
    exact if_pos ⟨by rw [e1]; omega, by rw [e2]; omega⟩)
  clear a1 a2 a3 h1 h2 h3 hr1 hr2
  generalize hgt d v = G at *
  go_enter Tryz.func77, Tryz.ntmps77
  go_wp2_with (go_at_call 92; refine (HSq.out _).mono ?_; rintro e w' ⟨rfl, rfl⟩)
  clear hd hv hs hcv HSq
  generalize d * d - v * v = S at *
  generalize d * d = D at *
  generalize v * v = V at *
  have HB := Lib.hid (And.intro b1 b2)
  go_loop [6] (fun x => ∃ n : Int, x = .int .i64 n ∧ 0 ≤ n ∧ n ≤ 8192) (fun x => (intOf x).toNat)
  case atStart => exact ⟨(n0 : Int), rfl, by omega, by omega⟩
  case round =>
    obtain ⟨n, rfl, g0, g1⟩ := hrel
    have q := sq_bd g0 g1
    by_cases hc : S < n * n
    · have g2 : 1 ≤ n := by
        rcases Int.lt_or_le n 1 with h | h
        · have : n = 0 := by omega
          subst this
          omega
        · exact h
      have hw : wrap64 (n * n) = n * n := w64 (by omega)
      have HN := Lib.hid (And.intro g1 g2)
      clear q b1 b2 hr3
      go_wp2
      go_round
      case rel => exact ⟨n - 1, by go_num, by have := HN.out; omega, by have := HN.out; omega⟩
      case measure => have := HN.out; simp [intOf]; omega
    · have hw : wrap64 (n * n) = n * n := w64 (by omega)
      have hc2 : n * n ≤ S := by omega
      have g2 : n ≤ 2000 := by
        rcases Int.lt_or_le 2000 n with h | h
        · have := sq_mono (show (0 : Int) ≤ 2001 by decide) h
          omega
        · exact h
      have HN := Lib.hid (And.intro g0 (And.intro hc2 g2))
      clear q b1 b2 hr3 hc2 g2 g1
      go_wp2
      clear hw hc
      go_loop [6] (fun x => ∃ n : Int, x = .int .i64 n ∧ 0 ≤ n ∧ n * n ≤ S ∧ n ≤ 2000) (fun x => (2000 - intOf x).toNat)
      case atStart => exact ⟨n, rfl, HN.out⟩
      case round =>
        clear HN g0
        obtain ⟨k, rfl, g0, g1, g2⟩ := hrel
        have q := sq_bd (show (0 : Int) ≤ k + 1 by omega) (show k + 1 ≤ 2001 by omega)
        have hw : wrap64 ((k + 1) * (k + 1)) = (k + 1) * (k + 1) := w64 (by omega)
        have HN := Lib.hid (And.intro g0 (And.intro g1 g2))
        by_cases hc : (k + 1) * (k + 1) ≤ S
        · have g3 : k + 1 ≤ 2000 := by
            rcases Int.lt_or_le 2000 (k + 1) with h | h
            · have := sq_mono (show (0 : Int) ≤ 2001 by decide) h
              have := HB.out
              omega
            · exact h
          have HC := Lib.hid (And.intro hc g3)
          clear q g1 g3
          go_wp2
          go_round
          case rel => exact ⟨k + 1, by go_num, by have := HN.out; omega, HC.out.1, HC.out.2⟩
          case measure => have := HC.out.2; simp [intOf]; omega
        · have HC := Lib.hid (show S < (k + 1) * (k + 1) by omega)
          clear q g1
          go_wp2
          go_ret
          exact ⟨ret_int (HG.out k HN.out.1 HN.out.2.1 HC.out).symm, rfl⟩

end Go.Proofs.YtnfbdkdjoekifaaGreatDoor
end
