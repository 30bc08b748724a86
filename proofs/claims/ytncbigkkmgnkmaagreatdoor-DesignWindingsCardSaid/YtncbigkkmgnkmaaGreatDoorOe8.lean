/- Contracts: math/bits.Mul at 1 and a small number. -/
import Derived.Test.YtncbigkkmgnkmaaGreatDoorOa2
import Derived.Laws.Bits64b

section
namespace Go.Proofs.YtncbigkkmgnkmaaGreatDoor
open Go.RowKit

set_option maxHeartbeats 4000000 in
set_option maxRecDepth 100000 in
theorem mul64_one (y : Nat) (hy : y ≤ 100000) (w : World) : Calls Tryz.prog 112 #[.int .u64 1, .int .u64 (y : Int)] w fun e w' => e = .returned (.tuple #[.int .u64 0, .int .u64 (y : Int)]) ∧ w = w' := by
  have a1 : bits .and .u64 1 4294967295 = 1 := by decide
  have a2 : bits .and .u64 (y : Int) 4294967295 = (y : Int) := by
    have h := bits_and_u64_nat y 4294967295 (by omega) (by decide)
    rw [show ((4294967295 : Nat) : Int) = 4294967295 from rfl] at h
    rw [h, show (4294967295 : Nat) = 2 ^ 32 - 1 from rfl, Nat.and_two_pow_sub_one_of_lt_two_pow (by omega)]
  have a3 : bits .and .u64 0 4294967295 = 0 := by decide
  have a4 : (y : Int) / 4294967296 = 0 := Int.ediv_eq_zero_of_lt (by omega) (by omega)
  have a5 : IntKind.u64.wrap (y : Int) = (y : Int) := by
    show ((y : Int) % 18446744073709551616) = _
    omega
  go_enter Tryz.func112, Tryz.ntmps112
  go_wp2
  go_ret2
  exact ⟨rfl, rfl⟩
set_option maxHeartbeats 4000000 in
set_option maxRecDepth 100000 in
theorem mul_one_ (y : Nat) (hy : y ≤ 100000) (w : World) : Calls Tryz.prog 95 #[.int .u64 1, .int .u64 (y : Int)] w fun e w' => e = .returned (.tuple #[.int .u64 0, .int .u64 (y : Int)]) ∧ w = w' := by
  have HM := Lib.hid (mul64_one y hy)
  go_enter Tryz.func95, Tryz.ntmps95
  go_wp2_with (go_at_call 112; refine (HM.out _).mono ?_; rintro e w' ⟨rfl, hw'⟩; subst hw')
  go_ret2
  exact ⟨rfl, rfl⟩

end Go.Proofs.YtncbigkkmgnkmaaGreatDoor
end
