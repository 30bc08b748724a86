/- Contracts of phasors: products, squares, hours; the specification's likewise. -/
import Derived.Test.YtpdkbhjcpddnpaaDoorG2Small
import Derived.LoopN
namespace Go.Proofs.YtpdkbhjcpddnpaaDoor
open Go.RowKit

/-- A number that is small in size. -/
def Sm (m n : Int) : Prop := -m ≤ n ∧ n ≤ m
theorem Sm.mul {m k a b : Int} (ha : Sm m a) (hb : Sm k b) (hm : 0 ≤ m) (hk : 0 ≤ k) : Sm (m * k) (a * b) := by
  have h : a.natAbs * b.natAbs ≤ m.toNat * k.toNat := Nat.mul_le_mul (by unfold Sm at ha; omega) (by unfold Sm at hb; omega)
  have h2 : (a * b).natAbs = a.natAbs * b.natAbs := Int.natAbs_mul a b
  have h3 : ((m.toNat * k.toNat : Nat) : Int) = m * k := by rw [Int.natCast_mul, Int.toNat_of_nonneg hm, Int.toNat_of_nonneg hk]
  unfold Sm
  omega

def turnN : Nat → Int × Int → Int × Int
  | 0, z => z
  | n + 1, z => turnN n (turn1 z)

theorem turned_0 (p q : Int) (_hp : Sm 1000000 p) (_hq : Sm 1000000 q) (w : World) :
    Calls Tryd.prog 59 #[.agg #[.int .i64 p, .int .i64 q], .int .i64 3] w fun e w' => e = .returned (.agg #[.int .i64 (turnN 0 (p, q)).1, .int .i64 (turnN 0 (p, q)).2]) ∧ Below w.heap.size w w' := by
  unfold Sm at _hp _hq
  go_enter Tryd.func59, Tryd.ntmps59
  go_wp2
  refine wp_loop_rounds 3 ?_
  rw [rounds_succ]
  go_wp2
  try (rw [rounds_succ]; go_wp2)
  try (rw [rounds_succ]; go_wp2)
  exact bodyPost_ret (v := .agg #[.int .i64 (turnN 0 (p, q)).1, .int .i64 (turnN 0 (p, q)).2]) (by simp [results, Tryd.results59, go_sem, turnN]) rfl ⟨rfl, (by repeat (first | exact pr | refine pa ?_ | refine ps ?_ (by simp)))⟩
theorem turned_1 (p q : Int) (hp : Sm 1000000 p) (hq : Sm 1000000 q) (w : World) :
    Calls Tryd.prog 59 #[.agg #[.int .i64 p, .int .i64 q], .int .i64 1] w fun e w' => e = .returned (.agg #[.int .i64 (turnN 1 (p, q)).1, .int .i64 (turnN 1 (p, q)).2]) ∧ Below w.heap.size w w' := by
  unfold Sm at hp hq
  go_enter Tryd.func59, Tryd.ntmps59
  go_wp2
  refine wp_loop_rounds 3 ?_
  rw [rounds_succ]
  go_wp2
  try (rw [rounds_succ]; go_wp2)
  try (rw [rounds_succ]; go_wp2)
  exact bodyPost_ret (v := .agg #[.int .i64 (turnN 1 (p, q)).1, .int .i64 (turnN 1 (p, q)).2]) (by simp [results, Tryd.results59, go_sem, turnN, turn1]) rfl ⟨rfl, (by repeat (first | exact pr | refine pa ?_ | refine ps ?_ (by simp)))⟩
theorem turned_2 (p q : Int) (hp : Sm 1000000 p) (hq : Sm 1000000 q) (w : World) :
    Calls Tryd.prog 59 #[.agg #[.int .i64 p, .int .i64 q], .int .i64 2] w fun e w' => e = .returned (.agg #[.int .i64 (turnN 2 (p, q)).1, .int .i64 (turnN 2 (p, q)).2]) ∧ Below w.heap.size w w' := by
  unfold Sm at hp hq
  go_enter Tryd.func59, Tryd.ntmps59
  go_wp2
  refine wp_loop_rounds 3 ?_
  rw [rounds_succ]
  go_wp2
  try (rw [rounds_succ]; go_wp2)
  try (rw [rounds_succ]; go_wp2)
  exact bodyPost_ret (v := .agg #[.int .i64 (turnN 2 (p, q)).1, .int .i64 (turnN 2 (p, q)).2]) (by simp [results, Tryd.results59, go_sem, turnN, turn1]) rfl ⟨rfl, (by repeat (first | exact pr | refine pa ?_ | refine ps ?_ (by simp)))⟩

end Go.Proofs.YtpdkbhjcpddnpaaDoor
