/- Contract of group.LowFor: the winding that gives a clock number. The loops are unrolled. Printed by a program (gen_low.py).
Contracts of the specification: the phasor of a voltage, a winding's hours, the clock number, the winding that gives a clock number. Printed by a program (gen_reflow.py). -/
import Derived.Test.YtpdkbhjcpddnpaaGreatDoorN6
import Derived.Test.YtpdkbhjcpddnpaaGreatDoorN9
import Derived.Test.YtpdkbhjcpddnpaaGreatDoorNA

section
namespace Go.Proofs.YtpdkbhjcpddnpaaGreatDoor
open Go.RowKit
attribute [local go_sem ↓] Go.wp_at_zero Go.wp_at_succ

theorem bb_at0 (W : World) : Sem.run Tryz.prog (Instr.index 160 (.agg #[.bool false, .bool true]) (.int .i64 0)) W = .ok (.bool false) W := by kernel_rfl
theorem bb_at1 (W : World) : Sem.run Tryz.prog (Instr.index 160 (.agg #[.bool false, .bool true]) (.int .i64 1)) W = .ok (.bool true) W := by kernel_rfl
attribute [local go_sem] bb_at0 bb_at1

def lowR (c1 c2 c3 c4 c5 c6 n : Int) : Option (Int × Bool) := if (c1 == n) = true then some (0, false) else if (c2 == n) = true then some (1, false) else if (c3 == n) = true then some (2, false) else if (c4 == n) = true then some (0, true) else if (c5 == n) = true then some (1, true) else if (c6 == n) = true then some (2, true) else none
def lowErr (k t s kind n : Int) : Int := firstV [windE k t s, unlessV (withinB kind 0 2) 15, unlessV (withinB n 0 11) 2]
def lowRes (t kind : Int) : Option (Int × Bool) → Value
  | some x => .tuple #[.agg #[.int .i64 kind, .int .i64 t, .int .i64 x.1, .bool x.2], .int .i64 0]
  | none => .tuple #[.agg #[.int .i64 0, .int .i64 0, .int .i64 0, .bool false], .int .i64 12]

end Go.Proofs.YtpdkbhjcpddnpaaGreatDoor
end

section
namespace Go.Proofs.YtpdkbhjcpddnpaaGreatDoor
open Go.RowKit
attribute [local go_sem ↓] Go.wp_at_zero Go.wp_at_succ
attribute [local go_sem] l9_at0 l9_at1 l9_at2

def refLowErr (kind n : Int) : Int := firstV [unlessV (withinB kind 0 2) 15, unlessV (withinB n 0 11) 2]
end Go.Proofs.YtpdkbhjcpddnpaaGreatDoor
end
