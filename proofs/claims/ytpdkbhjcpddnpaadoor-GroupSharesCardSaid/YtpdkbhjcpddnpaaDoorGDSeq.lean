/- Contracts of lines: their sequence. -/
import Derived.Test.YtpdkbhjcpddnpaaDoorGALines
namespace Go.Proofs.YtpdkbhjcpddnpaaDoor
open Go.RowKit
attribute [local go_sem ↓] Go.wp_at_zero Go.wp_at_succ

def phB (p q r s : Int) : Bool := p == r && q == s
theorem phB_iff (p q r s : Int) : phB p q r s = true ↔ (p, q) = (r, s) := by simp [phB]
theorem ph_eql (p q r s : Int) (W : World) : (binOp .eql 86 (.agg #[.int .i64 p, .int .i64 q]) (.agg #[.int .i64 r, .int .i64 s])).run Tryd.prog W = .ok (.bool (phB p q r s)) W := by
  simp [go_sem, phB]
  by_cases h1 : p = r <;> by_cases h2 : q = s <;> simp [h1, h2]
attribute [local go_sem ↓ high] ph_eql


end Go.Proofs.YtpdkbhjcpddnpaaDoor
