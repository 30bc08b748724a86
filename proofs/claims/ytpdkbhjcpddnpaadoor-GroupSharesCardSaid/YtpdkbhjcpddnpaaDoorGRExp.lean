/- Contracts: exported functions on phasors: products, squares, hours; the zero voltage; the sequence. -/
import Derived.Test.YtpdkbhjcpddnpaaDoorGFCur
import Derived.Test.YtpdkbhjcpddnpaaDoorGEExp
namespace Go.Proofs.YtpdkbhjcpddnpaaDoor
open Go.RowKit
attribute [local go_sem ↓] Go.wp_at_zero Go.wp_at_succ

theorem apiph_eql (p q r s : Int) (W : World) : (binOp .eql 24 (.agg #[.int .i64 p, .int .i64 q]) (.agg #[.int .i64 r, .int .i64 s])).run Tryd.prog W = .ok (.bool (phB p q r s)) W := by
  simp [go_sem, phB]
  by_cases h1 : p = r <;> by_cases h2 : q = s <;> simp [h1, h2]
theorem apiph_neq (p q r s : Int) (W : World) : (binOp .neq 24 (.agg #[.int .i64 p, .int .i64 q]) (.agg #[.int .i64 r, .int .i64 s])).run Tryd.prog W = .ok (.bool (!phB p q r s)) W := by
  simp [go_sem, phB]
  by_cases h1 : p = r <;> by_cases h2 : q = s <;> simp [h1, h2]
attribute [local go_sem ↓ high] apiph_eql apiph_neq ph_eql

def hourE (p q : Int) : Int := firstV [phE p q, unlessV (!phB p q 0 0) 11]
end Go.Proofs.YtpdkbhjcpddnpaaDoor
