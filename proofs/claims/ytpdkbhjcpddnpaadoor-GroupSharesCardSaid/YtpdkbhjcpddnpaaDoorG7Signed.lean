/- Contracts: the turns of a winding with their sign; the specification's sign. -/
import Derived.Test.YtpdkbhjcpddnpaaDoorG6Lines
namespace Go.Proofs.YtpdkbhjcpddnpaaDoor
open Go.RowKit
attribute [local go_sem ↓] Go.wp_at_zero Go.wp_at_succ

/-- The table of patterns stands where the package laid it. -/
def patC (i : Nat) : Value := [.string ⟨#[121]⟩, .int .i64 1, .int .i64 (-1), .int .i64 0, .string ⟨#[100]⟩, .int .i64 1, .int .i64 0, .int .i64 0, .string ⟨#[122]⟩, .int .i64 1, .int .i64 (-2), .int .i64 1].getD i (.int .i64 0)
def PatIn (w : World) : Prop := 0 < w.heap.size ∧ ∀ i, i < 12 → w.cell? ⟨0, i, none⟩ = some (patC i)
theorem PatIn.below {w w' : World} (h : PatIn w) (hb : Below w.heap.size w w') : PatIn w' := ⟨Nat.lt_of_lt_of_le h.1 hb.size, fun i hi => ((bcell hb).1 _ _ h.1).trans (h.2 i hi)⟩

def sgnT (t : Int) (r : Bool) : Int := if r then -t else t

theorem signed_any (k t s : Int) (r : Bool) (ht : Sm 1000000 t) (w : World) :
    Calls Tryd.prog 55 #[.agg #[.int .i64 k, .int .i64 t, .int .i64 s, .bool r]] w fun e w' => e = .returned (.int .i64 (sgnT t r)) ∧ Below w.heap.size w w' := by
  unfold Sm at ht
  cases r
  all_goals
    go_enter Tryd.func55, Tryd.ntmps55
    go_wp2
    go_ret
    exact ⟨rfl, pa pr⟩


end Go.Proofs.YtpdkbhjcpddnpaaDoor
