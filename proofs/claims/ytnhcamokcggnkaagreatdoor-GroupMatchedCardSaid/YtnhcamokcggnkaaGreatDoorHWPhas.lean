/- Contract: the specification's phasor of a voltage. -/
import Derived.Test.YtnhcamokcggnkaaGreatDoorGALines
namespace Go.Proofs.YtnhcamokcggnkaaGreatDoor
open Go.RowKit
attribute [local go_sem ↓] Go.wp_at_zero Go.wp_at_succ
attribute [local go_sem] l9_at0 l9_at1 l9_at2

theorem refPhasor3_any (a b c : Int) (ha : Sm 10000 a) (hb : Sm 10000 b) (hc : Sm 10000 c) (w : World) :
    Calls Tryz.prog 59 #[.agg #[.int .i64 a, .int .i64 b, .int .i64 c]] w fun e w' => e = .returned (.agg #[.int .i64 (a - b), .int .i64 (c - b)]) ∧ Below w.heap.size w w' := by
  unfold Sm at ha hb hc
  go_enter Tryz.func59, Tryz.ntmps59
  go_wp2
  exact bodyPost_ret (v := .agg #[.int .i64 (a - b), .int .i64 (c - b)]) (by simp [results, Tryz.results59, go_sem]) rfl ⟨rfl, by repeat (first | exact pr | refine pa ?_ | refine pd ?_ | refine ps ?_ (by first | (simp; done) | (simp; omega)))⟩

end Go.Proofs.YtnhcamokcggnkaaGreatDoor
