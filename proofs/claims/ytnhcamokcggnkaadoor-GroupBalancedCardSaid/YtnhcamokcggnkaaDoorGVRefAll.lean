/- Contract of the specification's Lines: the lines of a valid winding. -/
import Derived.Test.YtnhcamokcggnkaaDoorGVRef0
import Derived.Test.YtnhcamokcggnkaaDoorGVRef1
import Derived.Test.YtnhcamokcggnkaaDoorGVRef2
import Derived.Test.YtnhcamokcggnkaaDoorGBClock
namespace Go.Proofs.YtnhcamokcggnkaaDoor
open Go.RowKit

theorem refLines_any (k t s : Int) (r : Bool) (hu : (Wind.mk k t s r).ok) (L : L3) (hL : linesV ⟨k, t, s, r⟩ = L) (w : World) :
    Calls Tryd.prog 20 #[.agg #[.int .i64 k, .int .i64 t, .int .i64 s, .bool r]] w fun e w' => e = .returned (.agg #[.int .i64 L.x.a, .int .i64 L.x.b, .int .i64 L.x.c, .int .i64 L.y.a, .int .i64 L.y.b, .int .i64 L.y.c, .int .i64 L.z.a, .int .i64 L.z.b, .int .i64 L.z.c]) ∧ Below w.heap.size w w' := by
  subst hL
  obtain ⟨h1, h2, h3, h4, h5, h6⟩ := hu
  dsimp only at *
  have hS := sign_any k t s r
  have hg : Sm 2000 ((if r then -1 else 1) * t) := by unfold Sm; cases r <;> simp <;> omega
  have hk : (k = 0 ∨ k = 1 ∨ k = 2) := by omega
  have hs : (s = 0 ∨ s = 1 ∨ s = 2) := by omega
  have e : ∀ k s, linesV ⟨k, t, s, r⟩ = rowsV ((if r then -1 else 1) * t) k s := fun k s => by unfold linesV Wind.sgn; cases r <;> simp
  rw [e]
  generalize (if r then (-1 : Int) else 1) = G at *
  rcases hk with rfl | rfl | rfl <;> rcases hs with rfl | rfl | rfl
  · have h := refLines_00 t G r w hg hS
    simpa [rowsV, scaleV, onN, onV, patV] using h
  · have h := refLines_01 t G r w hg hS
    simpa [rowsV, scaleV, onN, onV, patV] using h
  · have h := refLines_02 t G r w hg hS
    simpa [rowsV, scaleV, onN, onV, patV] using h
  · have h := refLines_10 t G r w hg hS
    simpa [rowsV, scaleV, onN, onV, patV] using h
  · have h := refLines_11 t G r w hg hS
    simpa [rowsV, scaleV, onN, onV, patV] using h
  · have h := refLines_12 t G r w hg hS
    simpa [rowsV, scaleV, onN, onV, patV] using h
  · have h := refLines_20 t G r w hg hS
    simpa [rowsV, scaleV, onN, onV, patV] using h
  · have h := refLines_21 t G r w hg hS
    simpa [rowsV, scaleV, onN, onV, patV] using h
  · have h := refLines_22 t G r w hg hS
    simpa [rowsV, scaleV, onN, onV, patV] using h

end Go.Proofs.YtnhcamokcggnkaaDoor
