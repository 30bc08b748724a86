/- Contract of group.linesOf: the lines of a valid winding. -/
import Derived.Test.YtnhcamokcggnkaaDoorG7Lines0
import Derived.Test.YtnhcamokcggnkaaDoorG7Lines1
import Derived.Test.YtnhcamokcggnkaaDoorG7Lines2
namespace Go.Proofs.YtnhcamokcggnkaaDoor
open Go.RowKit

theorem sgnT_sm {t : Int} (r : Bool) (h1 : 1 ≤ t) (h2 : t ≤ 2000) : Sm 2000 (sgnT t r) := by unfold Sm sgnT; split <;> omega

theorem linesOf_any (k t s : Int) (r : Bool) (hu : (Wind.mk k t s r).ok) (w : World) (hP : PatIn w) :
    Calls Tryd.prog 63 #[.agg #[.int .i64 k, .int .i64 t, .int .i64 s, .bool r]] w fun e w' => e = .returned (.agg #[.int .i64 (linesV ⟨k, t, s, r⟩).x.a, .int .i64 (linesV ⟨k, t, s, r⟩).x.b, .int .i64 (linesV ⟨k, t, s, r⟩).x.c, .int .i64 (linesV ⟨k, t, s, r⟩).y.a, .int .i64 (linesV ⟨k, t, s, r⟩).y.b, .int .i64 (linesV ⟨k, t, s, r⟩).y.c, .int .i64 (linesV ⟨k, t, s, r⟩).z.a, .int .i64 (linesV ⟨k, t, s, r⟩).z.b, .int .i64 (linesV ⟨k, t, s, r⟩).z.c]) ∧ Below w.heap.size w w' := by
  obtain ⟨h1, h2, h3, h4, h5, h6⟩ := hu
  dsimp only at *
  have hT := sgnT_sm r h3 h4
  have hS := signed_any k t s r (by unfold Sm; omega)
  have hg := hP.1
  have hc := hP.2
  have hk : (k = 0 ∨ k = 1 ∨ k = 2) := by omega
  have hs : (s = 0 ∨ s = 1 ∨ s = 2) := by omega
  have e : ∀ k s, linesV ⟨k, t, s, r⟩ = rowsV (sgnT t r) k s := fun k s => rfl
  rw [e]
  generalize sgnT t r = T at *
  unfold Sm at hT
  rcases hk with rfl | rfl | rfl <;> rcases hs with rfl | rfl | rfl
  · have h := linesOf_00 1 (-1) 0 t T r w (by unfold Sm; omega) (by unfold Sm; omega) (by unfold Sm; omega) hg (hc 1 (by decide)) (hc 2 (by decide)) (hc 3 (by decide)) hS
    simpa [rowsV, scaleV, onN, onV, patV, Int.mul_comm] using h
  · have h := linesOf_01 1 (-1) 0 t T r w (by unfold Sm; omega) (by unfold Sm; omega) (by unfold Sm; omega) hg (hc 1 (by decide)) (hc 2 (by decide)) (hc 3 (by decide)) hS
    simpa [rowsV, scaleV, onN, onV, patV, Int.mul_comm] using h
  · have h := linesOf_02 1 (-1) 0 t T r w (by unfold Sm; omega) (by unfold Sm; omega) (by unfold Sm; omega) hg (hc 1 (by decide)) (hc 2 (by decide)) (hc 3 (by decide)) hS
    simpa [rowsV, scaleV, onN, onV, patV, Int.mul_comm] using h
  · have h := linesOf_10 1 0 0 t T r w (by unfold Sm; omega) (by unfold Sm; omega) (by unfold Sm; omega) hg (hc 5 (by decide)) (hc 6 (by decide)) (hc 7 (by decide)) hS
    simpa [rowsV, scaleV, onN, onV, patV, Int.mul_comm] using h
  · have h := linesOf_11 1 0 0 t T r w (by unfold Sm; omega) (by unfold Sm; omega) (by unfold Sm; omega) hg (hc 5 (by decide)) (hc 6 (by decide)) (hc 7 (by decide)) hS
    simpa [rowsV, scaleV, onN, onV, patV, Int.mul_comm] using h
  · have h := linesOf_12 1 0 0 t T r w (by unfold Sm; omega) (by unfold Sm; omega) (by unfold Sm; omega) hg (hc 5 (by decide)) (hc 6 (by decide)) (hc 7 (by decide)) hS
    simpa [rowsV, scaleV, onN, onV, patV, Int.mul_comm] using h
  · have h := linesOf_20 1 (-2) 1 t T r w (by unfold Sm; omega) (by unfold Sm; omega) (by unfold Sm; omega) hg (hc 9 (by decide)) (hc 10 (by decide)) (hc 11 (by decide)) hS
    simpa [rowsV, scaleV, onN, onV, patV, Int.mul_comm] using h
  · have h := linesOf_21 1 (-2) 1 t T r w (by unfold Sm; omega) (by unfold Sm; omega) (by unfold Sm; omega) hg (hc 9 (by decide)) (hc 10 (by decide)) (hc 11 (by decide)) hS
    simpa [rowsV, scaleV, onN, onV, patV, Int.mul_comm] using h
  · have h := linesOf_22 1 (-2) 1 t T r w (by unfold Sm; omega) (by unfold Sm; omega) (by unfold Sm; omega) hg (hc 9 (by decide)) (hc 10 (by decide)) (hc 11 (by decide)) hS
    simpa [rowsV, scaleV, onN, onV, patV, Int.mul_comm] using h

theorem linesV_sm {k t s : Int} {r : Bool} (hu : (Wind.mk k t s r).ok) : Sm 4000 (linesV ⟨k, t, s, r⟩).x.a ∧ Sm 4000 (linesV ⟨k, t, s, r⟩).x.b ∧ Sm 4000 (linesV ⟨k, t, s, r⟩).x.c ∧ Sm 4000 (linesV ⟨k, t, s, r⟩).y.a ∧ Sm 4000 (linesV ⟨k, t, s, r⟩).y.b ∧ Sm 4000 (linesV ⟨k, t, s, r⟩).y.c ∧ Sm 4000 (linesV ⟨k, t, s, r⟩).z.a ∧ Sm 4000 (linesV ⟨k, t, s, r⟩).z.b ∧ Sm 4000 (linesV ⟨k, t, s, r⟩).z.c := by
  obtain ⟨h1, h2, h3, h4, h5, h6⟩ := hu
  dsimp only at *
  have hT := sgnT_sm r h3 h4
  have hk : (k = 0 ∨ k = 1 ∨ k = 2) := by omega
  have hs : (s = 0 ∨ s = 1 ∨ s = 2) := by omega
  have e : ∀ k s, linesV ⟨k, t, s, r⟩ = rowsV (sgnT t r) k s := fun k s => rfl
  rw [e]
  generalize sgnT t r = T at *
  unfold Sm at *
  rcases hk with rfl | rfl | rfl <;> rcases hs with rfl | rfl | rfl <;> simp [rowsV, scaleV, onN, onV, patV] <;> omega

end Go.Proofs.YtnhcamokcggnkaaDoor
