/- Contract of group.HoursOf for phasors of permitted parts, whole. -/
import Derived.Test.YtnhcamokcggnkaaGreatDoorGSHours
import Derived.Test.YtnhcamokcggnkaaGreatDoorGMTurns
import Derived.Test.YtnhcamokcggnkaaGreatDoorGJAwake
namespace Go.Proofs.YtnhcamokcggnkaaGreatDoor
open Go.RowKit

theorem phB_refl (p q : Int) : phB p q p q = true := by simp [phB]
theorem hourE_of {p q : Int} (h : phE p q = 0) : hourE p q = if p = 0 ∧ q = 0 then 11 else 0 := by
  unfold hourE
  rw [h]
  by_cases h0 : p = 0 ∧ q = 0
  · obtain ⟨rfl, rfl⟩ := h0; rfl
  · have : phB p q 0 0 = false := by
      cases hb : phB p q 0 0
      · rfl
      · exact absurd (by simpa [phB] using hb) h0
    rw [this, if_neg h0]; rfl
theorem HoursOf_any (p q : Int) (h : phE p q = 0) (w : World) (hT : TwIn w) :
    Calls Tryz.prog 39 #[.agg #[.int .i64 p, .int .i64 q]] w fun e w' => e = .returned (.tuple #[.int .i64 ((hoursV p q).getD 0), .int .i64 (hoursE p q)]) ∧ Below w.heap.size w w' := by
  by_cases h0 : p = 0 ∧ q = 0
  · have h1 := HoursOf_err p q (by rw [hourE_of h, if_pos h0]; decide) w
    rw [hourE_of h, if_pos h0] at h1
    obtain ⟨rfl, rfl⟩ := h0
    exact h1
  · have h1 := HoursOf_ok p q (by rw [hourE_of h, if_neg h0]) w hT
    rw [show unlessV (hoursV p q).isSome 12 = hoursE p q by unfold hoursE unlessV; rw [if_neg h0]] at h1
    exact h1
theorem hoursE_some {p q : Int} (h : hoursE p q = 0) : ∃ x, hoursV p q = some x := by
  unfold hoursE at h
  split at h
  · cases h
  · split at h
    · rename_i h1; exact Option.isSome_iff_exists.1 h1
    · cases h
theorem hoursE_of {p q x : Int} (h : hoursV p q = some x) : hoursE p q = 0 := by
  have h0 : ¬ (p = 0 ∧ q = 0) := by rintro ⟨rfl, rfl⟩; cases h
  unfold hoursE
  rw [if_neg h0, h]; rfl
theorem hoursE_cases (p q : Int) : hoursE p q = 0 ∨ (hoursE p q == 0) = false := by
  by_cases h : hoursE p q = 0
  · exact .inl h
  · exact .inr (by simpa using h)

end Go.Proofs.YtnhcamokcggnkaaGreatDoor
