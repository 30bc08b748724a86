/- Contracts of hours, whole; the hours of the specification. -/
import Derived.Test.YtpdkbhjcpddnpaaDoorG4Hour
namespace Go.Proofs.YtpdkbhjcpddnpaaDoor
open Go.RowKit

theorem hours_none {p q : Int} (h : hoursV p q = none) : (p = 0 ∧ q = 0) ∨ (¬ q = 0 ∧ ¬ p = q * 2 ∧ ¬ p = q ∧ ¬ p * 2 = q ∧ ¬ p = 0 ∧ ¬ p = -q) := by
  unfold hoursV at h
  split at h
  · cases h
  · rename_i h1
    have h2 : upV (-p) (-q) = none := by
      cases hx : upV (-p) (-q) with
      | none => rfl
      | some k => rw [hx] at h; cases h
    clear h
    unfold upV at h1 h2
    split at h1; · cases h1
    split at h1; · cases h1
    split at h1; · cases h1
    split at h1; · cases h1
    split at h1; · cases h1
    split at h1; · cases h1
    split at h2; · cases h2
    split at h2; · cases h2
    split at h2; · cases h2
    split at h2; · cases h2
    split at h2; · cases h2
    split at h2; · cases h2
    omega

theorem hour_any (p q : Int) (hp : Sm 1000000 p) (hq : Sm 1000000 q) (w : World) (hT : TwIn w) :
    Calls Tryd.prog 70 #[.agg #[.int .i64 p, .int .i64 q]] w fun r w' => r = .returned (.tuple #[.int .i64 ((hoursV p q).getD 0), .bool (hoursV p q).isSome]) ∧ Below w.heap.size w w' := by
  cases hh : hoursV p q with
  | none =>
    rcases hours_none hh with ⟨rfl, rfl⟩ | ⟨h0, h1, h2, h3, h4, h5⟩
    · exact hour_zero w hT
    · exact hour_off p q h0 h1 h2 h3 h4 h5 hp hq w hT
  | some h =>
    obtain ⟨a1, a2, e, he, rfl, rfl⟩ := hoursV_dir hh
    clear hh
    unfold Sm at hp hq
    have hk : h = 0 ∨ h = 1 ∨ h = 2 ∨ h = 3 ∨ h = 4 ∨ h = 5 ∨ h = 6 ∨ h = 7 ∨ h = 8 ∨ h = 9 ∨ h = 10 ∨ h = 11 := by omega
    have hm : e ≤ 1000000 := by
      rcases hk with rfl | rfl | rfl | rfl | rfl | rfl | rfl | rfl | rfl | rfl | rfl | rfl <;> simp [dirV] at hp hq <;> omega
    clear hp hq a1 a2
    rcases hk with rfl | rfl | rfl | rfl | rfl | rfl | rfl | rfl | rfl | rfl | rfl | rfl
    · rw [show e * (dirV 0).1 = e by simp [dirV], show e * (dirV 0).2 = 0 by simp [dirV]]; exact hour_0 e he hm w hT
    · rw [show e * (dirV 1).1 = e * 2 by simp [dirV], show e * (dirV 1).2 = e by simp [dirV]]; exact hour_1 e he hm w hT
    · rw [show e * (dirV 2).1 = e by simp [dirV], show e * (dirV 2).2 = e by simp [dirV]]; exact hour_2 e he hm w hT
    · rw [show e * (dirV 3).1 = e by simp [dirV], show e * (dirV 3).2 = e * 2 by simp [dirV]]; exact hour_3 e he hm w hT
    · rw [show e * (dirV 4).1 = 0 by simp [dirV], show e * (dirV 4).2 = e by simp [dirV]]; exact hour_4 e he hm w hT
    · rw [show e * (dirV 5).1 = -e by simp [dirV], show e * (dirV 5).2 = e by simp [dirV]]; exact hour_5 e he hm w hT
    · rw [show e * (dirV 6).1 = -e by simp [dirV], show e * (dirV 6).2 = 0 by simp [dirV]]; exact hour_6 e he hm w hT
    · rw [show e * (dirV 7).1 = -(e * 2) by simp [dirV]; omega, show e * (dirV 7).2 = -e by simp [dirV]]; exact hour_7 e he hm w hT
    · rw [show e * (dirV 8).1 = -e by simp [dirV], show e * (dirV 8).2 = -e by simp [dirV]]; exact hour_8 e he hm w hT
    · rw [show e * (dirV 9).1 = -e by simp [dirV], show e * (dirV 9).2 = -(e * 2) by simp [dirV]; omega]; exact hour_9 e he hm w hT
    · rw [show e * (dirV 10).1 = 0 by simp [dirV], show e * (dirV 10).2 = -e by simp [dirV]]; exact hour_10 e he hm w hT
    · rw [show e * (dirV 11).1 = e by simp [dirV], show e * (dirV 11).2 = -e by simp [dirV]]; exact hour_11 e he hm w hT

end Go.Proofs.YtpdkbhjcpddnpaaDoor
