/- Contract: whether a lot is accepted. No condition. -/
import Derived.Test.YtbojmcopagbheaaGreatDoorQB
import Derived.Deep.RegionHeld3
namespace Go.Proofs.YtbojmcopagbheaaGreatDoor
open Go.RowKit

theorem accept_cases (x : Lot) : (acceptV x = 2 ∧ x.llo ≤ x.mlo ∧ x.mhi ≤ x.lhi) ∨
    (acceptV x = 0 ∧ ((x.llo ≤ x.mlo ∧ ¬ x.mhi ≤ x.lhi) ∨ ¬ x.llo ≤ x.mlo) ∧ (x.lhi < x.mlo ∨ (¬ x.lhi < x.mlo ∧ x.mhi < x.llo))) ∨
    (acceptV x = 1 ∧ ((x.llo ≤ x.mlo ∧ ¬ x.mhi ≤ x.lhi) ∨ ¬ x.llo ≤ x.mlo) ∧ ¬ x.lhi < x.mlo ∧ ¬ x.mhi < x.llo) := by
  unfold acceptV
  by_cases h1 : x.llo ≤ x.mlo ∧ x.mhi ≤ x.lhi
  · rw [if_pos h1]; exact .inl ⟨rfl, h1⟩
  · rw [if_neg h1]
    by_cases h2 : x.lhi < x.mlo ∨ x.mhi < x.llo
    · rw [if_pos h2]; exact .inr (.inl ⟨rfl, by omega, by omega⟩)
    · rw [if_neg h2]; exact .inr (.inr ⟨rfl, by omega, by omega, by omega⟩)

set_option maxHeartbeats 4000000 in
set_option maxRecDepth 100000 in
theorem accept_any (x : Lot) (A : Option Addr) (n c : Nat) (w : World) :
    Calls Tryz.prog 70 #[.agg #[.string x.name, .slice A n c, .int .i64 x.mlo, .int .i64 x.mhi, .int .i64 x.llo, .int .i64 x.lhi]] w fun e w' => e = .returned (.int .i64 (acceptV x)) ∧ Below w.heap.size w w' := by
  have hcase := accept_cases x
  generalize acceptV x = V at *
  obtain ⟨nm, md, mlo, mhi, llo, lhi⟩ := x
  dsimp only at *
  have r0 : Blk (w.alloc (.cells #[.string nm, .slice A n c, .int .i64 mlo, .int .i64 mhi, .int .i64 llo, .int .i64 lhi] 58)) w.heap.size 58 #[.string nm, .slice A n c, .int .i64 mlo, .int .i64 mhi, .int .i64 llo, .int .i64 lhi] := Blk.newAt rfl
  have c2 := r0.cellAt 2 rfl
  have c3 := r0.cellAt 3 rfl
  have c4 := r0.cellAt 4 rfl
  have c5 := r0.cellAt 5 rfl
  clear r0
  rcases hcase with ⟨rfl, h1, h2⟩ | ⟨rfl, h12, h34⟩ | ⟨rfl, h12, h3, h4⟩
  · go_enter Tryz.func70, Tryz.ntmps70
    go_wp2
    go_region_held3 (fun w' => w'.cell? ⟨w.heap.size, 2, none⟩ = some (.int .i64 mlo) ∧ w'.cell? ⟨w.heap.size, 3, none⟩ = some (.int .i64 mhi) ∧ w'.cell? ⟨w.heap.size, 4, none⟩ = some (.int .i64 llo) ∧ w'.cell? ⟨w.heap.size, 5, none⟩ = some (.int .i64 lhi)) (go_keep) (fail)
    all_goals
      go_wp2
      go_ret
      exact ⟨rfl, pd (pa (pa (pa pr)))⟩
  · have hno : (llo ≤ mlo ∧ ¬ mhi ≤ lhi ∧ lhi < mlo) ∨ (¬ llo ≤ mlo ∧ lhi < mlo) ∨ (¬ llo ≤ mlo ∧ ¬ lhi < mlo ∧ mhi < llo) := by omega
    clear h12 h34
    rcases hno with ⟨h1, h2, h3⟩ | ⟨h1, h3⟩ | ⟨h1, h3, h4⟩
    all_goals
      try have h1' : decide (llo ≤ mlo) = false := decide_eq_false h1
      try have h2' : decide (mhi ≤ lhi) = false := decide_eq_false h2
      try have h3' : decide (lhi < mlo) = false := decide_eq_false h3
      go_enter Tryz.func70, Tryz.ntmps70
      go_wp2
      go_region_held3 (fun w' => w'.cell? ⟨w.heap.size, 2, none⟩ = some (.int .i64 mlo) ∧ w'.cell? ⟨w.heap.size, 3, none⟩ = some (.int .i64 mhi) ∧ w'.cell? ⟨w.heap.size, 4, none⟩ = some (.int .i64 llo) ∧ w'.cell? ⟨w.heap.size, 5, none⟩ = some (.int .i64 lhi)) (go_keep) (fail)
      all_goals
        go_wp2
        go_ret
        exact ⟨rfl, pd (pa (pa (pa pr)))⟩
  · have h3' : decide (lhi < mlo) = false := decide_eq_false h3
    have h4' : decide (mhi < llo) = false := decide_eq_false h4
    rcases h12 with ⟨h1, h2⟩ | h1
    all_goals
      try have h1' : decide (llo ≤ mlo) = false := decide_eq_false h1
      try have h2' : decide (mhi ≤ lhi) = false := decide_eq_false h2
      go_enter Tryz.func70, Tryz.ntmps70
      go_wp2
      go_region_held3 (fun w' => w'.cell? ⟨w.heap.size, 2, none⟩ = some (.int .i64 mlo) ∧ w'.cell? ⟨w.heap.size, 3, none⟩ = some (.int .i64 mhi) ∧ w'.cell? ⟨w.heap.size, 4, none⟩ = some (.int .i64 llo) ∧ w'.cell? ⟨w.heap.size, 5, none⟩ = some (.int .i64 lhi)) (go_keep) (fail)
      all_goals
        go_wp2
        go_ret
        exact ⟨rfl, pd (pa (pa (pa pr)))⟩

end Go.Proofs.YtbojmcopagbheaaGreatDoor
