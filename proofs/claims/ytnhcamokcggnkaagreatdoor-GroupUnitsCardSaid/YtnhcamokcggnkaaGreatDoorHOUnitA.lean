/- The law on units, whole: it returns true. -/
import Derived.Test.YtnhcamokcggnkaaGreatDoorHNUnits
namespace Go.Proofs.YtnhcamokcggnkaaGreatDoor
open Go.RowKit

theorem names_any (k t s : Int) (r : Bool) (k2 t2 s2 : Int) (r2 : Bool) (n : Int) (he : unitE k t s k2 t2 s2 n = 0) : ∃ nm : ByteArray,
    (∀ w, TwIn w → PatIn w → Calls Tryz.prog 9 #[.agg #[.int .i64 k, .int .i64 t, .int .i64 s, .bool r, .int .i64 k2, .int .i64 t2, .int .i64 s2, .bool r2, .int .i64 n]] w fun z w' => z = .returned (.tuple #[.string nm, .int .i64 0]) ∧ Below w.heap.size w w') ∧
    (∀ w, Calls Tryz.prog 16 #[.agg #[.int .i64 k, .int .i64 t, .int .i64 s, .bool r, .int .i64 k2, .int .i64 t2, .int .i64 s2, .bool r2, .int .i64 n]] w fun z w' => z = .returned (.string nm) ∧ Below w.heap.size w w') := by
  obtain ⟨u1, u2, _, _⟩ := unitE_ok r r2 he
  obtain ⟨c, hc, hcl⟩ : ∃ c : Nat, c < 12 ∧ (whV k s r - whV k2 s2 r2) % 12 = (c : Int) := ⟨((whV k s r - whV k2 s2 r2) % 12).toNat, by omega, by omega⟩
  have q1 : k = 0 ∨ k = 1 ∨ k = 2 := by have := u1.1; have := u1.2.1; dsimp only at *; omega
  have q2 : k2 = 0 ∨ k2 = 1 ∨ k2 = 2 := by have := u2.1; have := u2.2.1; dsimp only at *; omega
  clear u1 u2
  rcases q1 with rfl | rfl | rfl
  · rcases q2 with rfl | rfl | rfl
    · exact ⟨_, fun w a b => NameOf_00 t s r t2 s2 r2 n he c hc hcl w a b, fun w => refName_00 t s r t2 s2 r2 n he c hc hcl w⟩
    · exact ⟨_, fun w a b => NameOf_01 t s r t2 s2 r2 n he c hc hcl w a b, fun w => refName_01 t s r t2 s2 r2 n he c hc hcl w⟩
    · exact ⟨_, fun w a b => NameOf_02 t s r t2 s2 r2 n he c hc hcl w a b, fun w => refName_02 t s r t2 s2 r2 n he c hc hcl w⟩
  · rcases q2 with rfl | rfl | rfl
    · exact ⟨_, fun w a b => NameOf_10 t s r t2 s2 r2 n he c hc hcl w a b, fun w => refName_10 t s r t2 s2 r2 n he c hc hcl w⟩
    · exact ⟨_, fun w a b => NameOf_11 t s r t2 s2 r2 n he c hc hcl w a b, fun w => refName_11 t s r t2 s2 r2 n he c hc hcl w⟩
    · exact ⟨_, fun w a b => NameOf_12 t s r t2 s2 r2 n he c hc hcl w a b, fun w => refName_12 t s r t2 s2 r2 n he c hc hcl w⟩
  · rcases q2 with rfl | rfl | rfl
    · exact ⟨_, fun w a b => NameOf_20 t s r t2 s2 r2 n he c hc hcl w a b, fun w => refName_20 t s r t2 s2 r2 n he c hc hcl w⟩
    · exact ⟨_, fun w a b => NameOf_21 t s r t2 s2 r2 n he c hc hcl w a b, fun w => refName_21 t s r t2 s2 r2 n he c hc hcl w⟩
    · exact ⟨_, fun w a b => NameOf_22 t s r t2 s2 r2 n he c hc hcl w a b, fun w => refName_22 t s r t2 s2 r2 n he c hc hcl w⟩

theorem units_walk (k t s : Int) (r : Bool) (k2 t2 s2 : Int) (r2 : Bool) (n tap : Int) (w : World) (hT : TwIn w) (hP : PatIn w) :
    Calls Tryz.prog 3 #[.agg #[.int .i64 k, .int .i64 t, .int .i64 s, .bool r, .int .i64 k2, .int .i64 t2, .int .i64 s2, .bool r2, .int .i64 n], .int .i64 tap] w fun e w' => e = .returned (.bool true) ∧ Below w.heap.size w w' := by
  by_cases he : unitE k t s k2 t2 s2 n = 0
  · obtain ⟨nm, hn, hrn⟩ := names_any k t s r k2 t2 s2 r2 n he
    obtain ⟨u1, u2, n1, n2⟩ := unitE_ok r r2 he
    have t1 := u1.2.2.1
    have t3 := u1.2.2.2.1
    dsimp only at t1 t3
    cases hb : withinB tap (-40) 40
    · have ht : tapE k t s k2 t2 s2 n tap = 2 := by unfold tapE; rw [he, hb]; rfl
      refine units_ok k t s r k2 t2 s2 r2 n tap he _ nm 0 0 0 false 0 0 0 false 0 2 rfl hn hrn (fun w => ?_) (fun w => refTapped_bad k t s r k2 t2 s2 r2 n tap hb w) w hT hP
      have h := Tapped_bad k t s r k2 t2 s2 r2 n tap (by rw [ht]; decide) w
      rw [ht] at h
      exact h
    · have ht : tapE k t s k2 t2 s2 n tap = 0 := by unfold tapE; rw [he, hb]; rfl
      have hb2 := hb
      simp only [withinB, Bool.and_eq_true, decide_eq_true_eq] at hb2
      have b1 : tap * n ≤ 40 * 100 := by
        rcases Int.le_total 0 tap with h | h
        · exact Int.mul_le_mul hb2.2 n2 n1 (by decide)
        · have := Int.mul_nonpos_of_nonpos_of_nonneg h n1
          omega
      have b2 : -(40 * 100) ≤ tap * n := by
        rcases Int.le_total 0 tap with h | h
        · have := Int.mul_nonneg h n1
          omega
        · have := Int.mul_le_mul (show -tap ≤ 40 by omega) n2 n1 (by decide)
          rw [Int.neg_mul] at this
          omega
      have hm : IntKind.i64.wrap (tap * n) = tap * n := IntWalk.i64_in _ (by omega)
      have hT' : IntKind.i64.wrap (t + tap * n) = t + tap * n := IntWalk.i64_in _ (by omega)
      by_cases hz : unitE k (t + tap * n) s k2 t2 s2 n = 0
      · exact units_ok k t s r k2 t2 s2 r2 n tap he _ nm k (t + tap * n) s r k2 t2 s2 r2 n 0 rfl hn hrn (fun w => Tapped_ok k t s r k2 t2 s2 r2 n tap (tap * n) (t + tap * n) ht hm hT' hz w)
          (fun w => refTapped_ok k t s r k2 t2 s2 r2 n tap (tap * n) (t + tap * n) hb hm hT' hz w) w hT hP
      · exact units_ok k t s r k2 t2 s2 r2 n tap he _ nm 0 0 0 false 0 0 0 false 0 _ rfl hn hrn (fun w => Tapped_err k t s r k2 t2 s2 r2 n tap (tap * n) (t + tap * n) ht hm hT' hz w)
          (fun w => refTapped_err k t s r k2 t2 s2 r2 n tap (tap * n) (t + tap * n) hb hm hT' hz w) w hT hP
  · exact units_bad k t s r k2 t2 s2 r2 n tap _ rfl (by simpa using he) w hT hP

end Go.Proofs.YtnhcamokcggnkaaGreatDoor
