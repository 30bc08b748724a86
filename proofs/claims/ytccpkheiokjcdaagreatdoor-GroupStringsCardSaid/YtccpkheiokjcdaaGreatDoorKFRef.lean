/- Contracts: the specification's Number of any string; the numbers of units. -/
import Derived.Test.YtccpkheiokjcdaaGreatDoorK2Numb
import Derived.Test.YtccpkheiokjcdaaGreatDoorO1
namespace Go.Proofs.YtccpkheiokjcdaaGreatDoor
open Go.RowKit
attribute [local go_sem ↓] Go.wp_at_zero Go.wp_at_succ

theorem refNumber_nil (D : Nat) (w : World) :
    Calls Tryz.prog 56 #[.string ⟨(([] : List UInt8)).toArray⟩, .int .i64 (D : Int)] w fun e w' => e = .returned (numRes (numberV [] D)) ∧ w = w' := by
  have hbs := bsize []
  go_enter Tryz.func56, Tryz.ntmps56
  go_wp2
  go_ret2
  exact ⟨by unfold numberV; rw [if_pos (.inl rfl)]; rfl, rfl⟩
theorem refNumber_any (l : List UInt8) (hl : l.length ≤ 1000) (D : Nat) (hD : D ≤ 7) (w : World) :
    Calls Tryz.prog 56 #[.string ⟨l.toArray⟩, .int .i64 (D : Int)] w fun e w' => e = .returned (numRes (numberV l D)) ∧ w = w' := by
  rcases l with _ | ⟨b, r⟩
  · exact refNumber_nil D w
  · have hq : byteL (b :: r) 0 = 45 ↔ (b :: r).head? = some 45 := (drop_head (l := b :: r) (k := 0) (by simp) (c := 45) (by decide)).symm
    by_cases h : byteL (b :: r) 0 = 45
    · have hh := hq.1 h
      exact refNumber_1 (b :: r) hl (by simp) (by simpa using h) (by unfold restV; rw [if_pos hh]; rfl) (by simpa using hh) D hD w
    · have hh := fun e => h (hq.2 e)
      exact refNumber_0 (b :: r) hl (by simp) (by simpa using h) (by unfold restV; rw [if_neg hh]; rfl) (by simpa using hh) D hD w

def pairR (o : Option Int) (x : Int) : Prop := ∀ k, o = some k → x = k
set_option maxHeartbeats 1000000 in
theorem parsedNumber_any (l : List UInt8) (hl : l.length ≤ 1000) (w : World) :
    Calls Tryz.prog 25 #[.string ⟨l.toArray⟩] w fun e w' => (∃ x : Int, e = .returned (.tuple #[.int .i64 x, .bool (numP l).isSome]) ∧ ∀ k, numP l = some k → x = k) ∧ w = w' := by
  have HN := Lib.hid (fun w => refNumber_any l hl 4 (by decide) w)
  unfold numP numQ
  generalize numberV l 4 = V at *
  rcases V with _ | k
  · have HN2 := Lib.hid (show ∀ w, Calls Tryz.prog 56 #[.string ⟨l.toArray⟩, .int .i64 4] w fun e w' => e = .returned (.tuple #[.int .i64 0, .bool false]) ∧ w = w' from HN.out)
    clear HN
    go_enter Tryz.func25, Tryz.ntmps25
    go_wp2_with (go_at_call 56; (with_reducible refine (HN2.out _).mono ?_); rintro e w1 ⟨rfl, rfl⟩)
    go_ret2
    exact ⟨⟨0, rfl, fun k hk => by cases hk⟩, rfl⟩
  · have HN2 := Lib.hid (show ∀ w, Calls Tryz.prog 56 #[.string ⟨l.toArray⟩, .int .i64 4] w fun e w' => e = .returned (.tuple #[.int .i64 k, .bool true]) ∧ w = w' from HN.out)
    clear HN
    by_cases h0 : 0 ≤ k
    · go_enter Tryz.func25, Tryz.ntmps25
      go_wp2_with (go_at_call 56; (with_reducible refine (HN2.out _).mono ?_); rintro e w1 ⟨rfl, rfl⟩)
      go_ret2
      exact ⟨⟨k, by simp [h0], fun j hj => by
        have hj : (if 0 ≤ k then some k else none) = some j := hj
        rw [if_pos h0] at hj
        exact Option.some.inj hj⟩, rfl⟩
    · have h0' : (decide (0 ≤ k)) = false := by simpa using h0
      go_enter Tryz.func25, Tryz.ntmps25
      go_wp2_with (go_at_call 56; (with_reducible refine (HN2.out _).mono ?_); rintro e w1 ⟨rfl, rfl⟩)
      go_ret2
      exact ⟨⟨k, by simp [h0], fun j hj => by
        have hj : (if 0 ≤ k then some k else none) = some j := hj
        rw [if_neg (by omega)] at hj
        cases hj⟩, rfl⟩

end Go.Proofs.YtccpkheiokjcdaaGreatDoor
