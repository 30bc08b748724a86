/- Contracts: the examples that the top laws of chapter 7 run first; the specification's LotsErr; Mod of an int by a length. -/
import Derived.Test.YtbojmcopagbheaaGreatDoorRJ
import Derived.Test.YtbojmcopagbheaaGreatDoorR6
namespace Go.Proofs.YtbojmcopagbheaaGreatDoor
open Go.RowKit

set_option maxHeartbeats 2000000 in
set_option maxRecDepth 100000 in
theorem shown_any (w : World) : Calls Tryz.prog 7 #[] w fun e w' => e = .returned (.bool true) ∧ Below w.heap.size w w' := by
  go_enter Tryz.func7, Tryz.ntmps7
  go_wp2_with (first
    | (go_at_call 43; refine (oven_any _).mono ?_; rintro e w1 ⟨rfl, hb1⟩)
    | (go_at_call 42; go_must (refine (dry_ex _).mono ?_); rintro e w2 ⟨rfl, hb2⟩; have HB2 := Lib.hid (pt hb1 hb2); clear hb1 hb2; have kD := Blk.new w2 29 #[.int .i64 658, .int .i64 860])
    | (go_at_call 44; go_must (refine (plan_any _).mono ?_); rintro e w3 ⟨A3, rfl, hT3, hb3⟩; have kD3 := Lib.hid (kD.past hb3); have HB3 := Lib.hid (pt (pa (o := .cells #[.int .i64 658, .int .i64 860] 29) HB2.out) hb3); have HT3 := Lib.hid hT3; clear kD hT3 hb3)
    | (go_at_call 15; go_must (refine (best_ex _ _ HT3.out).mono ?_); rintro e w4 ⟨bv, rfl, hb4⟩; have HB4 := Lib.hid (pt HB3.out hb4); have kD4 := kD3.out.past hb4; have d0 := kD4.cellAt 0 rfl; have d1 := kD4.cellAt 1 rfl; have dl := kD4.lt; clear hb4 kD4))
  go_ret
  exact ⟨rfl, HB4.out⟩

set_option maxHeartbeats 1000000 in
theorem refLotsErr_any (B : Nat) (xs : List Lot) (A : Option Addr) (c : Nat) (w : World) (hr : LotsIn B w A xs) (hB : B ≤ w.heap.size) (hs : SmallLots xs) (hcap : xs.length ≤ c) :
    Calls Tryz.prog 22 #[.slice A xs.length c] w fun e w' => e = .returned (.int .i64 (openLotsV xs).2) ∧ Below w.heap.size w w' := by
  have HC := Lib.hid (refCheckLots_any B xs A c w hr hB hs hcap)
  generalize (openLotsV xs).1 = I at *
  generalize (openLotsV xs).2 = E at *
  clear hr hs
  go_enter Tryz.func22, Tryz.ntmps22
  go_wp2_with (go_at_call 63; (with_reducible refine HC.out.mono ?_); rintro e w1 ⟨rfl, hb1⟩)
  go_ret
  exact ⟨rfl, hb1⟩

/-- What Mod makes of an int and a length. -/
def modV (a : Int) (n : Nat) : Nat := (a % (n : Int)).toNat
theorem mod_lt (a : Int) {n : Nat} (hn : 0 < n) : modV a n < n := by
  unfold modV
  have h1 := Int.emod_nonneg a (b := (n : Int)) (by omega)
  have h2 := Int.emod_lt_of_pos a (b := (n : Int)) (by omega)
  omega
set_option maxHeartbeats 1000000 in
theorem baseMod_any (a : Int) (n : Nat) (w : World) (hn : 0 < n) (hm : n ≤ 1000000000000) :
    Calls Tryz.prog 14 #[.int .i64 a, .int .i64 (n : Int)] w fun e w' => e = .returned (.int .i64 (modV a n : Int)) ∧ w = w' := by
  have h1 := Int.emod_nonneg a (b := (n : Int)) (by omega)
  have h2 := Int.emod_lt_of_pos a (b := (n : Int)) (by omega)
  have e : ((modV a n : Nat) : Int) = a % (n : Int) := Int.toNat_of_nonneg h1
  have hd : ((n : Int) == 0) = false := by simp; omega
  have hd2 : ¬ (n : Int) = 0 := by omega
  have hd3 : (n : Int) ≠ -1 := by omega
  have b1 : a.tmod (n : Int) < (n : Int) := Int.tmod_lt_of_pos a (by omega)
  have b2 : -(n : Int) < a.tmod (n : Int) := by
    have q := Int.tmod_lt_of_pos (-a) (b := (n : Int)) (by omega)
    rw [Int.neg_tmod] at q
    omega
  have e2 : a % (n : Int) = if a.tmod (n : Int) < 0 then a.tmod (n : Int) + (n : Int) else a.tmod (n : Int) := by
    have q := Int.emod_eq_tmod (a := a) (b := (n : Int))
    split at q
    · rw [if_neg (by omega)]; omega
    · rw [if_pos (by omega)]; omega
  rw [e, e2]
  have w1 : IntKind.i64.wrap (a.tmod (n : Int) + (n : Int)) = a.tmod (n : Int) + (n : Int) ∨ 0 ≤ a.tmod (n : Int) := by
    by_cases h : 0 ≤ a.tmod (n : Int)
    · exact .inr h
    · exact .inl (IntWalk.i64_in _ (by omega))
  have w2 : IntKind.i64.wrap (a.tmod (n : Int)) = a.tmod (n : Int) := IntWalk.i64_in _ (by omega)
  clear e e2 h1 h2
  by_cases hr : a.tmod (n : Int) < 0
  · rw [if_pos hr]
    have hr1 : decide (a.tmod (n : Int) < 0) = true := decide_eq_true hr
    have w1 : IntKind.i64.wrap (a.tmod (n : Int) + (n : Int)) = a.tmod (n : Int) + (n : Int) := w1.resolve_right (by omega)
    have w3 : wrap64 (a.tmod (n : Int) + (n : Int)) = a.tmod (n : Int) + (n : Int) := (IntWalk.i64_left _).symm.trans w1
    go_enter Tryz.func14, Tryz.ntmps14
    go_wp2
    go_ret
    exact ⟨by first | rfl | (simp only [w3]; rfl), rfl⟩
  · rw [if_neg hr]
    have hr1 : decide (a.tmod (n : Int) < 0) = false := decide_eq_false hr
    clear w1
    go_enter Tryz.func14, Tryz.ntmps14
    go_wp2
    go_ret
    exact ⟨rfl, rfl⟩

end Go.Proofs.YtbojmcopagbheaaGreatDoor
