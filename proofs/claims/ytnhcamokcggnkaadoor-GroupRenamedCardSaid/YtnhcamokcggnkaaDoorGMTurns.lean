/- Contracts of turns: the program's and the specification's. -/
import Derived.Test.YtnhcamokcggnkaaDoorG9Num
import Derived.Test.YtnhcamokcggnkaaDoorARegionA
namespace Go.Proofs.YtnhcamokcggnkaaDoor
open Go.RowKit
attribute [local go_sem ↓] Go.wp_at_zero Go.wp_at_succ

def tnB (h : Int) (m : Bool) (k : Int) (n : Bool) : Bool := h == k && m == n
theorem tnB_iff {h : Int} {m : Bool} {k : Int} {n : Bool} : tnB h m k n = true ↔ h = k ∧ m = n := by simp [tnB]
theorem tnB_refl (h : Int) (m : Bool) : tnB h m h m = true := by simp [tnB]
theorem tn_eql (h : Int) (m : Bool) (k : Int) (n : Bool) (W : World) : (binOp .eql 63 (.agg #[.int .i64 h, .bool m]) (.agg #[.int .i64 k, .bool n])).run Tryd.prog W = .ok (.bool (tnB h m k n)) W := by
  simp [go_sem, tnB]
  by_cases h1 : h = k <;> cases m <;> cases n <;> simp [h1]
theorem tn_neq (h : Int) (m : Bool) (k : Int) (n : Bool) (W : World) : (binOp .neq 63 (.agg #[.int .i64 h, .bool m]) (.agg #[.int .i64 k, .bool n])).run Tryd.prog W = .ok (.bool (!tnB h m k n)) W := by
  simp [go_sem, tnB]
  by_cases h1 : h = k <;> cases m <;> cases n <;> simp [h1]
attribute [local go_sem ↓ high] tn_eql tn_neq
theorem turn_size : (Tryd.prog.info? 63).map (·.size) = some 2 := by kernel_rfl

def turnE (h : Int) : Int := unlessV (withinB h 0 11) 2
theorem turnE_ok {h : Int} (e : turnE h = 0) : 0 ≤ h ∧ h ≤ 11 := by
  have h1 := (unless_ne (by decide)).1 e
  simpa [withinB] using h1
theorem turnErr_any (h : Int) (m : Bool) (w : World) :
    Calls Tryd.prog 72 #[.agg #[.int .i64 h, .bool m]] w fun e w' => e = .returned (.int .i64 (turnE h)) ∧ Below w.heap.size w w' := by
  go_enter Tryd.func72, Tryd.ntmps72
  go_wp2_with (first
    | (go_at_call 59; refine (within_any _ _ _ _).mono ?_; rintro e w' ⟨rfl, rfl⟩)
    | (go_at_call 57; refine (unless_any _ _ _).mono ?_; rintro e w' ⟨rfl, rfl⟩))
  go_ret
  exact ⟨rfl, pa pr⟩
theorem refTurnErr_any (h : Int) (m : Bool) (w : World) :
    Calls Tryd.prog 36 #[.agg #[.int .i64 h, .bool m]] w fun e w' => e = .returned (.int .i64 (turnE h)) ∧ Below w.heap.size w w' := by
  have c := fun w => refWithin_any h 0 11 w
  have hv : turnE h = unlessV (withinB h 0 11) 2 := rfl
  generalize turnE h = E at *
  generalize withinB h 0 11 = b at *
  cases b
  all_goals
    subst hv
    go_enter Tryd.func36, Tryd.ntmps36
    go_wp2_with (go_at_call 32; refine (c _).mono ?_; rintro e w' ⟨rfl, rfl⟩)
    go_ret
    exact ⟨rfl, pa pr⟩

theorem refMod12_any (n : Int) (hn : Sm 1000 n) (w : World) :
    Calls Tryd.prog 29 #[.int .i64 n, .int .i64 12] w fun e w' => e = .returned (.int .i64 (n % 12)) ∧ w = w' := by
  unfold Sm at hn
  have h1 := Int.tmod_lt_of_pos n (show (0 : Int) < 12 by decide)
  have h2 := Int.lt_tmod_of_pos n (show (0 : Int) < 12 by decide)
  have h3 : n % 12 = if n.tmod 12 < 0 then n.tmod 12 + 12 else n.tmod 12 := by
    have := Int.tmod_eq_emod (a := n) (b := 12)
    split <;> split at this <;> omega
  have hw : IntKind.i64.wrap (n.tmod 12) = n.tmod 12 := IntWalk.i64_in _ (by omega)
  have H3 := Lib.hid h3
  clear h3
  by_cases h : n.tmod 12 < 0
  all_goals
    go_enter Tryd.func29, Tryd.ntmps29
    go_wp2
    all_goals
      go_ret
      refine ⟨ret_int ?_, rfl⟩
      rw [H3.out]
      first | (rw [if_pos h]; done) | (rw [if_neg h]; done) | (rw [if_pos h]; omega) | (rw [if_neg h]; omega) | (split <;> omega)

theorem appV_range (a : Turn) (h : Int) : 0 ≤ appV a h ∧ appV a h ≤ 11 := by unfold appV; split <;> omega
theorem applied_any (h : Int) (m : Bool) (n : Int) (hh : 0 ≤ h ∧ h ≤ 11) (hn : 0 ≤ n ∧ n ≤ 11) (w : World) :
    Calls Tryd.prog 97 #[.agg #[.int .i64 h, .bool m], .int .i64 n] w fun e w' => e = .returned (.int .i64 (appV ⟨h, m⟩ n)) ∧ Below w.heap.size w w' := by
  cases m
  all_goals
    go_enter Tryd.func97, Tryd.ntmps97
    go_wp2_with (go_at_call 74; refine (mod_any _ _).mono ?_; rintro e w' ⟨rfl, rfl⟩)
    go_ret
    exact ⟨rfl, pa pr⟩
theorem made_any (h : Int) (m : Bool) (n : Int) (hh : 0 ≤ h ∧ h ≤ 11) (hn : 0 ≤ n ∧ n ≤ 11) (w : World) :
    Calls Tryd.prog 75 #[.agg #[.int .i64 h, .bool m], .int .i64 n] w fun e w' => e = .returned (.int .i64 (appV ⟨h, m⟩ n)) ∧ Below w.heap.size w w' := by
  have s1 : Sm 1000 (h - n) := by unfold Sm; omega
  have s2 : Sm 1000 (h + n) := by unfold Sm; omega
  have S1 := Lib.hid s1
  have S2 := Lib.hid s2
  clear s1 s2
  cases m
  all_goals
    go_enter Tryd.func75, Tryd.ntmps75
    go_wp2_with (go_at_call 29; (first | (with_reducible refine (refMod12_any _ S1.out _).mono ?_) | (with_reducible refine (refMod12_any _ S2.out _).mono ?_)); rintro e w' ⟨rfl, rfl⟩)
    go_ret
    exact ⟨rfl, pa pr⟩

set_option maxHeartbeats 2000000 in
set_option maxRecDepth 100000 in
theorem composed_any (h : Int) (m : Bool) (k : Int) (n : Bool) (hh : 0 ≤ h ∧ h ≤ 11) (hk : 0 ≤ k ∧ k ≤ 11) (w : World) :
    Calls Tryd.prog 73 #[.agg #[.int .i64 h, .bool m], .agg #[.int .i64 k, .bool n]] w fun e w' => e = .returned (.agg #[.int .i64 (compV ⟨h, m⟩ ⟨k, n⟩).hours, .bool (compV ⟨h, m⟩ ⟨k, n⟩).mir]) ∧ Below w.heap.size w w' := by
  have HC := Lib.hid (applied_any k n h hk hh)
  have e1 : (compV ⟨h, m⟩ ⟨k, n⟩).hours = appV ⟨k, n⟩ h := rfl
  have e2 : (compV ⟨h, m⟩ ⟨k, n⟩).mir = (m != n) := rfl
  rw [e1, e2]
  generalize appV ⟨k, n⟩ h = x at *
  clear e1 e2 hh hk
  cases m <;> cases n
  all_goals
    go_enter Tryd.func73, Tryd.ntmps73
    go_wp2
    refine region_below 10 follows_mixed (by kernel_rfl) ?_
    intro C hC
    simp only [List.take_succ_cons, List.take_zero, List.drop_succ_cons, List.drop_zero]
    repeat (first
      | ((with_reducible refine quiet_plain rfl (fun K hK => ?_)); (focus (apply quiet_val; (focus (intro w' hw; obtain ⟨hcq, hfq⟩ := bcell ((hC.out _).1 hw); go_simp; (first | done | rfl | (with_reducible exact call_below hC hw (HC.out _))))); (simp only [Act.put, List.setIfInBounds_toArray, List.set_cons_succ, List.set_cons_zero]); (with_reducible refine hK _ ?_); clear hK K)))
      | ((with_reducible refine quiet_skip ?_ ?_); (focus (first | (simp [Region.wanted, yielded]; done) | (simp [Region.wanted, yielded, undef]; done))); simp only [Act.put, List.setIfInBounds_toArray, List.set_cons_succ, List.set_cons_zero])
      | ((with_reducible refine quiet_go ?_ (fun K hK => ?_)); (focus (first | (simp [Region.wanted, yielded]; done) | (simp [Region.wanted, yielded, undef]; done))); (focus (apply quiet_val; (focus (intro w' hw; obtain ⟨hcq, hfq⟩ := bcell ((hC.out _).1 hw); go_simp; (first | done | rfl | (with_reducible exact call_below hC hw (HC.out _))))); (simp only [Act.put, List.setIfInBounds_toArray, List.set_cons_succ, List.set_cons_zero]); (with_reducible refine hK _ ?_); clear hK K))))
    refine wpQuiet_nil ?_
    intro w1 hb1
    replace hb1 := (hC.out _).1 hb1
    clear hC C
    obtain ⟨hc1, hf1⟩ := bcell hb1
    have R1 : Blk w1 (w.heap.size + 1 + 1) 63 #[.int .i64 0, .bool false] := (Blk.newAt (by simp)).past hb1
    have S1 := pt (pa (pa (pa pr))) hb1
    clear hb1 hc1 hf1
    have r0 := R1.cellAt 0 rfl
    have r1 := R1.cellAt 1 rfl
    have s0 := R1.frozen 0
    have s1 := R1.frozen 1
    have rl := R1.lt
    go_wp2
    exact bodyPost_ret (v := .agg #[.int .i64 x, .bool _]) (by simp [results, Tryd.results73, go_sem, r0, r1]; try rfl) rfl ⟨rfl, by repeat (first | exact S1 | refine ps ?_ (by first | (simp; done) | (simp; omega)))⟩

theorem zero12 : tnB 0 false 0 false = true := rfl

end Go.Proofs.YtnhcamokcggnkaaDoor
