/- Contracts of the specification: which three numbers are a permutation; renamed lines. Printed by a program (gen_isperm.py). -/
import Derived.Test.YtnhcamokcggnkaaDoorHTRefs
import Derived.Test.YtnhcamokcggnkaaDoorHEReN
namespace Go.Proofs.YtnhcamokcggnkaaDoor
open Go.RowKit
attribute [local go_sem ↓] Go.wp_at_zero Go.wp_at_succ

set_option maxHeartbeats 4000000 in
set_option maxRecDepth 100000 in
theorem refIsPerm_0 (a b c : Int) (h0 : a < 0) (w : World) :
    Calls Tryd.prog 45 #[.agg #[.int .i64 a, .int .i64 b, .int .i64 c]] w fun e w' => e = .returned (.bool false) ∧ Below w.heap.size w w' := by
  have z1 : IntKind.i64.wrap 1 = 1 := by decide
  have z2 : IntKind.i64.wrap 2 = 2 := by decide
  have z3 : IntKind.i64.wrap 3 = 3 := by decide
  have g0 : decide (a < 0) = true := by simpa using h0
  have f0 : (a < 0) = True := by simpa using h0
  go_enter Tryd.func45, Tryd.ntmps45
  go_wp2
  have P0 : Blk (w.alloc (.cells #[.int .i64 a, .int .i64 b, .int .i64 c] 36)) w.heap.size 36 #[.int .i64 a, .int .i64 b, .int .i64 c] := Blk.newAt rfl
  have S0 : Below w.heap.size w (w.alloc (.cells #[.int .i64 a, .int .i64 b, .int .i64 c] 36)) := pa pr
  generalize w.alloc (.cells #[.int .i64 a, .int .i64 b, .int .i64 c] 36) = v0 at *
  have p0 := P0.cellAt 0 rfl; have p1 := P0.cellAt 1 rfl; have p2 := P0.cellAt 2 rfl; have pl := P0.lt
  refine wp_loop_rounds 4 ?_
  rw [rounds_succ]
  go_wp2
  refine region_below 20 follows_mixed (by kernel_rfl) ?_
  intro C hC
  simp only [List.take_succ_cons, List.take_zero, List.drop_succ_cons, List.drop_zero]
  repeat (first
    | ((with_reducible refine quiet_plain rfl (fun K hK => ?_)); (focus (apply quiet_val; (focus (intro w' hw; obtain ⟨hcq, hfq⟩ := bcell ((hC.out _).1 hw); go_simp; (first | done | rfl))); (simp only [Act.put, List.setIfInBounds_toArray, List.set_cons_succ, List.set_cons_zero]); (with_reducible refine hK _ ?_); clear hK K)))
    | ((with_reducible refine quiet_skip ?_ ?_); (focus (first | (simp [Region.wanted, yielded]; done) | (simp [Region.wanted, yielded, undef]; done))); simp only [Act.put, List.setIfInBounds_toArray, List.set_cons_succ, List.set_cons_zero])
    | ((with_reducible refine quiet_go ?_ (fun K hK => ?_)); (focus (first | (simp [Region.wanted, yielded]; done) | (simp [Region.wanted, yielded, undef]; done))); (focus (apply quiet_val; (focus (intro w' hw; obtain ⟨hcq, hfq⟩ := bcell ((hC.out _).1 hw); go_simp; (first | done | rfl))); (simp only [Act.put, List.setIfInBounds_toArray, List.set_cons_succ, List.set_cons_zero]); (with_reducible refine hK _ ?_); clear hK K))))
  refine wpQuiet_nil ?_
  intro w1 hb1
  replace hb1 := (hC.out _).1 hb1
  clear hC C
  obtain ⟨hc1, hf1⟩ := bcell hb1
  have P1 := P0.past hb1; have S1 := pt S0 hb1
  clear hb1 hc1 hf1 P0 S0 p0 p1 p2 pl
  obtain ⟨v1, rfl⟩ : ∃ v, v = w1 := ⟨_, rfl⟩
  have p0 := P1.cellAt 0 rfl; have p1 := P1.cellAt 1 rfl; have p2 := P1.cellAt 2 rfl; have pl := P1.lt
  go_wp2
  go_ret
  exact ⟨rfl, S1⟩

set_option maxHeartbeats 4000000 in
set_option maxRecDepth 100000 in
theorem refIsPerm_1 (a b c : Int) (h0 : ¬ a < 0) (h1 : 2 < a) (w : World) :
    Calls Tryd.prog 45 #[.agg #[.int .i64 a, .int .i64 b, .int .i64 c]] w fun e w' => e = .returned (.bool false) ∧ Below w.heap.size w w' := by
  have z1 : IntKind.i64.wrap 1 = 1 := by decide
  have z2 : IntKind.i64.wrap 2 = 2 := by decide
  have z3 : IntKind.i64.wrap 3 = 3 := by decide
  have g0 : decide (a < 0) = false := by simpa using h0
  have f0 : (a < 0) = False := by simpa using h0
  have g1 : decide (2 < a) = true := by simpa using h1
  have f1 : (2 < a) = True := by simpa using h1
  go_enter Tryd.func45, Tryd.ntmps45
  go_wp2
  have P0 : Blk (w.alloc (.cells #[.int .i64 a, .int .i64 b, .int .i64 c] 36)) w.heap.size 36 #[.int .i64 a, .int .i64 b, .int .i64 c] := Blk.newAt rfl
  have S0 : Below w.heap.size w (w.alloc (.cells #[.int .i64 a, .int .i64 b, .int .i64 c] 36)) := pa pr
  generalize w.alloc (.cells #[.int .i64 a, .int .i64 b, .int .i64 c] 36) = v0 at *
  have p0 := P0.cellAt 0 rfl; have p1 := P0.cellAt 1 rfl; have p2 := P0.cellAt 2 rfl; have pl := P0.lt
  refine wp_loop_rounds 4 ?_
  rw [rounds_succ]
  go_wp2
  refine region_below 20 follows_mixed (by kernel_rfl) ?_
  intro C hC
  simp only [List.take_succ_cons, List.take_zero, List.drop_succ_cons, List.drop_zero]
  repeat (first
    | ((with_reducible refine quiet_plain rfl (fun K hK => ?_)); (focus (apply quiet_val; (focus (intro w' hw; obtain ⟨hcq, hfq⟩ := bcell ((hC.out _).1 hw); go_simp; (first | done | rfl))); (simp only [Act.put, List.setIfInBounds_toArray, List.set_cons_succ, List.set_cons_zero]); (with_reducible refine hK _ ?_); clear hK K)))
    | ((with_reducible refine quiet_skip ?_ ?_); (focus (first | (simp [Region.wanted, yielded]; done) | (simp [Region.wanted, yielded, undef]; done))); simp only [Act.put, List.setIfInBounds_toArray, List.set_cons_succ, List.set_cons_zero])
    | ((with_reducible refine quiet_go ?_ (fun K hK => ?_)); (focus (first | (simp [Region.wanted, yielded]; done) | (simp [Region.wanted, yielded, undef]; done))); (focus (apply quiet_val; (focus (intro w' hw; obtain ⟨hcq, hfq⟩ := bcell ((hC.out _).1 hw); go_simp; (first | done | rfl))); (simp only [Act.put, List.setIfInBounds_toArray, List.set_cons_succ, List.set_cons_zero]); (with_reducible refine hK _ ?_); clear hK K))))
  refine wpQuiet_nil ?_
  intro w1 hb1
  replace hb1 := (hC.out _).1 hb1
  clear hC C
  obtain ⟨hc1, hf1⟩ := bcell hb1
  have P1 := P0.past hb1; have S1 := pt S0 hb1
  clear hb1 hc1 hf1 P0 S0 p0 p1 p2 pl
  obtain ⟨v1, rfl⟩ : ∃ v, v = w1 := ⟨_, rfl⟩
  have p0 := P1.cellAt 0 rfl; have p1 := P1.cellAt 1 rfl; have p2 := P1.cellAt 2 rfl; have pl := P1.lt
  go_wp2
  go_ret
  exact ⟨rfl, S1⟩

set_option maxHeartbeats 4000000 in
set_option maxRecDepth 100000 in
theorem refIsPerm_2 (a b c : Int) (h0 : ¬ a < 0) (h1 : ¬ 2 < a) (h2 : a = b) (w : World) :
    Calls Tryd.prog 45 #[.agg #[.int .i64 a, .int .i64 b, .int .i64 c]] w fun e w' => e = .returned (.bool false) ∧ Below w.heap.size w w' := by
  have z1 : IntKind.i64.wrap 1 = 1 := by decide
  have z2 : IntKind.i64.wrap 2 = 2 := by decide
  have z3 : IntKind.i64.wrap 3 = 3 := by decide
  subst h2
  have g0 : decide (a < 0) = false := by simpa using h0
  have f0 : (a < 0) = False := by simpa using h0
  have g1 : decide (2 < a) = false := by simpa using h1
  have f1 : (2 < a) = False := by simpa using h1
  go_enter Tryd.func45, Tryd.ntmps45
  go_wp2
  have P0 : Blk (w.alloc (.cells #[.int .i64 a, .int .i64 a, .int .i64 c] 36)) w.heap.size 36 #[.int .i64 a, .int .i64 a, .int .i64 c] := Blk.newAt rfl
  have S0 : Below w.heap.size w (w.alloc (.cells #[.int .i64 a, .int .i64 a, .int .i64 c] 36)) := pa pr
  generalize w.alloc (.cells #[.int .i64 a, .int .i64 a, .int .i64 c] 36) = v0 at *
  have p0 := P0.cellAt 0 rfl; have p1 := P0.cellAt 1 rfl; have p2 := P0.cellAt 2 rfl; have pl := P0.lt
  refine wp_loop_rounds 4 ?_
  rw [rounds_succ]
  go_wp2
  refine region_below 20 follows_mixed (by kernel_rfl) ?_
  intro C hC
  simp only [List.take_succ_cons, List.take_zero, List.drop_succ_cons, List.drop_zero]
  repeat (first
    | ((with_reducible refine quiet_plain rfl (fun K hK => ?_)); (focus (apply quiet_val; (focus (intro w' hw; obtain ⟨hcq, hfq⟩ := bcell ((hC.out _).1 hw); go_simp; (first | done | rfl))); (simp only [Act.put, List.setIfInBounds_toArray, List.set_cons_succ, List.set_cons_zero]); (with_reducible refine hK _ ?_); clear hK K)))
    | ((with_reducible refine quiet_skip ?_ ?_); (focus (first | (simp [Region.wanted, yielded]; done) | (simp [Region.wanted, yielded, undef]; done))); simp only [Act.put, List.setIfInBounds_toArray, List.set_cons_succ, List.set_cons_zero])
    | ((with_reducible refine quiet_go ?_ (fun K hK => ?_)); (focus (first | (simp [Region.wanted, yielded]; done) | (simp [Region.wanted, yielded, undef]; done))); (focus (apply quiet_val; (focus (intro w' hw; obtain ⟨hcq, hfq⟩ := bcell ((hC.out _).1 hw); go_simp; (first | done | rfl))); (simp only [Act.put, List.setIfInBounds_toArray, List.set_cons_succ, List.set_cons_zero]); (with_reducible refine hK _ ?_); clear hK K))))
  refine wpQuiet_nil ?_
  intro w1 hb1
  replace hb1 := (hC.out _).1 hb1
  clear hC C
  obtain ⟨hc1, hf1⟩ := bcell hb1
  have P1 := P0.past hb1; have S1 := pt S0 hb1
  clear hb1 hc1 hf1 P0 S0 p0 p1 p2 pl
  obtain ⟨v1, rfl⟩ : ∃ v, v = w1 := ⟨_, rfl⟩
  have p0 := P1.cellAt 0 rfl; have p1 := P1.cellAt 1 rfl; have p2 := P1.cellAt 2 rfl; have pl := P1.lt
  go_wp2
  go_ret
  exact ⟨rfl, S1⟩

set_option maxHeartbeats 4000000 in
set_option maxRecDepth 100000 in
theorem refIsPerm_3 (a b c : Int) (h0 : ¬ a < 0) (h1 : ¬ 2 < a) (h2 : ¬ a = b) (h3 : b < 0) (w : World) :
    Calls Tryd.prog 45 #[.agg #[.int .i64 a, .int .i64 b, .int .i64 c]] w fun e w' => e = .returned (.bool false) ∧ Below w.heap.size w w' := by
  have z1 : IntKind.i64.wrap 1 = 1 := by decide
  have z2 : IntKind.i64.wrap 2 = 2 := by decide
  have z3 : IntKind.i64.wrap 3 = 3 := by decide
  have g0 : decide (a < 0) = false := by simpa using h0
  have f0 : (a < 0) = False := by simpa using h0
  have g1 : decide (2 < a) = false := by simpa using h1
  have f1 : (2 < a) = False := by simpa using h1
  have g2 : (a == b) = false := by simpa using h2
  have g3 : decide (b < 0) = true := by simpa using h3
  have f3 : (b < 0) = True := by simpa using h3
  go_enter Tryd.func45, Tryd.ntmps45
  go_wp2
  have P0 : Blk (w.alloc (.cells #[.int .i64 a, .int .i64 b, .int .i64 c] 36)) w.heap.size 36 #[.int .i64 a, .int .i64 b, .int .i64 c] := Blk.newAt rfl
  have S0 : Below w.heap.size w (w.alloc (.cells #[.int .i64 a, .int .i64 b, .int .i64 c] 36)) := pa pr
  generalize w.alloc (.cells #[.int .i64 a, .int .i64 b, .int .i64 c] 36) = v0 at *
  have p0 := P0.cellAt 0 rfl; have p1 := P0.cellAt 1 rfl; have p2 := P0.cellAt 2 rfl; have pl := P0.lt
  refine wp_loop_rounds 4 ?_
  rw [rounds_succ]
  go_wp2
  refine region_below 20 follows_mixed (by kernel_rfl) ?_
  intro C hC
  simp only [List.take_succ_cons, List.take_zero, List.drop_succ_cons, List.drop_zero]
  repeat (first
    | ((with_reducible refine quiet_plain rfl (fun K hK => ?_)); (focus (apply quiet_val; (focus (intro w' hw; obtain ⟨hcq, hfq⟩ := bcell ((hC.out _).1 hw); go_simp; (first | done | rfl))); (simp only [Act.put, List.setIfInBounds_toArray, List.set_cons_succ, List.set_cons_zero]); (with_reducible refine hK _ ?_); clear hK K)))
    | ((with_reducible refine quiet_skip ?_ ?_); (focus (first | (simp [Region.wanted, yielded]; done) | (simp [Region.wanted, yielded, undef]; done))); simp only [Act.put, List.setIfInBounds_toArray, List.set_cons_succ, List.set_cons_zero])
    | ((with_reducible refine quiet_go ?_ (fun K hK => ?_)); (focus (first | (simp [Region.wanted, yielded]; done) | (simp [Region.wanted, yielded, undef]; done))); (focus (apply quiet_val; (focus (intro w' hw; obtain ⟨hcq, hfq⟩ := bcell ((hC.out _).1 hw); go_simp; (first | done | rfl))); (simp only [Act.put, List.setIfInBounds_toArray, List.set_cons_succ, List.set_cons_zero]); (with_reducible refine hK _ ?_); clear hK K))))
  refine wpQuiet_nil ?_
  intro w1 hb1
  replace hb1 := (hC.out _).1 hb1
  clear hC C
  obtain ⟨hc1, hf1⟩ := bcell hb1
  have P1 := P0.past hb1; have S1 := pt S0 hb1
  clear hb1 hc1 hf1 P0 S0 p0 p1 p2 pl
  obtain ⟨v1, rfl⟩ : ∃ v, v = w1 := ⟨_, rfl⟩
  have p0 := P1.cellAt 0 rfl; have p1 := P1.cellAt 1 rfl; have p2 := P1.cellAt 2 rfl; have pl := P1.lt
  go_wp2
  rw [rounds_succ]
  go_wp2
  refine region_below 20 follows_mixed (by kernel_rfl) ?_
  intro C hC
  simp only [List.take_succ_cons, List.take_zero, List.drop_succ_cons, List.drop_zero]
  repeat (first
    | ((with_reducible refine quiet_plain rfl (fun K hK => ?_)); (focus (apply quiet_val; (focus (intro w' hw; obtain ⟨hcq, hfq⟩ := bcell ((hC.out _).1 hw); go_simp; (first | done | rfl))); (simp only [Act.put, List.setIfInBounds_toArray, List.set_cons_succ, List.set_cons_zero]); (with_reducible refine hK _ ?_); clear hK K)))
    | ((with_reducible refine quiet_skip ?_ ?_); (focus (first | (simp [Region.wanted, yielded]; done) | (simp [Region.wanted, yielded, undef]; done))); simp only [Act.put, List.setIfInBounds_toArray, List.set_cons_succ, List.set_cons_zero])
    | ((with_reducible refine quiet_go ?_ (fun K hK => ?_)); (focus (first | (simp [Region.wanted, yielded]; done) | (simp [Region.wanted, yielded, undef]; done))); (focus (apply quiet_val; (focus (intro w' hw; obtain ⟨hcq, hfq⟩ := bcell ((hC.out _).1 hw); go_simp; (first | done | rfl))); (simp only [Act.put, List.setIfInBounds_toArray, List.set_cons_succ, List.set_cons_zero]); (with_reducible refine hK _ ?_); clear hK K))))
  refine wpQuiet_nil ?_
  intro w1 hb1
  replace hb1 := (hC.out _).1 hb1
  clear hC C
  obtain ⟨hc1, hf1⟩ := bcell hb1
  have P2 := P1.past hb1; have S2 := pt S1 hb1
  clear hb1 hc1 hf1 P1 S1 p0 p1 p2 pl
  obtain ⟨v2, rfl⟩ : ∃ v, v = w1 := ⟨_, rfl⟩
  have p0 := P2.cellAt 0 rfl; have p1 := P2.cellAt 1 rfl; have p2 := P2.cellAt 2 rfl; have pl := P2.lt
  go_wp2
  go_ret
  exact ⟨rfl, S2⟩

set_option maxHeartbeats 4000000 in
set_option maxRecDepth 100000 in
theorem refIsPerm_4 (a b c : Int) (h0 : ¬ a < 0) (h1 : ¬ 2 < a) (h2 : ¬ a = b) (h3 : ¬ b < 0) (h4 : 2 < b) (w : World) :
    Calls Tryd.prog 45 #[.agg #[.int .i64 a, .int .i64 b, .int .i64 c]] w fun e w' => e = .returned (.bool false) ∧ Below w.heap.size w w' := by
  have z1 : IntKind.i64.wrap 1 = 1 := by decide
  have z2 : IntKind.i64.wrap 2 = 2 := by decide
  have z3 : IntKind.i64.wrap 3 = 3 := by decide
  have g0 : decide (a < 0) = false := by simpa using h0
  have f0 : (a < 0) = False := by simpa using h0
  have g1 : decide (2 < a) = false := by simpa using h1
  have f1 : (2 < a) = False := by simpa using h1
  have g2 : (a == b) = false := by simpa using h2
  have g3 : decide (b < 0) = false := by simpa using h3
  have f3 : (b < 0) = False := by simpa using h3
  have g4 : decide (2 < b) = true := by simpa using h4
  have f4 : (2 < b) = True := by simpa using h4
  go_enter Tryd.func45, Tryd.ntmps45
  go_wp2
  have P0 : Blk (w.alloc (.cells #[.int .i64 a, .int .i64 b, .int .i64 c] 36)) w.heap.size 36 #[.int .i64 a, .int .i64 b, .int .i64 c] := Blk.newAt rfl
  have S0 : Below w.heap.size w (w.alloc (.cells #[.int .i64 a, .int .i64 b, .int .i64 c] 36)) := pa pr
  generalize w.alloc (.cells #[.int .i64 a, .int .i64 b, .int .i64 c] 36) = v0 at *
  have p0 := P0.cellAt 0 rfl; have p1 := P0.cellAt 1 rfl; have p2 := P0.cellAt 2 rfl; have pl := P0.lt
  refine wp_loop_rounds 4 ?_
  rw [rounds_succ]
  go_wp2
  refine region_below 20 follows_mixed (by kernel_rfl) ?_
  intro C hC
  simp only [List.take_succ_cons, List.take_zero, List.drop_succ_cons, List.drop_zero]
  repeat (first
    | ((with_reducible refine quiet_plain rfl (fun K hK => ?_)); (focus (apply quiet_val; (focus (intro w' hw; obtain ⟨hcq, hfq⟩ := bcell ((hC.out _).1 hw); go_simp; (first | done | rfl))); (simp only [Act.put, List.setIfInBounds_toArray, List.set_cons_succ, List.set_cons_zero]); (with_reducible refine hK _ ?_); clear hK K)))
    | ((with_reducible refine quiet_skip ?_ ?_); (focus (first | (simp [Region.wanted, yielded]; done) | (simp [Region.wanted, yielded, undef]; done))); simp only [Act.put, List.setIfInBounds_toArray, List.set_cons_succ, List.set_cons_zero])
    | ((with_reducible refine quiet_go ?_ (fun K hK => ?_)); (focus (first | (simp [Region.wanted, yielded]; done) | (simp [Region.wanted, yielded, undef]; done))); (focus (apply quiet_val; (focus (intro w' hw; obtain ⟨hcq, hfq⟩ := bcell ((hC.out _).1 hw); go_simp; (first | done | rfl))); (simp only [Act.put, List.setIfInBounds_toArray, List.set_cons_succ, List.set_cons_zero]); (with_reducible refine hK _ ?_); clear hK K))))
  refine wpQuiet_nil ?_
  intro w1 hb1
  replace hb1 := (hC.out _).1 hb1
  clear hC C
  obtain ⟨hc1, hf1⟩ := bcell hb1
  have P1 := P0.past hb1; have S1 := pt S0 hb1
  clear hb1 hc1 hf1 P0 S0 p0 p1 p2 pl
  obtain ⟨v1, rfl⟩ : ∃ v, v = w1 := ⟨_, rfl⟩
  have p0 := P1.cellAt 0 rfl; have p1 := P1.cellAt 1 rfl; have p2 := P1.cellAt 2 rfl; have pl := P1.lt
  go_wp2
  rw [rounds_succ]
  go_wp2
  refine region_below 20 follows_mixed (by kernel_rfl) ?_
  intro C hC
  simp only [List.take_succ_cons, List.take_zero, List.drop_succ_cons, List.drop_zero]
  repeat (first
    | ((with_reducible refine quiet_plain rfl (fun K hK => ?_)); (focus (apply quiet_val; (focus (intro w' hw; obtain ⟨hcq, hfq⟩ := bcell ((hC.out _).1 hw); go_simp; (first | done | rfl))); (simp only [Act.put, List.setIfInBounds_toArray, List.set_cons_succ, List.set_cons_zero]); (with_reducible refine hK _ ?_); clear hK K)))
    | ((with_reducible refine quiet_skip ?_ ?_); (focus (first | (simp [Region.wanted, yielded]; done) | (simp [Region.wanted, yielded, undef]; done))); simp only [Act.put, List.setIfInBounds_toArray, List.set_cons_succ, List.set_cons_zero])
    | ((with_reducible refine quiet_go ?_ (fun K hK => ?_)); (focus (first | (simp [Region.wanted, yielded]; done) | (simp [Region.wanted, yielded, undef]; done))); (focus (apply quiet_val; (focus (intro w' hw; obtain ⟨hcq, hfq⟩ := bcell ((hC.out _).1 hw); go_simp; (first | done | rfl))); (simp only [Act.put, List.setIfInBounds_toArray, List.set_cons_succ, List.set_cons_zero]); (with_reducible refine hK _ ?_); clear hK K))))
  refine wpQuiet_nil ?_
  intro w1 hb1
  replace hb1 := (hC.out _).1 hb1
  clear hC C
  obtain ⟨hc1, hf1⟩ := bcell hb1
  have P2 := P1.past hb1; have S2 := pt S1 hb1
  clear hb1 hc1 hf1 P1 S1 p0 p1 p2 pl
  obtain ⟨v2, rfl⟩ : ∃ v, v = w1 := ⟨_, rfl⟩
  have p0 := P2.cellAt 0 rfl; have p1 := P2.cellAt 1 rfl; have p2 := P2.cellAt 2 rfl; have pl := P2.lt
  go_wp2
  go_ret
  exact ⟨rfl, S2⟩

set_option maxHeartbeats 4000000 in
set_option maxRecDepth 100000 in
theorem refIsPerm_5 (a b c : Int) (h0 : ¬ a < 0) (h1 : ¬ 2 < a) (h2 : ¬ a = b) (h3 : ¬ b < 0) (h4 : ¬ 2 < b) (h5 : b = c) (w : World) :
    Calls Tryd.prog 45 #[.agg #[.int .i64 a, .int .i64 b, .int .i64 c]] w fun e w' => e = .returned (.bool false) ∧ Below w.heap.size w w' := by
  have z1 : IntKind.i64.wrap 1 = 1 := by decide
  have z2 : IntKind.i64.wrap 2 = 2 := by decide
  have z3 : IntKind.i64.wrap 3 = 3 := by decide
  subst h5
  have g0 : decide (a < 0) = false := by simpa using h0
  have f0 : (a < 0) = False := by simpa using h0
  have g1 : decide (2 < a) = false := by simpa using h1
  have f1 : (2 < a) = False := by simpa using h1
  have g2 : (a == b) = false := by simpa using h2
  have g3 : decide (b < 0) = false := by simpa using h3
  have f3 : (b < 0) = False := by simpa using h3
  have g4 : decide (2 < b) = false := by simpa using h4
  have f4 : (2 < b) = False := by simpa using h4
  go_enter Tryd.func45, Tryd.ntmps45
  go_wp2
  have P0 : Blk (w.alloc (.cells #[.int .i64 a, .int .i64 b, .int .i64 b] 36)) w.heap.size 36 #[.int .i64 a, .int .i64 b, .int .i64 b] := Blk.newAt rfl
  have S0 : Below w.heap.size w (w.alloc (.cells #[.int .i64 a, .int .i64 b, .int .i64 b] 36)) := pa pr
  generalize w.alloc (.cells #[.int .i64 a, .int .i64 b, .int .i64 b] 36) = v0 at *
  have p0 := P0.cellAt 0 rfl; have p1 := P0.cellAt 1 rfl; have p2 := P0.cellAt 2 rfl; have pl := P0.lt
  refine wp_loop_rounds 4 ?_
  rw [rounds_succ]
  go_wp2
  refine region_below 20 follows_mixed (by kernel_rfl) ?_
  intro C hC
  simp only [List.take_succ_cons, List.take_zero, List.drop_succ_cons, List.drop_zero]
  repeat (first
    | ((with_reducible refine quiet_plain rfl (fun K hK => ?_)); (focus (apply quiet_val; (focus (intro w' hw; obtain ⟨hcq, hfq⟩ := bcell ((hC.out _).1 hw); go_simp; (first | done | rfl))); (simp only [Act.put, List.setIfInBounds_toArray, List.set_cons_succ, List.set_cons_zero]); (with_reducible refine hK _ ?_); clear hK K)))
    | ((with_reducible refine quiet_skip ?_ ?_); (focus (first | (simp [Region.wanted, yielded]; done) | (simp [Region.wanted, yielded, undef]; done))); simp only [Act.put, List.setIfInBounds_toArray, List.set_cons_succ, List.set_cons_zero])
    | ((with_reducible refine quiet_go ?_ (fun K hK => ?_)); (focus (first | (simp [Region.wanted, yielded]; done) | (simp [Region.wanted, yielded, undef]; done))); (focus (apply quiet_val; (focus (intro w' hw; obtain ⟨hcq, hfq⟩ := bcell ((hC.out _).1 hw); go_simp; (first | done | rfl))); (simp only [Act.put, List.setIfInBounds_toArray, List.set_cons_succ, List.set_cons_zero]); (with_reducible refine hK _ ?_); clear hK K))))
  refine wpQuiet_nil ?_
  intro w1 hb1
  replace hb1 := (hC.out _).1 hb1
  clear hC C
  obtain ⟨hc1, hf1⟩ := bcell hb1
  have P1 := P0.past hb1; have S1 := pt S0 hb1
  clear hb1 hc1 hf1 P0 S0 p0 p1 p2 pl
  obtain ⟨v1, rfl⟩ : ∃ v, v = w1 := ⟨_, rfl⟩
  have p0 := P1.cellAt 0 rfl; have p1 := P1.cellAt 1 rfl; have p2 := P1.cellAt 2 rfl; have pl := P1.lt
  go_wp2
  rw [rounds_succ]
  go_wp2
  refine region_below 20 follows_mixed (by kernel_rfl) ?_
  intro C hC
  simp only [List.take_succ_cons, List.take_zero, List.drop_succ_cons, List.drop_zero]
  repeat (first
    | ((with_reducible refine quiet_plain rfl (fun K hK => ?_)); (focus (apply quiet_val; (focus (intro w' hw; obtain ⟨hcq, hfq⟩ := bcell ((hC.out _).1 hw); go_simp; (first | done | rfl))); (simp only [Act.put, List.setIfInBounds_toArray, List.set_cons_succ, List.set_cons_zero]); (with_reducible refine hK _ ?_); clear hK K)))
    | ((with_reducible refine quiet_skip ?_ ?_); (focus (first | (simp [Region.wanted, yielded]; done) | (simp [Region.wanted, yielded, undef]; done))); simp only [Act.put, List.setIfInBounds_toArray, List.set_cons_succ, List.set_cons_zero])
    | ((with_reducible refine quiet_go ?_ (fun K hK => ?_)); (focus (first | (simp [Region.wanted, yielded]; done) | (simp [Region.wanted, yielded, undef]; done))); (focus (apply quiet_val; (focus (intro w' hw; obtain ⟨hcq, hfq⟩ := bcell ((hC.out _).1 hw); go_simp; (first | done | rfl))); (simp only [Act.put, List.setIfInBounds_toArray, List.set_cons_succ, List.set_cons_zero]); (with_reducible refine hK _ ?_); clear hK K))))
  refine wpQuiet_nil ?_
  intro w1 hb1
  replace hb1 := (hC.out _).1 hb1
  clear hC C
  obtain ⟨hc1, hf1⟩ := bcell hb1
  have P2 := P1.past hb1; have S2 := pt S1 hb1
  clear hb1 hc1 hf1 P1 S1 p0 p1 p2 pl
  obtain ⟨v2, rfl⟩ : ∃ v, v = w1 := ⟨_, rfl⟩
  have p0 := P2.cellAt 0 rfl; have p1 := P2.cellAt 1 rfl; have p2 := P2.cellAt 2 rfl; have pl := P2.lt
  go_wp2
  go_ret
  exact ⟨rfl, S2⟩

set_option maxHeartbeats 4000000 in
set_option maxRecDepth 100000 in
theorem refIsPerm_6 (a b c : Int) (h0 : ¬ a < 0) (h1 : ¬ 2 < a) (h2 : ¬ a = b) (h3 : ¬ b < 0) (h4 : ¬ 2 < b) (h5 : ¬ b = c) (h6 : c < 0) (w : World) :
    Calls Tryd.prog 45 #[.agg #[.int .i64 a, .int .i64 b, .int .i64 c]] w fun e w' => e = .returned (.bool false) ∧ Below w.heap.size w w' := by
  have z1 : IntKind.i64.wrap 1 = 1 := by decide
  have z2 : IntKind.i64.wrap 2 = 2 := by decide
  have z3 : IntKind.i64.wrap 3 = 3 := by decide
  have g0 : decide (a < 0) = false := by simpa using h0
  have f0 : (a < 0) = False := by simpa using h0
  have g1 : decide (2 < a) = false := by simpa using h1
  have f1 : (2 < a) = False := by simpa using h1
  have g2 : (a == b) = false := by simpa using h2
  have g3 : decide (b < 0) = false := by simpa using h3
  have f3 : (b < 0) = False := by simpa using h3
  have g4 : decide (2 < b) = false := by simpa using h4
  have f4 : (2 < b) = False := by simpa using h4
  have g5 : (b == c) = false := by simpa using h5
  have g6 : decide (c < 0) = true := by simpa using h6
  have f6 : (c < 0) = True := by simpa using h6
  go_enter Tryd.func45, Tryd.ntmps45
  go_wp2
  have P0 : Blk (w.alloc (.cells #[.int .i64 a, .int .i64 b, .int .i64 c] 36)) w.heap.size 36 #[.int .i64 a, .int .i64 b, .int .i64 c] := Blk.newAt rfl
  have S0 : Below w.heap.size w (w.alloc (.cells #[.int .i64 a, .int .i64 b, .int .i64 c] 36)) := pa pr
  generalize w.alloc (.cells #[.int .i64 a, .int .i64 b, .int .i64 c] 36) = v0 at *
  have p0 := P0.cellAt 0 rfl; have p1 := P0.cellAt 1 rfl; have p2 := P0.cellAt 2 rfl; have pl := P0.lt
  refine wp_loop_rounds 4 ?_
  rw [rounds_succ]
  go_wp2
  refine region_below 20 follows_mixed (by kernel_rfl) ?_
  intro C hC
  simp only [List.take_succ_cons, List.take_zero, List.drop_succ_cons, List.drop_zero]
  repeat (first
    | ((with_reducible refine quiet_plain rfl (fun K hK => ?_)); (focus (apply quiet_val; (focus (intro w' hw; obtain ⟨hcq, hfq⟩ := bcell ((hC.out _).1 hw); go_simp; (first | done | rfl))); (simp only [Act.put, List.setIfInBounds_toArray, List.set_cons_succ, List.set_cons_zero]); (with_reducible refine hK _ ?_); clear hK K)))
    | ((with_reducible refine quiet_skip ?_ ?_); (focus (first | (simp [Region.wanted, yielded]; done) | (simp [Region.wanted, yielded, undef]; done))); simp only [Act.put, List.setIfInBounds_toArray, List.set_cons_succ, List.set_cons_zero])
    | ((with_reducible refine quiet_go ?_ (fun K hK => ?_)); (focus (first | (simp [Region.wanted, yielded]; done) | (simp [Region.wanted, yielded, undef]; done))); (focus (apply quiet_val; (focus (intro w' hw; obtain ⟨hcq, hfq⟩ := bcell ((hC.out _).1 hw); go_simp; (first | done | rfl))); (simp only [Act.put, List.setIfInBounds_toArray, List.set_cons_succ, List.set_cons_zero]); (with_reducible refine hK _ ?_); clear hK K))))
  refine wpQuiet_nil ?_
  intro w1 hb1
  replace hb1 := (hC.out _).1 hb1
  clear hC C
  obtain ⟨hc1, hf1⟩ := bcell hb1
  have P1 := P0.past hb1; have S1 := pt S0 hb1
  clear hb1 hc1 hf1 P0 S0 p0 p1 p2 pl
  obtain ⟨v1, rfl⟩ : ∃ v, v = w1 := ⟨_, rfl⟩
  have p0 := P1.cellAt 0 rfl; have p1 := P1.cellAt 1 rfl; have p2 := P1.cellAt 2 rfl; have pl := P1.lt
  go_wp2
  rw [rounds_succ]
  go_wp2
  refine region_below 20 follows_mixed (by kernel_rfl) ?_
  intro C hC
  simp only [List.take_succ_cons, List.take_zero, List.drop_succ_cons, List.drop_zero]
  repeat (first
    | ((with_reducible refine quiet_plain rfl (fun K hK => ?_)); (focus (apply quiet_val; (focus (intro w' hw; obtain ⟨hcq, hfq⟩ := bcell ((hC.out _).1 hw); go_simp; (first | done | rfl))); (simp only [Act.put, List.setIfInBounds_toArray, List.set_cons_succ, List.set_cons_zero]); (with_reducible refine hK _ ?_); clear hK K)))
    | ((with_reducible refine quiet_skip ?_ ?_); (focus (first | (simp [Region.wanted, yielded]; done) | (simp [Region.wanted, yielded, undef]; done))); simp only [Act.put, List.setIfInBounds_toArray, List.set_cons_succ, List.set_cons_zero])
    | ((with_reducible refine quiet_go ?_ (fun K hK => ?_)); (focus (first | (simp [Region.wanted, yielded]; done) | (simp [Region.wanted, yielded, undef]; done))); (focus (apply quiet_val; (focus (intro w' hw; obtain ⟨hcq, hfq⟩ := bcell ((hC.out _).1 hw); go_simp; (first | done | rfl))); (simp only [Act.put, List.setIfInBounds_toArray, List.set_cons_succ, List.set_cons_zero]); (with_reducible refine hK _ ?_); clear hK K))))
  refine wpQuiet_nil ?_
  intro w1 hb1
  replace hb1 := (hC.out _).1 hb1
  clear hC C
  obtain ⟨hc1, hf1⟩ := bcell hb1
  have P2 := P1.past hb1; have S2 := pt S1 hb1
  clear hb1 hc1 hf1 P1 S1 p0 p1 p2 pl
  obtain ⟨v2, rfl⟩ : ∃ v, v = w1 := ⟨_, rfl⟩
  have p0 := P2.cellAt 0 rfl; have p1 := P2.cellAt 1 rfl; have p2 := P2.cellAt 2 rfl; have pl := P2.lt
  go_wp2
  rw [rounds_succ]
  go_wp2
  refine region_below 20 follows_mixed (by kernel_rfl) ?_
  intro C hC
  simp only [List.take_succ_cons, List.take_zero, List.drop_succ_cons, List.drop_zero]
  repeat (first
    | ((with_reducible refine quiet_plain rfl (fun K hK => ?_)); (focus (apply quiet_val; (focus (intro w' hw; obtain ⟨hcq, hfq⟩ := bcell ((hC.out _).1 hw); go_simp; (first | done | rfl))); (simp only [Act.put, List.setIfInBounds_toArray, List.set_cons_succ, List.set_cons_zero]); (with_reducible refine hK _ ?_); clear hK K)))
    | ((with_reducible refine quiet_skip ?_ ?_); (focus (first | (simp [Region.wanted, yielded]; done) | (simp [Region.wanted, yielded, undef]; done))); simp only [Act.put, List.setIfInBounds_toArray, List.set_cons_succ, List.set_cons_zero])
    | ((with_reducible refine quiet_go ?_ (fun K hK => ?_)); (focus (first | (simp [Region.wanted, yielded]; done) | (simp [Region.wanted, yielded, undef]; done))); (focus (apply quiet_val; (focus (intro w' hw; obtain ⟨hcq, hfq⟩ := bcell ((hC.out _).1 hw); go_simp; (first | done | rfl))); (simp only [Act.put, List.setIfInBounds_toArray, List.set_cons_succ, List.set_cons_zero]); (with_reducible refine hK _ ?_); clear hK K))))
  refine wpQuiet_nil ?_
  intro w1 hb1
  replace hb1 := (hC.out _).1 hb1
  clear hC C
  obtain ⟨hc1, hf1⟩ := bcell hb1
  have P3 := P2.past hb1; have S3 := pt S2 hb1
  clear hb1 hc1 hf1 P2 S2 p0 p1 p2 pl
  obtain ⟨v3, rfl⟩ : ∃ v, v = w1 := ⟨_, rfl⟩
  have p0 := P3.cellAt 0 rfl; have p1 := P3.cellAt 1 rfl; have p2 := P3.cellAt 2 rfl; have pl := P3.lt
  go_wp2
  go_ret
  exact ⟨rfl, S3⟩

set_option maxHeartbeats 4000000 in
set_option maxRecDepth 100000 in
theorem refIsPerm_7 (a b c : Int) (h0 : ¬ a < 0) (h1 : ¬ 2 < a) (h2 : ¬ a = b) (h3 : ¬ b < 0) (h4 : ¬ 2 < b) (h5 : ¬ b = c) (h6 : ¬ c < 0) (h7 : 2 < c) (w : World) :
    Calls Tryd.prog 45 #[.agg #[.int .i64 a, .int .i64 b, .int .i64 c]] w fun e w' => e = .returned (.bool false) ∧ Below w.heap.size w w' := by
  have z1 : IntKind.i64.wrap 1 = 1 := by decide
  have z2 : IntKind.i64.wrap 2 = 2 := by decide
  have z3 : IntKind.i64.wrap 3 = 3 := by decide
  have g0 : decide (a < 0) = false := by simpa using h0
  have f0 : (a < 0) = False := by simpa using h0
  have g1 : decide (2 < a) = false := by simpa using h1
  have f1 : (2 < a) = False := by simpa using h1
  have g2 : (a == b) = false := by simpa using h2
  have g3 : decide (b < 0) = false := by simpa using h3
  have f3 : (b < 0) = False := by simpa using h3
  have g4 : decide (2 < b) = false := by simpa using h4
  have f4 : (2 < b) = False := by simpa using h4
  have g5 : (b == c) = false := by simpa using h5
  have g6 : decide (c < 0) = false := by simpa using h6
  have f6 : (c < 0) = False := by simpa using h6
  have g7 : decide (2 < c) = true := by simpa using h7
  have f7 : (2 < c) = True := by simpa using h7
  go_enter Tryd.func45, Tryd.ntmps45
  go_wp2
  have P0 : Blk (w.alloc (.cells #[.int .i64 a, .int .i64 b, .int .i64 c] 36)) w.heap.size 36 #[.int .i64 a, .int .i64 b, .int .i64 c] := Blk.newAt rfl
  have S0 : Below w.heap.size w (w.alloc (.cells #[.int .i64 a, .int .i64 b, .int .i64 c] 36)) := pa pr
  generalize w.alloc (.cells #[.int .i64 a, .int .i64 b, .int .i64 c] 36) = v0 at *
  have p0 := P0.cellAt 0 rfl; have p1 := P0.cellAt 1 rfl; have p2 := P0.cellAt 2 rfl; have pl := P0.lt
  refine wp_loop_rounds 4 ?_
  rw [rounds_succ]
  go_wp2
  refine region_below 20 follows_mixed (by kernel_rfl) ?_
  intro C hC
  simp only [List.take_succ_cons, List.take_zero, List.drop_succ_cons, List.drop_zero]
  repeat (first
    | ((with_reducible refine quiet_plain rfl (fun K hK => ?_)); (focus (apply quiet_val; (focus (intro w' hw; obtain ⟨hcq, hfq⟩ := bcell ((hC.out _).1 hw); go_simp; (first | done | rfl))); (simp only [Act.put, List.setIfInBounds_toArray, List.set_cons_succ, List.set_cons_zero]); (with_reducible refine hK _ ?_); clear hK K)))
    | ((with_reducible refine quiet_skip ?_ ?_); (focus (first | (simp [Region.wanted, yielded]; done) | (simp [Region.wanted, yielded, undef]; done))); simp only [Act.put, List.setIfInBounds_toArray, List.set_cons_succ, List.set_cons_zero])
    | ((with_reducible refine quiet_go ?_ (fun K hK => ?_)); (focus (first | (simp [Region.wanted, yielded]; done) | (simp [Region.wanted, yielded, undef]; done))); (focus (apply quiet_val; (focus (intro w' hw; obtain ⟨hcq, hfq⟩ := bcell ((hC.out _).1 hw); go_simp; (first | done | rfl))); (simp only [Act.put, List.setIfInBounds_toArray, List.set_cons_succ, List.set_cons_zero]); (with_reducible refine hK _ ?_); clear hK K))))
  refine wpQuiet_nil ?_
  intro w1 hb1
  replace hb1 := (hC.out _).1 hb1
  clear hC C
  obtain ⟨hc1, hf1⟩ := bcell hb1
  have P1 := P0.past hb1; have S1 := pt S0 hb1
  clear hb1 hc1 hf1 P0 S0 p0 p1 p2 pl
  obtain ⟨v1, rfl⟩ : ∃ v, v = w1 := ⟨_, rfl⟩
  have p0 := P1.cellAt 0 rfl; have p1 := P1.cellAt 1 rfl; have p2 := P1.cellAt 2 rfl; have pl := P1.lt
  go_wp2
  rw [rounds_succ]
  go_wp2
  refine region_below 20 follows_mixed (by kernel_rfl) ?_
  intro C hC
  simp only [List.take_succ_cons, List.take_zero, List.drop_succ_cons, List.drop_zero]
  repeat (first
    | ((with_reducible refine quiet_plain rfl (fun K hK => ?_)); (focus (apply quiet_val; (focus (intro w' hw; obtain ⟨hcq, hfq⟩ := bcell ((hC.out _).1 hw); go_simp; (first | done | rfl))); (simp only [Act.put, List.setIfInBounds_toArray, List.set_cons_succ, List.set_cons_zero]); (with_reducible refine hK _ ?_); clear hK K)))
    | ((with_reducible refine quiet_skip ?_ ?_); (focus (first | (simp [Region.wanted, yielded]; done) | (simp [Region.wanted, yielded, undef]; done))); simp only [Act.put, List.setIfInBounds_toArray, List.set_cons_succ, List.set_cons_zero])
    | ((with_reducible refine quiet_go ?_ (fun K hK => ?_)); (focus (first | (simp [Region.wanted, yielded]; done) | (simp [Region.wanted, yielded, undef]; done))); (focus (apply quiet_val; (focus (intro w' hw; obtain ⟨hcq, hfq⟩ := bcell ((hC.out _).1 hw); go_simp; (first | done | rfl))); (simp only [Act.put, List.setIfInBounds_toArray, List.set_cons_succ, List.set_cons_zero]); (with_reducible refine hK _ ?_); clear hK K))))
  refine wpQuiet_nil ?_
  intro w1 hb1
  replace hb1 := (hC.out _).1 hb1
  clear hC C
  obtain ⟨hc1, hf1⟩ := bcell hb1
  have P2 := P1.past hb1; have S2 := pt S1 hb1
  clear hb1 hc1 hf1 P1 S1 p0 p1 p2 pl
  obtain ⟨v2, rfl⟩ : ∃ v, v = w1 := ⟨_, rfl⟩
  have p0 := P2.cellAt 0 rfl; have p1 := P2.cellAt 1 rfl; have p2 := P2.cellAt 2 rfl; have pl := P2.lt
  go_wp2
  rw [rounds_succ]
  go_wp2
  refine region_below 20 follows_mixed (by kernel_rfl) ?_
  intro C hC
  simp only [List.take_succ_cons, List.take_zero, List.drop_succ_cons, List.drop_zero]
  repeat (first
    | ((with_reducible refine quiet_plain rfl (fun K hK => ?_)); (focus (apply quiet_val; (focus (intro w' hw; obtain ⟨hcq, hfq⟩ := bcell ((hC.out _).1 hw); go_simp; (first | done | rfl))); (simp only [Act.put, List.setIfInBounds_toArray, List.set_cons_succ, List.set_cons_zero]); (with_reducible refine hK _ ?_); clear hK K)))
    | ((with_reducible refine quiet_skip ?_ ?_); (focus (first | (simp [Region.wanted, yielded]; done) | (simp [Region.wanted, yielded, undef]; done))); simp only [Act.put, List.setIfInBounds_toArray, List.set_cons_succ, List.set_cons_zero])
    | ((with_reducible refine quiet_go ?_ (fun K hK => ?_)); (focus (first | (simp [Region.wanted, yielded]; done) | (simp [Region.wanted, yielded, undef]; done))); (focus (apply quiet_val; (focus (intro w' hw; obtain ⟨hcq, hfq⟩ := bcell ((hC.out _).1 hw); go_simp; (first | done | rfl))); (simp only [Act.put, List.setIfInBounds_toArray, List.set_cons_succ, List.set_cons_zero]); (with_reducible refine hK _ ?_); clear hK K))))
  refine wpQuiet_nil ?_
  intro w1 hb1
  replace hb1 := (hC.out _).1 hb1
  clear hC C
  obtain ⟨hc1, hf1⟩ := bcell hb1
  have P3 := P2.past hb1; have S3 := pt S2 hb1
  clear hb1 hc1 hf1 P2 S2 p0 p1 p2 pl
  obtain ⟨v3, rfl⟩ : ∃ v, v = w1 := ⟨_, rfl⟩
  have p0 := P3.cellAt 0 rfl; have p1 := P3.cellAt 1 rfl; have p2 := P3.cellAt 2 rfl; have pl := P3.lt
  go_wp2
  go_ret
  exact ⟨rfl, S3⟩

set_option maxHeartbeats 4000000 in
set_option maxRecDepth 100000 in
theorem refIsPerm_8 (a b c : Int) (h0 : ¬ a < 0) (h1 : ¬ 2 < a) (h2 : ¬ a = b) (h3 : ¬ b < 0) (h4 : ¬ 2 < b) (h5 : ¬ b = c) (h6 : ¬ c < 0) (h7 : ¬ 2 < c) (h8 : c = a) (w : World) :
    Calls Tryd.prog 45 #[.agg #[.int .i64 a, .int .i64 b, .int .i64 c]] w fun e w' => e = .returned (.bool false) ∧ Below w.heap.size w w' := by
  have z1 : IntKind.i64.wrap 1 = 1 := by decide
  have z2 : IntKind.i64.wrap 2 = 2 := by decide
  have z3 : IntKind.i64.wrap 3 = 3 := by decide
  subst h8
  have g0 : decide (c < 0) = false := by simpa using h0
  have f0 : (c < 0) = False := by simpa using h0
  have g1 : decide (2 < c) = false := by simpa using h1
  have f1 : (2 < c) = False := by simpa using h1
  have g2 : (c == b) = false := by simpa using h2
  have g3 : decide (b < 0) = false := by simpa using h3
  have f3 : (b < 0) = False := by simpa using h3
  have g4 : decide (2 < b) = false := by simpa using h4
  have f4 : (2 < b) = False := by simpa using h4
  have g5 : (b == c) = false := by simpa using h5
  have g6 : decide (c < 0) = false := by simpa using h6
  have f6 : (c < 0) = False := by simpa using h6
  have g7 : decide (2 < c) = false := by simpa using h7
  have f7 : (2 < c) = False := by simpa using h7
  go_enter Tryd.func45, Tryd.ntmps45
  go_wp2
  have P0 : Blk (w.alloc (.cells #[.int .i64 c, .int .i64 b, .int .i64 c] 36)) w.heap.size 36 #[.int .i64 c, .int .i64 b, .int .i64 c] := Blk.newAt rfl
  have S0 : Below w.heap.size w (w.alloc (.cells #[.int .i64 c, .int .i64 b, .int .i64 c] 36)) := pa pr
  generalize w.alloc (.cells #[.int .i64 c, .int .i64 b, .int .i64 c] 36) = v0 at *
  have p0 := P0.cellAt 0 rfl; have p1 := P0.cellAt 1 rfl; have p2 := P0.cellAt 2 rfl; have pl := P0.lt
  refine wp_loop_rounds 4 ?_
  rw [rounds_succ]
  go_wp2
  refine region_below 20 follows_mixed (by kernel_rfl) ?_
  intro C hC
  simp only [List.take_succ_cons, List.take_zero, List.drop_succ_cons, List.drop_zero]
  repeat (first
    | ((with_reducible refine quiet_plain rfl (fun K hK => ?_)); (focus (apply quiet_val; (focus (intro w' hw; obtain ⟨hcq, hfq⟩ := bcell ((hC.out _).1 hw); go_simp; (first | done | rfl))); (simp only [Act.put, List.setIfInBounds_toArray, List.set_cons_succ, List.set_cons_zero]); (with_reducible refine hK _ ?_); clear hK K)))
    | ((with_reducible refine quiet_skip ?_ ?_); (focus (first | (simp [Region.wanted, yielded]; done) | (simp [Region.wanted, yielded, undef]; done))); simp only [Act.put, List.setIfInBounds_toArray, List.set_cons_succ, List.set_cons_zero])
    | ((with_reducible refine quiet_go ?_ (fun K hK => ?_)); (focus (first | (simp [Region.wanted, yielded]; done) | (simp [Region.wanted, yielded, undef]; done))); (focus (apply quiet_val; (focus (intro w' hw; obtain ⟨hcq, hfq⟩ := bcell ((hC.out _).1 hw); go_simp; (first | done | rfl))); (simp only [Act.put, List.setIfInBounds_toArray, List.set_cons_succ, List.set_cons_zero]); (with_reducible refine hK _ ?_); clear hK K))))
  refine wpQuiet_nil ?_
  intro w1 hb1
  replace hb1 := (hC.out _).1 hb1
  clear hC C
  obtain ⟨hc1, hf1⟩ := bcell hb1
  have P1 := P0.past hb1; have S1 := pt S0 hb1
  clear hb1 hc1 hf1 P0 S0 p0 p1 p2 pl
  obtain ⟨v1, rfl⟩ : ∃ v, v = w1 := ⟨_, rfl⟩
  have p0 := P1.cellAt 0 rfl; have p1 := P1.cellAt 1 rfl; have p2 := P1.cellAt 2 rfl; have pl := P1.lt
  go_wp2
  rw [rounds_succ]
  go_wp2
  refine region_below 20 follows_mixed (by kernel_rfl) ?_
  intro C hC
  simp only [List.take_succ_cons, List.take_zero, List.drop_succ_cons, List.drop_zero]
  repeat (first
    | ((with_reducible refine quiet_plain rfl (fun K hK => ?_)); (focus (apply quiet_val; (focus (intro w' hw; obtain ⟨hcq, hfq⟩ := bcell ((hC.out _).1 hw); go_simp; (first | done | rfl))); (simp only [Act.put, List.setIfInBounds_toArray, List.set_cons_succ, List.set_cons_zero]); (with_reducible refine hK _ ?_); clear hK K)))
    | ((with_reducible refine quiet_skip ?_ ?_); (focus (first | (simp [Region.wanted, yielded]; done) | (simp [Region.wanted, yielded, undef]; done))); simp only [Act.put, List.setIfInBounds_toArray, List.set_cons_succ, List.set_cons_zero])
    | ((with_reducible refine quiet_go ?_ (fun K hK => ?_)); (focus (first | (simp [Region.wanted, yielded]; done) | (simp [Region.wanted, yielded, undef]; done))); (focus (apply quiet_val; (focus (intro w' hw; obtain ⟨hcq, hfq⟩ := bcell ((hC.out _).1 hw); go_simp; (first | done | rfl))); (simp only [Act.put, List.setIfInBounds_toArray, List.set_cons_succ, List.set_cons_zero]); (with_reducible refine hK _ ?_); clear hK K))))
  refine wpQuiet_nil ?_
  intro w1 hb1
  replace hb1 := (hC.out _).1 hb1
  clear hC C
  obtain ⟨hc1, hf1⟩ := bcell hb1
  have P2 := P1.past hb1; have S2 := pt S1 hb1
  clear hb1 hc1 hf1 P1 S1 p0 p1 p2 pl
  obtain ⟨v2, rfl⟩ : ∃ v, v = w1 := ⟨_, rfl⟩
  have p0 := P2.cellAt 0 rfl; have p1 := P2.cellAt 1 rfl; have p2 := P2.cellAt 2 rfl; have pl := P2.lt
  go_wp2
  rw [rounds_succ]
  go_wp2
  refine region_below 20 follows_mixed (by kernel_rfl) ?_
  intro C hC
  simp only [List.take_succ_cons, List.take_zero, List.drop_succ_cons, List.drop_zero]
  repeat (first
    | ((with_reducible refine quiet_plain rfl (fun K hK => ?_)); (focus (apply quiet_val; (focus (intro w' hw; obtain ⟨hcq, hfq⟩ := bcell ((hC.out _).1 hw); go_simp; (first | done | rfl))); (simp only [Act.put, List.setIfInBounds_toArray, List.set_cons_succ, List.set_cons_zero]); (with_reducible refine hK _ ?_); clear hK K)))
    | ((with_reducible refine quiet_skip ?_ ?_); (focus (first | (simp [Region.wanted, yielded]; done) | (simp [Region.wanted, yielded, undef]; done))); simp only [Act.put, List.setIfInBounds_toArray, List.set_cons_succ, List.set_cons_zero])
    | ((with_reducible refine quiet_go ?_ (fun K hK => ?_)); (focus (first | (simp [Region.wanted, yielded]; done) | (simp [Region.wanted, yielded, undef]; done))); (focus (apply quiet_val; (focus (intro w' hw; obtain ⟨hcq, hfq⟩ := bcell ((hC.out _).1 hw); go_simp; (first | done | rfl))); (simp only [Act.put, List.setIfInBounds_toArray, List.set_cons_succ, List.set_cons_zero]); (with_reducible refine hK _ ?_); clear hK K))))
  refine wpQuiet_nil ?_
  intro w1 hb1
  replace hb1 := (hC.out _).1 hb1
  clear hC C
  obtain ⟨hc1, hf1⟩ := bcell hb1
  have P3 := P2.past hb1; have S3 := pt S2 hb1
  clear hb1 hc1 hf1 P2 S2 p0 p1 p2 pl
  obtain ⟨v3, rfl⟩ : ∃ v, v = w1 := ⟨_, rfl⟩
  have p0 := P3.cellAt 0 rfl; have p1 := P3.cellAt 1 rfl; have p2 := P3.cellAt 2 rfl; have pl := P3.lt
  go_wp2
  go_ret
  exact ⟨rfl, S3⟩

set_option maxHeartbeats 4000000 in
set_option maxRecDepth 100000 in
theorem refIsPerm_9 (a b c : Int) (h0 : ¬ a < 0) (h1 : ¬ 2 < a) (h2 : ¬ a = b) (h3 : ¬ b < 0) (h4 : ¬ 2 < b) (h5 : ¬ b = c) (h6 : ¬ c < 0) (h7 : ¬ 2 < c) (h8 : ¬ c = a) (w : World) :
    Calls Tryd.prog 45 #[.agg #[.int .i64 a, .int .i64 b, .int .i64 c]] w fun e w' => e = .returned (.bool true) ∧ Below w.heap.size w w' := by
  have z1 : IntKind.i64.wrap 1 = 1 := by decide
  have z2 : IntKind.i64.wrap 2 = 2 := by decide
  have z3 : IntKind.i64.wrap 3 = 3 := by decide
  have g0 : decide (a < 0) = false := by simpa using h0
  have f0 : (a < 0) = False := by simpa using h0
  have g1 : decide (2 < a) = false := by simpa using h1
  have f1 : (2 < a) = False := by simpa using h1
  have g2 : (a == b) = false := by simpa using h2
  have g3 : decide (b < 0) = false := by simpa using h3
  have f3 : (b < 0) = False := by simpa using h3
  have g4 : decide (2 < b) = false := by simpa using h4
  have f4 : (2 < b) = False := by simpa using h4
  have g5 : (b == c) = false := by simpa using h5
  have g6 : decide (c < 0) = false := by simpa using h6
  have f6 : (c < 0) = False := by simpa using h6
  have g7 : decide (2 < c) = false := by simpa using h7
  have f7 : (2 < c) = False := by simpa using h7
  have g8 : (c == a) = false := by simpa using h8
  go_enter Tryd.func45, Tryd.ntmps45
  go_wp2
  have P0 : Blk (w.alloc (.cells #[.int .i64 a, .int .i64 b, .int .i64 c] 36)) w.heap.size 36 #[.int .i64 a, .int .i64 b, .int .i64 c] := Blk.newAt rfl
  have S0 : Below w.heap.size w (w.alloc (.cells #[.int .i64 a, .int .i64 b, .int .i64 c] 36)) := pa pr
  generalize w.alloc (.cells #[.int .i64 a, .int .i64 b, .int .i64 c] 36) = v0 at *
  have p0 := P0.cellAt 0 rfl; have p1 := P0.cellAt 1 rfl; have p2 := P0.cellAt 2 rfl; have pl := P0.lt
  refine wp_loop_rounds 4 ?_
  rw [rounds_succ]
  go_wp2
  refine region_below 20 follows_mixed (by kernel_rfl) ?_
  intro C hC
  simp only [List.take_succ_cons, List.take_zero, List.drop_succ_cons, List.drop_zero]
  repeat (first
    | ((with_reducible refine quiet_plain rfl (fun K hK => ?_)); (focus (apply quiet_val; (focus (intro w' hw; obtain ⟨hcq, hfq⟩ := bcell ((hC.out _).1 hw); go_simp; (first | done | rfl))); (simp only [Act.put, List.setIfInBounds_toArray, List.set_cons_succ, List.set_cons_zero]); (with_reducible refine hK _ ?_); clear hK K)))
    | ((with_reducible refine quiet_skip ?_ ?_); (focus (first | (simp [Region.wanted, yielded]; done) | (simp [Region.wanted, yielded, undef]; done))); simp only [Act.put, List.setIfInBounds_toArray, List.set_cons_succ, List.set_cons_zero])
    | ((with_reducible refine quiet_go ?_ (fun K hK => ?_)); (focus (first | (simp [Region.wanted, yielded]; done) | (simp [Region.wanted, yielded, undef]; done))); (focus (apply quiet_val; (focus (intro w' hw; obtain ⟨hcq, hfq⟩ := bcell ((hC.out _).1 hw); go_simp; (first | done | rfl))); (simp only [Act.put, List.setIfInBounds_toArray, List.set_cons_succ, List.set_cons_zero]); (with_reducible refine hK _ ?_); clear hK K))))
  refine wpQuiet_nil ?_
  intro w1 hb1
  replace hb1 := (hC.out _).1 hb1
  clear hC C
  obtain ⟨hc1, hf1⟩ := bcell hb1
  have P1 := P0.past hb1; have S1 := pt S0 hb1
  clear hb1 hc1 hf1 P0 S0 p0 p1 p2 pl
  obtain ⟨v1, rfl⟩ : ∃ v, v = w1 := ⟨_, rfl⟩
  have p0 := P1.cellAt 0 rfl; have p1 := P1.cellAt 1 rfl; have p2 := P1.cellAt 2 rfl; have pl := P1.lt
  go_wp2
  rw [rounds_succ]
  go_wp2
  refine region_below 20 follows_mixed (by kernel_rfl) ?_
  intro C hC
  simp only [List.take_succ_cons, List.take_zero, List.drop_succ_cons, List.drop_zero]
  repeat (first
    | ((with_reducible refine quiet_plain rfl (fun K hK => ?_)); (focus (apply quiet_val; (focus (intro w' hw; obtain ⟨hcq, hfq⟩ := bcell ((hC.out _).1 hw); go_simp; (first | done | rfl))); (simp only [Act.put, List.setIfInBounds_toArray, List.set_cons_succ, List.set_cons_zero]); (with_reducible refine hK _ ?_); clear hK K)))
    | ((with_reducible refine quiet_skip ?_ ?_); (focus (first | (simp [Region.wanted, yielded]; done) | (simp [Region.wanted, yielded, undef]; done))); simp only [Act.put, List.setIfInBounds_toArray, List.set_cons_succ, List.set_cons_zero])
    | ((with_reducible refine quiet_go ?_ (fun K hK => ?_)); (focus (first | (simp [Region.wanted, yielded]; done) | (simp [Region.wanted, yielded, undef]; done))); (focus (apply quiet_val; (focus (intro w' hw; obtain ⟨hcq, hfq⟩ := bcell ((hC.out _).1 hw); go_simp; (first | done | rfl))); (simp only [Act.put, List.setIfInBounds_toArray, List.set_cons_succ, List.set_cons_zero]); (with_reducible refine hK _ ?_); clear hK K))))
  refine wpQuiet_nil ?_
  intro w1 hb1
  replace hb1 := (hC.out _).1 hb1
  clear hC C
  obtain ⟨hc1, hf1⟩ := bcell hb1
  have P2 := P1.past hb1; have S2 := pt S1 hb1
  clear hb1 hc1 hf1 P1 S1 p0 p1 p2 pl
  obtain ⟨v2, rfl⟩ : ∃ v, v = w1 := ⟨_, rfl⟩
  have p0 := P2.cellAt 0 rfl; have p1 := P2.cellAt 1 rfl; have p2 := P2.cellAt 2 rfl; have pl := P2.lt
  go_wp2
  rw [rounds_succ]
  go_wp2
  refine region_below 20 follows_mixed (by kernel_rfl) ?_
  intro C hC
  simp only [List.take_succ_cons, List.take_zero, List.drop_succ_cons, List.drop_zero]
  repeat (first
    | ((with_reducible refine quiet_plain rfl (fun K hK => ?_)); (focus (apply quiet_val; (focus (intro w' hw; obtain ⟨hcq, hfq⟩ := bcell ((hC.out _).1 hw); go_simp; (first | done | rfl))); (simp only [Act.put, List.setIfInBounds_toArray, List.set_cons_succ, List.set_cons_zero]); (with_reducible refine hK _ ?_); clear hK K)))
    | ((with_reducible refine quiet_skip ?_ ?_); (focus (first | (simp [Region.wanted, yielded]; done) | (simp [Region.wanted, yielded, undef]; done))); simp only [Act.put, List.setIfInBounds_toArray, List.set_cons_succ, List.set_cons_zero])
    | ((with_reducible refine quiet_go ?_ (fun K hK => ?_)); (focus (first | (simp [Region.wanted, yielded]; done) | (simp [Region.wanted, yielded, undef]; done))); (focus (apply quiet_val; (focus (intro w' hw; obtain ⟨hcq, hfq⟩ := bcell ((hC.out _).1 hw); go_simp; (first | done | rfl))); (simp only [Act.put, List.setIfInBounds_toArray, List.set_cons_succ, List.set_cons_zero]); (with_reducible refine hK _ ?_); clear hK K))))
  refine wpQuiet_nil ?_
  intro w1 hb1
  replace hb1 := (hC.out _).1 hb1
  clear hC C
  obtain ⟨hc1, hf1⟩ := bcell hb1
  have P3 := P2.past hb1; have S3 := pt S2 hb1
  clear hb1 hc1 hf1 P2 S2 p0 p1 p2 pl
  obtain ⟨v3, rfl⟩ : ∃ v, v = w1 := ⟨_, rfl⟩
  have p0 := P3.cellAt 0 rfl; have p1 := P3.cellAt 1 rfl; have p2 := P3.cellAt 2 rfl; have pl := P3.lt
  go_wp2
  rw [rounds_succ]
  go_wp2
  go_ret
  exact ⟨rfl, S3⟩

theorem refIsPermutation_any (a b c : Int) (w : World) :
    Calls Tryd.prog 45 #[.agg #[.int .i64 a, .int .i64 b, .int .i64 c]] w fun e w' => e = .returned (.bool (isPerm ⟨a, b, c⟩)) ∧ Below w.heap.size w w' := by
  have no : ∀ P : Prop, (∀ x y z : Int, (x = 0 ∧ y = 1 ∧ z = 2 ∨ x = 0 ∧ y = 2 ∧ z = 1 ∨ x = 1 ∧ y = 0 ∧ z = 2 ∨ x = 1 ∧ y = 2 ∧ z = 0 ∨ x = 2 ∧ y = 0 ∧ z = 1 ∨ x = 2 ∧ y = 1 ∧ z = 0) → x = a → y = b → z = c → False) → isPerm ⟨a, b, c⟩ = false := fun _ h => by
    cases hp : isPerm ⟨a, b, c⟩
    · rfl
    · exfalso
      have h2 := isPerm_cases hp
      simp only [V3.mk.injEq] at h2
      exact h a b c h2 rfl rfl rfl
  by_cases h0 : a < 0
  · rw [no True (fun x y z h e1 e2 e3 => by omega)]; exact refIsPerm_0 a b c h0 w
  by_cases h1 : 2 < a
  · rw [no True (fun x y z h e1 e2 e3 => by omega)]; exact refIsPerm_1 a b c h0 h1 w
  by_cases h2 : a = b
  · rw [no True (fun x y z h e1 e2 e3 => by omega)]; exact refIsPerm_2 a b c h0 h1 h2 w
  by_cases h3 : b < 0
  · rw [no True (fun x y z h e1 e2 e3 => by omega)]; exact refIsPerm_3 a b c h0 h1 h2 h3 w
  by_cases h4 : 2 < b
  · rw [no True (fun x y z h e1 e2 e3 => by omega)]; exact refIsPerm_4 a b c h0 h1 h2 h3 h4 w
  by_cases h5 : b = c
  · rw [no True (fun x y z h e1 e2 e3 => by omega)]; exact refIsPerm_5 a b c h0 h1 h2 h3 h4 h5 w
  by_cases h6 : c < 0
  · rw [no True (fun x y z h e1 e2 e3 => by omega)]; exact refIsPerm_6 a b c h0 h1 h2 h3 h4 h5 h6 w
  by_cases h7 : 2 < c
  · rw [no True (fun x y z h e1 e2 e3 => by omega)]; exact refIsPerm_7 a b c h0 h1 h2 h3 h4 h5 h6 h7 w
  by_cases h8 : c = a
  · rw [no True (fun x y z h e1 e2 e3 => by omega)]; exact refIsPerm_8 a b c h0 h1 h2 h3 h4 h5 h6 h7 h8 w
  have hp : isPerm ⟨a, b, c⟩ = true := by
    rcases (by omega : (a = 0 ∧ b = 1 ∧ c = 2) ∨ (a = 0 ∧ b = 2 ∧ c = 1) ∨ (a = 1 ∧ b = 0 ∧ c = 2) ∨ (a = 1 ∧ b = 2 ∧ c = 0) ∨ (a = 2 ∧ b = 0 ∧ c = 1) ∨ (a = 2 ∧ b = 1 ∧ c = 0)) with ⟨rfl, rfl, rfl⟩ | ⟨rfl, rfl, rfl⟩ | ⟨rfl, rfl, rfl⟩ | ⟨rfl, rfl, rfl⟩ | ⟨rfl, rfl, rfl⟩ | ⟨rfl, rfl, rfl⟩ <;> decide
  rw [hp]
  exact refIsPerm_9 a b c h0 h1 h2 h3 h4 h5 h6 h7 h8 w

theorem refRenamed_any (x1 x2 x3 x4 x5 x6 x7 x8 x9 a b c : Int) (hp : isPerm ⟨a, b, c⟩ = true) (he : lineE x1 x2 x3 x4 x5 x6 x7 x8 x9 = 0) (M : L3) (hM : renV (⟨⟨x1, x2, x3⟩, ⟨x4, x5, x6⟩, ⟨x7, x8, x9⟩⟩ : L3) ⟨a, b, c⟩ = M) (w : World) :
    Calls Tryd.prog 46 #[.agg #[.int .i64 x1, .int .i64 x2, .int .i64 x3, .int .i64 x4, .int .i64 x5, .int .i64 x6, .int .i64 x7, .int .i64 x8, .int .i64 x9], .agg #[.int .i64 a, .int .i64 b, .int .i64 c]] w fun e w' => e = .returned (.agg #[.int .i64 M.x.a, .int .i64 M.x.b, .int .i64 M.x.c, .int .i64 M.y.a, .int .i64 M.y.b, .int .i64 M.y.c, .int .i64 M.z.a, .int .i64 M.z.b, .int .i64 M.z.c]) ∧ Below w.heap.size w w' := by
  obtain ⟨h1, h2, h3, h4, h5, h6, h7, h8, h9⟩ := lineE_sm he
  subst hM
  rcases isPerm_cases hp with h | h | h | h | h | h
  all_goals
    injection h with ha hb hc
    subst ha hb hc
  · have h := refRenamed_012 x1 x2 x3 x4 x5 x6 x7 x8 x9 w (neg_wrap h1) (neg_wrap h2) (neg_wrap h3) (neg_wrap h4) (neg_wrap h5) (neg_wrap h6) (neg_wrap h7) (neg_wrap h8) (neg_wrap h9)
    simpa [renV, voltV, rowAt, negV] using h
  · have h := refRenamed_021 x1 x2 x3 x4 x5 x6 x7 x8 x9 w (neg_wrap h1) (neg_wrap h2) (neg_wrap h3) (neg_wrap h4) (neg_wrap h5) (neg_wrap h6) (neg_wrap h7) (neg_wrap h8) (neg_wrap h9)
    simpa [renV, voltV, rowAt, negV] using h
  · have h := refRenamed_102 x1 x2 x3 x4 x5 x6 x7 x8 x9 w (neg_wrap h1) (neg_wrap h2) (neg_wrap h3) (neg_wrap h4) (neg_wrap h5) (neg_wrap h6) (neg_wrap h7) (neg_wrap h8) (neg_wrap h9)
    simpa [renV, voltV, rowAt, negV] using h
  · have h := refRenamed_120 x1 x2 x3 x4 x5 x6 x7 x8 x9 w (neg_wrap h1) (neg_wrap h2) (neg_wrap h3) (neg_wrap h4) (neg_wrap h5) (neg_wrap h6) (neg_wrap h7) (neg_wrap h8) (neg_wrap h9)
    simpa [renV, voltV, rowAt, negV] using h
  · have h := refRenamed_201 x1 x2 x3 x4 x5 x6 x7 x8 x9 w (neg_wrap h1) (neg_wrap h2) (neg_wrap h3) (neg_wrap h4) (neg_wrap h5) (neg_wrap h6) (neg_wrap h7) (neg_wrap h8) (neg_wrap h9)
    simpa [renV, voltV, rowAt, negV] using h
  · have h := refRenamed_210 x1 x2 x3 x4 x5 x6 x7 x8 x9 w (neg_wrap h1) (neg_wrap h2) (neg_wrap h3) (neg_wrap h4) (neg_wrap h5) (neg_wrap h6) (neg_wrap h7) (neg_wrap h8) (neg_wrap h9)
    simpa [renV, voltV, rowAt, negV] using h

end Go.Proofs.YtnhcamokcggnkaaDoor
