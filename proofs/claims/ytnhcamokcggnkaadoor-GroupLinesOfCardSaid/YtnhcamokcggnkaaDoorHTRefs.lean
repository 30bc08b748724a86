/- Contracts of the specification: the error of lines, permutations, the voltage between terminals, renamed lines; the sequence of lines whole. Printed by a program (gen_reflo.py). -/
import Derived.Test.YtnhcamokcggnkaaDoorHSSeq
import Derived.Test.YtnhcamokcggnkaaDoorHBRen
namespace Go.Proofs.YtnhcamokcggnkaaDoor
open Go.RowKit
attribute [local go_sem ↓] Go.wp_at_zero Go.wp_at_succ

theorem sm_zero : Sm 1000000 0 ∧ Sm 1000000 1 ∧ Sm 1000000 (-1) := by unfold Sm; decide
theorem refSequence_any (x1 x2 x3 x4 x5 x6 x7 x8 x9 : Int) (he : lineE x1 x2 x3 x4 x5 x6 x7 x8 x9 = 0) (w : World) :
    Calls Tryd.prog 43 #[.agg #[.int .i64 x1, .int .i64 x2, .int .i64 x3, .int .i64 x4, .int .i64 x5, .int .i64 x6, .int .i64 x7, .int .i64 x8, .int .i64 x9]] w fun e w' => e = .returned (.tuple #[.int .i64 (if phB (x1 - x2) (x3 - x2) 0 0 = true then 0 else seqV ⟨⟨x1, x2, x3⟩, ⟨x4, x5, x6⟩, ⟨x7, x8, x9⟩⟩), .int .i64 (if phB (x1 - x2) (x3 - x2) 0 0 = true then 11 else unlessV (seqV ⟨⟨x1, x2, x3⟩, ⟨x4, x5, x6⟩, ⟨x7, x8, x9⟩⟩ != 0) 12)]) ∧ Below w.heap.size w w' := by
  obtain ⟨h1, h2, h3, h4, h5, h6, h7, h8, h9⟩ := lineE_sm he
  have sp : ∀ a b, Sm 10000 a → Sm 10000 b → Sm 1000000 (a - b) := fun a b ha hb => by unfold Sm at *; omega
  have fa := refPhasor3_any x1 x2 x3 h1 h2 h3
  have fb := refPhasor3_any x4 x5 x6 h4 h5 h6
  have fc := refPhasor3_any x7 x8 x9 h7 h8 h9
  have m1 := refProduct_any (x1 - x2) (x3 - x2) (-1) (-1) (sp _ _ h1 h2) (sp _ _ h3 h2) sm_zero.2.2 sm_zero.2.2
  have m2 := refProduct_any (x4 - x5) (x6 - x5) (-1) (-1) (sp _ _ h4 h5) (sp _ _ h6 h5) sm_zero.2.2 sm_zero.2.2
  have m3 := refProduct_any (x1 - x2) (x3 - x2) 0 1 (sp _ _ h1 h2) (sp _ _ h3 h2) sm_zero.1 sm_zero.2.1
  have m4 := refProduct_any (x4 - x5) (x6 - x5) 0 1 (sp _ _ h4 h5) (sp _ _ h6 h5) sm_zero.1 sm_zero.2.1
  have e1 : ∀ a b : Int, (mulP a b (-1) (-1), mulQ a b (-1) (-1)) = turn2 (a, b) := fun a b => by simp only [mulP, mulQ, turn2, turn1, Prod.mk.injEq]; omega
  have e2 : ∀ a b : Int, (mulP a b 0 1, mulQ a b 0 1) = turn1 (a, b) := fun a b => by simp only [mulP, mulQ, turn1, Prod.mk.injEq]; omega
  have hq : seqV ⟨⟨x1, x2, x3⟩, ⟨x4, x5, x6⟩, ⟨x7, x8, x9⟩⟩ = seqF (phB (x4 - x5) (x6 - x5) (mulP (x1 - x2) (x3 - x2) (-1) (-1)) (mulQ (x1 - x2) (x3 - x2) (-1) (-1))) (phB (x7 - x8) (x9 - x8) (mulP (x4 - x5) (x6 - x5) (-1) (-1)) (mulQ (x4 - x5) (x6 - x5) (-1) (-1)))
      (phB (x4 - x5) (x6 - x5) (mulP (x1 - x2) (x3 - x2) 0 1) (mulQ (x1 - x2) (x3 - x2) 0 1)) (phB (x7 - x8) (x9 - x8) (mulP (x4 - x5) (x6 - x5) 0 1) (mulQ (x4 - x5) (x6 - x5) 0 1)) := by
    unfold seqV seqF phV phP phQ
    rw [← e1, ← e1, ← e2, ← e2]
    simp only [Bool.and_eq_true, phB_iff]
  rw [hq]
  cases hz : phB (x1 - x2) (x3 - x2) 0 0
  · rw [if_neg (by decide), if_neg (by decide)]
    cases hA : phB (x4 - x5) (x6 - x5) (mulP (x1 - x2) (x3 - x2) (-1) (-1)) (mulQ (x1 - x2) (x3 - x2) (-1) (-1)) <;>
    cases hB : phB (x7 - x8) (x9 - x8) (mulP (x4 - x5) (x6 - x5) (-1) (-1)) (mulQ (x4 - x5) (x6 - x5) (-1) (-1)) <;>
    cases hC : phB (x4 - x5) (x6 - x5) (mulP (x1 - x2) (x3 - x2) 0 1) (mulQ (x1 - x2) (x3 - x2) 0 1) <;>
    cases hD : phB (x7 - x8) (x9 - x8) (mulP (x4 - x5) (x6 - x5) 0 1) (mulQ (x4 - x5) (x6 - x5) 0 1) <;>
    first
      | exact refSeq_one _ _ _ _ _ _ _ _ _ _ _ _ _ _ _ _ _ _ _ _ _ _ _ fa fb fc m1 m2 m3 m4 hz hA hB w
      | exact refSeq_tf_tt _ _ _ _ _ _ _ _ _ _ _ _ _ _ _ _ _ _ _ _ _ _ _ fa fb fc m1 m2 m3 m4 hz hA hB hC hD w
      | exact refSeq_tf_tf _ _ _ _ _ _ _ _ _ _ _ _ _ _ _ _ _ _ _ _ _ _ _ fa fb fc m1 m2 m3 m4 hz hA hB hC hD w
      | exact refSeq_tf_f _ _ _ _ _ _ _ _ _ _ _ _ _ _ _ _ _ _ _ _ _ _ _ fa fb fc m1 m2 m3 m4 hz hA hB hC w
      | exact refSeq_f_tt _ _ _ _ _ _ _ _ _ _ _ _ _ _ _ _ _ _ _ _ _ _ _ fa fb fc m1 m2 m3 m4 hz hA hC hD w
      | exact refSeq_f_tf _ _ _ _ _ _ _ _ _ _ _ _ _ _ _ _ _ _ _ _ _ _ _ fa fb fc m1 m2 m3 m4 hz hA hC hD w
      | exact refSeq_f_f _ _ _ _ _ _ _ _ _ _ _ _ _ _ _ _ _ _ _ _ _ _ _ fa fb fc m1 m2 m3 m4 hz hA hC w
  · rw [if_pos rfl, if_pos rfl]
    exact refSeq_zero _ _ _ _ _ _ _ _ _ _ _ _ _ _ _ _ _ _ _ _ _ _ _ fa fb fc m1 m2 m3 m4 hz w

set_option maxHeartbeats 8000000 in
set_option maxRecDepth 100000 in
theorem refLinesErr_any (x1 x2 x3 x4 x5 x6 x7 x8 x9 : Int) (w : World) :
    Calls Tryd.prog 41 #[.agg #[.int .i64 x1, .int .i64 x2, .int .i64 x3, .int .i64 x4, .int .i64 x5, .int .i64 x6, .int .i64 x7, .int .i64 x8, .int .i64 x9]] w fun e w' => e = .returned (.int .i64 (lineE x1 x2 x3 x4 x5 x6 x7 x8 x9)) ∧ Below w.heap.size w w' := by
  obtain ⟨E, hE⟩ : ∃ E, lineE x1 x2 x3 x4 x5 x6 x7 x8 x9 = E := ⟨_, rfl⟩
  rw [hE]
  have HE := Lib.hid hE
  clear hE
  go_enter Tryd.func41, Tryd.ntmps41
  go_wp2
  refine wp_loop_rounds 4 ?_
  rw [rounds_succ]
  go_wp2
  refine wp_loop_rounds 4 ?_
  rw [rounds_succ]
  have c0 := refWithin_any x1 (-10000) 10000
  cases W0 : withinB x1 (-10000) 10000
  · rw [W0] at c0
    have C := Lib.hid c0
    clear c0
    go_wp2_with (go_at_call 32; (with_reducible refine (C.out _).mono ?_); rintro e w' ⟨rfl, rfl⟩)
    go_ret
    exact ⟨ret_int (by rw [← HE.out]; simp [lineE, great3, W0]), pa pr⟩
  rw [W0] at c0
  have C0 := Lib.hid c0
  clear c0
  go_wp2_with (go_at_call 32; (with_reducible refine (C0.out _).mono ?_); rintro e w' ⟨rfl, rfl⟩)
  clear C0
  rw [rounds_succ]
  have c1 := refWithin_any x2 (-10000) 10000
  cases W1 : withinB x2 (-10000) 10000
  · rw [W1] at c1
    have C := Lib.hid c1
    clear c1
    go_wp2_with (go_at_call 32; (with_reducible refine (C.out _).mono ?_); rintro e w' ⟨rfl, rfl⟩)
    go_ret
    exact ⟨ret_int (by rw [← HE.out]; simp [lineE, great3, W0, W1]), pa pr⟩
  rw [W1] at c1
  have C1 := Lib.hid c1
  clear c1
  go_wp2_with (go_at_call 32; (with_reducible refine (C1.out _).mono ?_); rintro e w' ⟨rfl, rfl⟩)
  clear C1
  rw [rounds_succ]
  have c2 := refWithin_any x3 (-10000) 10000
  cases W2 : withinB x3 (-10000) 10000
  · rw [W2] at c2
    have C := Lib.hid c2
    clear c2
    go_wp2_with (go_at_call 32; (with_reducible refine (C.out _).mono ?_); rintro e w' ⟨rfl, rfl⟩)
    go_ret
    exact ⟨ret_int (by rw [← HE.out]; simp [lineE, great3, W0, W1, W2]), pa pr⟩
  rw [W2] at c2
  have C2 := Lib.hid c2
  clear c2
  go_wp2_with (go_at_call 32; (with_reducible refine (C2.out _).mono ?_); rintro e w' ⟨rfl, rfl⟩)
  clear C2
  rw [rounds_succ]
  go_wp2
  rw [rounds_succ]
  go_wp2
  refine wp_loop_rounds 4 ?_
  rw [rounds_succ]
  have c3 := refWithin_any x4 (-10000) 10000
  cases W3 : withinB x4 (-10000) 10000
  · rw [W3] at c3
    have C := Lib.hid c3
    clear c3
    go_wp2_with (go_at_call 32; (with_reducible refine (C.out _).mono ?_); rintro e w' ⟨rfl, rfl⟩)
    go_ret
    exact ⟨ret_int (by rw [← HE.out]; simp [lineE, great3, W0, W1, W2, W3]), pa pr⟩
  rw [W3] at c3
  have C3 := Lib.hid c3
  clear c3
  go_wp2_with (go_at_call 32; (with_reducible refine (C3.out _).mono ?_); rintro e w' ⟨rfl, rfl⟩)
  clear C3
  rw [rounds_succ]
  have c4 := refWithin_any x5 (-10000) 10000
  cases W4 : withinB x5 (-10000) 10000
  · rw [W4] at c4
    have C := Lib.hid c4
    clear c4
    go_wp2_with (go_at_call 32; (with_reducible refine (C.out _).mono ?_); rintro e w' ⟨rfl, rfl⟩)
    go_ret
    exact ⟨ret_int (by rw [← HE.out]; simp [lineE, great3, W0, W1, W2, W3, W4]), pa pr⟩
  rw [W4] at c4
  have C4 := Lib.hid c4
  clear c4
  go_wp2_with (go_at_call 32; (with_reducible refine (C4.out _).mono ?_); rintro e w' ⟨rfl, rfl⟩)
  clear C4
  rw [rounds_succ]
  have c5 := refWithin_any x6 (-10000) 10000
  cases W5 : withinB x6 (-10000) 10000
  · rw [W5] at c5
    have C := Lib.hid c5
    clear c5
    go_wp2_with (go_at_call 32; (with_reducible refine (C.out _).mono ?_); rintro e w' ⟨rfl, rfl⟩)
    go_ret
    exact ⟨ret_int (by rw [← HE.out]; simp [lineE, great3, W0, W1, W2, W3, W4, W5]), pa pr⟩
  rw [W5] at c5
  have C5 := Lib.hid c5
  clear c5
  go_wp2_with (go_at_call 32; (with_reducible refine (C5.out _).mono ?_); rintro e w' ⟨rfl, rfl⟩)
  clear C5
  rw [rounds_succ]
  go_wp2
  rw [rounds_succ]
  go_wp2
  refine wp_loop_rounds 4 ?_
  rw [rounds_succ]
  have c6 := refWithin_any x7 (-10000) 10000
  cases W6 : withinB x7 (-10000) 10000
  · rw [W6] at c6
    have C := Lib.hid c6
    clear c6
    go_wp2_with (go_at_call 32; (with_reducible refine (C.out _).mono ?_); rintro e w' ⟨rfl, rfl⟩)
    go_ret
    exact ⟨ret_int (by rw [← HE.out]; simp [lineE, great3, W0, W1, W2, W3, W4, W5, W6]), pa pr⟩
  rw [W6] at c6
  have C6 := Lib.hid c6
  clear c6
  go_wp2_with (go_at_call 32; (with_reducible refine (C6.out _).mono ?_); rintro e w' ⟨rfl, rfl⟩)
  clear C6
  rw [rounds_succ]
  have c7 := refWithin_any x8 (-10000) 10000
  cases W7 : withinB x8 (-10000) 10000
  · rw [W7] at c7
    have C := Lib.hid c7
    clear c7
    go_wp2_with (go_at_call 32; (with_reducible refine (C.out _).mono ?_); rintro e w' ⟨rfl, rfl⟩)
    go_ret
    exact ⟨ret_int (by rw [← HE.out]; simp [lineE, great3, W0, W1, W2, W3, W4, W5, W6, W7]), pa pr⟩
  rw [W7] at c7
  have C7 := Lib.hid c7
  clear c7
  go_wp2_with (go_at_call 32; (with_reducible refine (C7.out _).mono ?_); rintro e w' ⟨rfl, rfl⟩)
  clear C7
  rw [rounds_succ]
  have c8 := refWithin_any x9 (-10000) 10000
  cases W8 : withinB x9 (-10000) 10000
  · rw [W8] at c8
    have C := Lib.hid c8
    clear c8
    go_wp2_with (go_at_call 32; (with_reducible refine (C.out _).mono ?_); rintro e w' ⟨rfl, rfl⟩)
    go_ret
    exact ⟨ret_int (by rw [← HE.out]; simp [lineE, great3, W0, W1, W2, W3, W4, W5, W6, W7, W8]), pa pr⟩
  rw [W8] at c8
  have C8 := Lib.hid c8
  clear c8
  go_wp2_with (go_at_call 32; (with_reducible refine (C8.out _).mono ?_); rintro e w' ⟨rfl, rfl⟩)
  clear C8
  rw [rounds_succ]
  go_wp2
  rw [rounds_succ]
  go_wp2
  go_ret
  exact ⟨ret_int (by rw [← HE.out]; simp [lineE, great3, W0, W1, W2, W3, W4, W5, W6, W7, W8]), pa pr⟩

set_option maxHeartbeats 4000000 in
set_option maxRecDepth 100000 in
theorem voltage_01 (x1 x2 x3 x4 x5 x6 x7 x8 x9 : Int) (w : World)
    (n1 : IntKind.i64.wrap (-x1) = -x1)
    (n2 : IntKind.i64.wrap (-x2) = -x2)
    (n3 : IntKind.i64.wrap (-x3) = -x3)
    (n4 : IntKind.i64.wrap (-x4) = -x4)
    (n5 : IntKind.i64.wrap (-x5) = -x5)
    (n6 : IntKind.i64.wrap (-x6) = -x6)
    (n7 : IntKind.i64.wrap (-x7) = -x7)
    (n8 : IntKind.i64.wrap (-x8) = -x8)
    (n9 : IntKind.i64.wrap (-x9) = -x9)
    : Calls Tryd.prog 81 #[.agg #[.int .i64 x1, .int .i64 x2, .int .i64 x3, .int .i64 x4, .int .i64 x5, .int .i64 x6, .int .i64 x7, .int .i64 x8, .int .i64 x9], .int .i64 0, .int .i64 1] w fun e w' => e = .returned (.agg #[.int .i64 x1, .int .i64 x2, .int .i64 x3]) ∧ Below w.heap.size w w' := by
  have z1 : IntKind.i64.wrap 1 = 1 := by decide
  have z2 : IntKind.i64.wrap 2 = 2 := by decide
  have z3 : IntKind.i64.wrap 3 = 3 := by decide
  go_enter Tryd.func81, Tryd.ntmps81
  go_wp2
  exact bodyPost_ret (v := .agg #[.int .i64 x1, .int .i64 x2, .int .i64 x3]) (by simp [results, Tryd.results81, go_sem]) rfl ⟨rfl, by repeat (first | exact pr | refine pa ?_)⟩

set_option maxHeartbeats 4000000 in
set_option maxRecDepth 100000 in
theorem voltage_02 (x1 x2 x3 x4 x5 x6 x7 x8 x9 : Int) (w : World)
    (n1 : IntKind.i64.wrap (-x1) = -x1)
    (n2 : IntKind.i64.wrap (-x2) = -x2)
    (n3 : IntKind.i64.wrap (-x3) = -x3)
    (n4 : IntKind.i64.wrap (-x4) = -x4)
    (n5 : IntKind.i64.wrap (-x5) = -x5)
    (n6 : IntKind.i64.wrap (-x6) = -x6)
    (n7 : IntKind.i64.wrap (-x7) = -x7)
    (n8 : IntKind.i64.wrap (-x8) = -x8)
    (n9 : IntKind.i64.wrap (-x9) = -x9)
    : Calls Tryd.prog 81 #[.agg #[.int .i64 x1, .int .i64 x2, .int .i64 x3, .int .i64 x4, .int .i64 x5, .int .i64 x6, .int .i64 x7, .int .i64 x8, .int .i64 x9], .int .i64 0, .int .i64 2] w fun e w' => e = .returned (.agg #[.int .i64 (-x7), .int .i64 (-x8), .int .i64 (-x9)]) ∧ Below w.heap.size w w' := by
  have z1 : IntKind.i64.wrap 1 = 1 := by decide
  have z2 : IntKind.i64.wrap 2 = 2 := by decide
  have z3 : IntKind.i64.wrap 3 = 3 := by decide
  go_enter Tryd.func81, Tryd.ntmps81
  go_wp2
  refine region_below 16 follows_mixed (by kernel_rfl) ?_
  intro C hC
  simp only [List.take_succ_cons, List.take_zero, List.drop_succ_cons, List.drop_zero]
  repeat (first
    | ((with_reducible refine quiet_plain rfl (fun K hK => ?_)); (focus (apply quiet_val; (focus (intro w' hw; obtain ⟨hcq, hfq⟩ := bcell ((hC.out _).1 hw); go_simp; (first | done | rfl))); (simp only [Act.put, List.setIfInBounds_toArray, List.set_cons_succ, List.set_cons_zero]); (with_reducible refine hK _ ?_); clear hK K)))
    | ((with_reducible refine quiet_skip ?_ ?_); (focus (first | (simp [Region.wanted, yielded]; done) | (simp [Region.wanted, yielded, undef]; done))); simp only [Act.put, List.setIfInBounds_toArray, List.set_cons_succ, List.set_cons_zero])
    | ((with_reducible refine quiet_go ?_ (fun K hK => ?_)); (focus (first | (simp [Region.wanted, yielded]; done) | (simp [Region.wanted, yielded, undef]; done))); (focus (apply quiet_val; (focus (intro w' hw; obtain ⟨hcq, hfq⟩ := bcell ((hC.out _).1 hw); go_simp; (first | done | rfl))); (simp only [Act.put, List.setIfInBounds_toArray, List.set_cons_succ, List.set_cons_zero]); (with_reducible refine hK _ ?_); clear hK K))))
  refine wpQuiet_nil ?_
  intro w1 hb1
  replace hb1 := (hC.out _).1 hb1
  clear hC C
  obtain ⟨hc1, hf1⟩ := bcell hb1
  have R2 : Blk w1 (w.heap.size + 1) 36 #[.int .i64 0, .int .i64 0, .int .i64 0] := (Blk.newAt (by simp)).past hb1
  have S2 := pt (pa (pa pr)) hb1
  clear hc1 hf1 hb1
  go_wp2_with ((with_reducible refine store_blk (T := 36) (x := .tmp 6) (y := .tmp 30) (vs := #[.int .i64 (-x7), .int .i64 (-x8), .int .i64 (-x9)]) R2 ?_ ?_ ?_ ?_ ?_ ?_); (focus rfl); (focus exact three_size); (focus (simp [Value.oneCell']; done)); (focus rfl); (focus rfl); intro W3 R3 F3; have S3 := pp S2 F3 (by omega))
  have g0 := R3.cellAt 0 rfl; have g1 := R3.cellAt 1 rfl; have g2 := R3.cellAt 2 rfl
  exact bodyPost_ret (v := .agg #[.int .i64 (-x7), .int .i64 (-x8), .int .i64 (-x9)]) (by simp [results, Tryd.results81, go_sem, g0, g1, g2]) rfl ⟨rfl, S3⟩

set_option maxHeartbeats 4000000 in
set_option maxRecDepth 100000 in
theorem voltage_10 (x1 x2 x3 x4 x5 x6 x7 x8 x9 : Int) (w : World)
    (n1 : IntKind.i64.wrap (-x1) = -x1)
    (n2 : IntKind.i64.wrap (-x2) = -x2)
    (n3 : IntKind.i64.wrap (-x3) = -x3)
    (n4 : IntKind.i64.wrap (-x4) = -x4)
    (n5 : IntKind.i64.wrap (-x5) = -x5)
    (n6 : IntKind.i64.wrap (-x6) = -x6)
    (n7 : IntKind.i64.wrap (-x7) = -x7)
    (n8 : IntKind.i64.wrap (-x8) = -x8)
    (n9 : IntKind.i64.wrap (-x9) = -x9)
    : Calls Tryd.prog 81 #[.agg #[.int .i64 x1, .int .i64 x2, .int .i64 x3, .int .i64 x4, .int .i64 x5, .int .i64 x6, .int .i64 x7, .int .i64 x8, .int .i64 x9], .int .i64 1, .int .i64 0] w fun e w' => e = .returned (.agg #[.int .i64 (-x1), .int .i64 (-x2), .int .i64 (-x3)]) ∧ Below w.heap.size w w' := by
  have z1 : IntKind.i64.wrap 1 = 1 := by decide
  have z2 : IntKind.i64.wrap 2 = 2 := by decide
  have z3 : IntKind.i64.wrap 3 = 3 := by decide
  go_enter Tryd.func81, Tryd.ntmps81
  go_wp2
  refine region_below 16 follows_mixed (by kernel_rfl) ?_
  intro C hC
  simp only [List.take_succ_cons, List.take_zero, List.drop_succ_cons, List.drop_zero]
  repeat (first
    | ((with_reducible refine quiet_plain rfl (fun K hK => ?_)); (focus (apply quiet_val; (focus (intro w' hw; obtain ⟨hcq, hfq⟩ := bcell ((hC.out _).1 hw); go_simp; (first | done | rfl))); (simp only [Act.put, List.setIfInBounds_toArray, List.set_cons_succ, List.set_cons_zero]); (with_reducible refine hK _ ?_); clear hK K)))
    | ((with_reducible refine quiet_skip ?_ ?_); (focus (first | (simp [Region.wanted, yielded]; done) | (simp [Region.wanted, yielded, undef]; done))); simp only [Act.put, List.setIfInBounds_toArray, List.set_cons_succ, List.set_cons_zero])
    | ((with_reducible refine quiet_go ?_ (fun K hK => ?_)); (focus (first | (simp [Region.wanted, yielded]; done) | (simp [Region.wanted, yielded, undef]; done))); (focus (apply quiet_val; (focus (intro w' hw; obtain ⟨hcq, hfq⟩ := bcell ((hC.out _).1 hw); go_simp; (first | done | rfl))); (simp only [Act.put, List.setIfInBounds_toArray, List.set_cons_succ, List.set_cons_zero]); (with_reducible refine hK _ ?_); clear hK K))))
  refine wpQuiet_nil ?_
  intro w1 hb1
  replace hb1 := (hC.out _).1 hb1
  clear hC C
  obtain ⟨hc1, hf1⟩ := bcell hb1
  have R2 : Blk w1 (w.heap.size + 1) 36 #[.int .i64 0, .int .i64 0, .int .i64 0] := (Blk.newAt (by simp)).past hb1
  have S2 := pt (pa (pa pr)) hb1
  clear hc1 hf1 hb1
  go_wp2_with ((with_reducible refine store_blk (T := 36) (x := .tmp 6) (y := .tmp 30) (vs := #[.int .i64 (-x1), .int .i64 (-x2), .int .i64 (-x3)]) R2 ?_ ?_ ?_ ?_ ?_ ?_); (focus rfl); (focus exact three_size); (focus (simp [Value.oneCell']; done)); (focus rfl); (focus rfl); intro W3 R3 F3; have S3 := pp S2 F3 (by omega))
  have g0 := R3.cellAt 0 rfl; have g1 := R3.cellAt 1 rfl; have g2 := R3.cellAt 2 rfl
  exact bodyPost_ret (v := .agg #[.int .i64 (-x1), .int .i64 (-x2), .int .i64 (-x3)]) (by simp [results, Tryd.results81, go_sem, g0, g1, g2]) rfl ⟨rfl, S3⟩

set_option maxHeartbeats 4000000 in
set_option maxRecDepth 100000 in
theorem voltage_12 (x1 x2 x3 x4 x5 x6 x7 x8 x9 : Int) (w : World)
    (n1 : IntKind.i64.wrap (-x1) = -x1)
    (n2 : IntKind.i64.wrap (-x2) = -x2)
    (n3 : IntKind.i64.wrap (-x3) = -x3)
    (n4 : IntKind.i64.wrap (-x4) = -x4)
    (n5 : IntKind.i64.wrap (-x5) = -x5)
    (n6 : IntKind.i64.wrap (-x6) = -x6)
    (n7 : IntKind.i64.wrap (-x7) = -x7)
    (n8 : IntKind.i64.wrap (-x8) = -x8)
    (n9 : IntKind.i64.wrap (-x9) = -x9)
    : Calls Tryd.prog 81 #[.agg #[.int .i64 x1, .int .i64 x2, .int .i64 x3, .int .i64 x4, .int .i64 x5, .int .i64 x6, .int .i64 x7, .int .i64 x8, .int .i64 x9], .int .i64 1, .int .i64 2] w fun e w' => e = .returned (.agg #[.int .i64 x4, .int .i64 x5, .int .i64 x6]) ∧ Below w.heap.size w w' := by
  have z1 : IntKind.i64.wrap 1 = 1 := by decide
  have z2 : IntKind.i64.wrap 2 = 2 := by decide
  have z3 : IntKind.i64.wrap 3 = 3 := by decide
  go_enter Tryd.func81, Tryd.ntmps81
  go_wp2
  exact bodyPost_ret (v := .agg #[.int .i64 x4, .int .i64 x5, .int .i64 x6]) (by simp [results, Tryd.results81, go_sem]) rfl ⟨rfl, by repeat (first | exact pr | refine pa ?_)⟩

set_option maxHeartbeats 4000000 in
set_option maxRecDepth 100000 in
theorem voltage_20 (x1 x2 x3 x4 x5 x6 x7 x8 x9 : Int) (w : World)
    (n1 : IntKind.i64.wrap (-x1) = -x1)
    (n2 : IntKind.i64.wrap (-x2) = -x2)
    (n3 : IntKind.i64.wrap (-x3) = -x3)
    (n4 : IntKind.i64.wrap (-x4) = -x4)
    (n5 : IntKind.i64.wrap (-x5) = -x5)
    (n6 : IntKind.i64.wrap (-x6) = -x6)
    (n7 : IntKind.i64.wrap (-x7) = -x7)
    (n8 : IntKind.i64.wrap (-x8) = -x8)
    (n9 : IntKind.i64.wrap (-x9) = -x9)
    : Calls Tryd.prog 81 #[.agg #[.int .i64 x1, .int .i64 x2, .int .i64 x3, .int .i64 x4, .int .i64 x5, .int .i64 x6, .int .i64 x7, .int .i64 x8, .int .i64 x9], .int .i64 2, .int .i64 0] w fun e w' => e = .returned (.agg #[.int .i64 x7, .int .i64 x8, .int .i64 x9]) ∧ Below w.heap.size w w' := by
  have z1 : IntKind.i64.wrap 1 = 1 := by decide
  have z2 : IntKind.i64.wrap 2 = 2 := by decide
  have z3 : IntKind.i64.wrap 3 = 3 := by decide
  go_enter Tryd.func81, Tryd.ntmps81
  go_wp2
  exact bodyPost_ret (v := .agg #[.int .i64 x7, .int .i64 x8, .int .i64 x9]) (by simp [results, Tryd.results81, go_sem]) rfl ⟨rfl, by repeat (first | exact pr | refine pa ?_)⟩

set_option maxHeartbeats 4000000 in
set_option maxRecDepth 100000 in
theorem voltage_21 (x1 x2 x3 x4 x5 x6 x7 x8 x9 : Int) (w : World)
    (n1 : IntKind.i64.wrap (-x1) = -x1)
    (n2 : IntKind.i64.wrap (-x2) = -x2)
    (n3 : IntKind.i64.wrap (-x3) = -x3)
    (n4 : IntKind.i64.wrap (-x4) = -x4)
    (n5 : IntKind.i64.wrap (-x5) = -x5)
    (n6 : IntKind.i64.wrap (-x6) = -x6)
    (n7 : IntKind.i64.wrap (-x7) = -x7)
    (n8 : IntKind.i64.wrap (-x8) = -x8)
    (n9 : IntKind.i64.wrap (-x9) = -x9)
    : Calls Tryd.prog 81 #[.agg #[.int .i64 x1, .int .i64 x2, .int .i64 x3, .int .i64 x4, .int .i64 x5, .int .i64 x6, .int .i64 x7, .int .i64 x8, .int .i64 x9], .int .i64 2, .int .i64 1] w fun e w' => e = .returned (.agg #[.int .i64 (-x4), .int .i64 (-x5), .int .i64 (-x6)]) ∧ Below w.heap.size w w' := by
  have z1 : IntKind.i64.wrap 1 = 1 := by decide
  have z2 : IntKind.i64.wrap 2 = 2 := by decide
  have z3 : IntKind.i64.wrap 3 = 3 := by decide
  go_enter Tryd.func81, Tryd.ntmps81
  go_wp2
  refine region_below 16 follows_mixed (by kernel_rfl) ?_
  intro C hC
  simp only [List.take_succ_cons, List.take_zero, List.drop_succ_cons, List.drop_zero]
  repeat (first
    | ((with_reducible refine quiet_plain rfl (fun K hK => ?_)); (focus (apply quiet_val; (focus (intro w' hw; obtain ⟨hcq, hfq⟩ := bcell ((hC.out _).1 hw); go_simp; (first | done | rfl))); (simp only [Act.put, List.setIfInBounds_toArray, List.set_cons_succ, List.set_cons_zero]); (with_reducible refine hK _ ?_); clear hK K)))
    | ((with_reducible refine quiet_skip ?_ ?_); (focus (first | (simp [Region.wanted, yielded]; done) | (simp [Region.wanted, yielded, undef]; done))); simp only [Act.put, List.setIfInBounds_toArray, List.set_cons_succ, List.set_cons_zero])
    | ((with_reducible refine quiet_go ?_ (fun K hK => ?_)); (focus (first | (simp [Region.wanted, yielded]; done) | (simp [Region.wanted, yielded, undef]; done))); (focus (apply quiet_val; (focus (intro w' hw; obtain ⟨hcq, hfq⟩ := bcell ((hC.out _).1 hw); go_simp; (first | done | rfl))); (simp only [Act.put, List.setIfInBounds_toArray, List.set_cons_succ, List.set_cons_zero]); (with_reducible refine hK _ ?_); clear hK K))))
  refine wpQuiet_nil ?_
  intro w1 hb1
  replace hb1 := (hC.out _).1 hb1
  clear hC C
  obtain ⟨hc1, hf1⟩ := bcell hb1
  have R2 : Blk w1 (w.heap.size + 1) 36 #[.int .i64 0, .int .i64 0, .int .i64 0] := (Blk.newAt (by simp)).past hb1
  have S2 := pt (pa (pa pr)) hb1
  clear hc1 hf1 hb1
  go_wp2_with ((with_reducible refine store_blk (T := 36) (x := .tmp 6) (y := .tmp 30) (vs := #[.int .i64 (-x4), .int .i64 (-x5), .int .i64 (-x6)]) R2 ?_ ?_ ?_ ?_ ?_ ?_); (focus rfl); (focus exact three_size); (focus (simp [Value.oneCell']; done)); (focus rfl); (focus rfl); intro W3 R3 F3; have S3 := pp S2 F3 (by omega))
  have g0 := R3.cellAt 0 rfl; have g1 := R3.cellAt 1 rfl; have g2 := R3.cellAt 2 rfl
  exact bodyPost_ret (v := .agg #[.int .i64 (-x4), .int .i64 (-x5), .int .i64 (-x6)]) (by simp [results, Tryd.results81, go_sem, g0, g1, g2]) rfl ⟨rfl, S3⟩

set_option maxHeartbeats 4000000 in
set_option maxRecDepth 100000 in
theorem refRenamed_012 (x1 x2 x3 x4 x5 x6 x7 x8 x9 : Int) (w : World)
    (n1 : IntKind.i64.wrap (-x1) = -x1)
    (n2 : IntKind.i64.wrap (-x2) = -x2)
    (n3 : IntKind.i64.wrap (-x3) = -x3)
    (n4 : IntKind.i64.wrap (-x4) = -x4)
    (n5 : IntKind.i64.wrap (-x5) = -x5)
    (n6 : IntKind.i64.wrap (-x6) = -x6)
    (n7 : IntKind.i64.wrap (-x7) = -x7)
    (n8 : IntKind.i64.wrap (-x8) = -x8)
    (n9 : IntKind.i64.wrap (-x9) = -x9)
    : Calls Tryd.prog 46 #[.agg #[.int .i64 x1, .int .i64 x2, .int .i64 x3, .int .i64 x4, .int .i64 x5, .int .i64 x6, .int .i64 x7, .int .i64 x8, .int .i64 x9], .agg #[.int .i64 0, .int .i64 1, .int .i64 2]] w fun e w' => e = .returned (.agg #[.int .i64 x1, .int .i64 x2, .int .i64 x3, .int .i64 x4, .int .i64 x5, .int .i64 x6, .int .i64 x7, .int .i64 x8, .int .i64 x9]) ∧ Below w.heap.size w w' := by
  have V0 := Lib.hid (fun w => voltage_01 x1 x2 x3 x4 x5 x6 x7 x8 x9 w n1 n2 n3 n4 n5 n6 n7 n8 n9)
  have V1 := Lib.hid (fun w => voltage_12 x1 x2 x3 x4 x5 x6 x7 x8 x9 w n1 n2 n3 n4 n5 n6 n7 n8 n9)
  have V2 := Lib.hid (fun w => voltage_20 x1 x2 x3 x4 x5 x6 x7 x8 x9 w n1 n2 n3 n4 n5 n6 n7 n8 n9)
  clear n1 n2 n3 n4 n5 n6 n7 n8 n9
  go_enter Tryd.func46, Tryd.ntmps46
  go_wp2
  refine region_below 19 follows_mixed (by kernel_rfl) ?_
  intro C hC
  simp only [List.take_succ_cons, List.take_zero, List.drop_succ_cons, List.drop_zero]
  repeat (first
    | ((with_reducible refine quiet_plain rfl (fun K hK => ?_)); (focus (apply quiet_val; (focus (intro w' hw; obtain ⟨hcq, hfq⟩ := bcell ((hC.out _).1 hw); go_simp; (first | done | rfl | (with_reducible exact call_below hC hw (V0.out _)) | (with_reducible exact call_below hC hw (V1.out _)) | (with_reducible exact call_below hC hw (V2.out _))))); (simp only [Act.put, List.setIfInBounds_toArray, List.set_cons_succ, List.set_cons_zero]); (with_reducible refine hK _ ?_); clear hK K)))
    | ((with_reducible refine quiet_skip ?_ ?_); (focus (first | (simp [Region.wanted, yielded]; done) | (simp [Region.wanted, yielded, undef]; done))); simp only [Act.put, List.setIfInBounds_toArray, List.set_cons_succ, List.set_cons_zero])
    | ((with_reducible refine quiet_go ?_ (fun K hK => ?_)); (focus (first | (simp [Region.wanted, yielded]; done) | (simp [Region.wanted, yielded, undef]; done))); (focus (apply quiet_val; (focus (intro w' hw; obtain ⟨hcq, hfq⟩ := bcell ((hC.out _).1 hw); go_simp; (first | done | rfl | (with_reducible exact call_below hC hw (V0.out _)) | (with_reducible exact call_below hC hw (V1.out _)) | (with_reducible exact call_below hC hw (V2.out _))))); (simp only [Act.put, List.setIfInBounds_toArray, List.set_cons_succ, List.set_cons_zero]); (with_reducible refine hK _ ?_); clear hK K))))
  refine wpQuiet_nil ?_
  intro w1 hb1
  replace hb1 := (hC.out _).1 hb1
  clear hC C
  obtain ⟨hc1, hf1⟩ := bcell hb1
  have R2 : Blk w1 (w.heap.size + 1 + 1) 38 #[.int .i64 0, .int .i64 0, .int .i64 0, .int .i64 0, .int .i64 0, .int .i64 0, .int .i64 0, .int .i64 0, .int .i64 0] := (Blk.newAt (by simp)).past hb1
  have S2 := pt (pa (pa (pa pr))) hb1
  clear hc1 hf1 hb1
  go_wp2_with ((with_reducible refine store_blk (T := 38) (x := .tmp 4) (y := .tmp 23) (vs := #[.int .i64 x1, .int .i64 x2, .int .i64 x3, .int .i64 x4, .int .i64 x5, .int .i64 x6, .int .i64 x7, .int .i64 x8, .int .i64 x9]) R2 ?_ ?_ ?_ ?_ ?_ ?_); (focus rfl); (focus exact apiLines_size); (focus (simp [Value.oneCell']; done)); (focus rfl); (focus rfl); intro W3 R3 F3; have S3 := pp S2 F3 (by omega))
  have g0 := R3.cellAt 0 rfl
  have g1 := R3.cellAt 1 rfl
  have g2 := R3.cellAt 2 rfl
  have g3 := R3.cellAt 3 rfl
  have g4 := R3.cellAt 4 rfl
  have g5 := R3.cellAt 5 rfl
  have g6 := R3.cellAt 6 rfl
  have g7 := R3.cellAt 7 rfl
  have g8 := R3.cellAt 8 rfl
  exact bodyPost_ret (v := .agg #[.int .i64 x1, .int .i64 x2, .int .i64 x3, .int .i64 x4, .int .i64 x5, .int .i64 x6, .int .i64 x7, .int .i64 x8, .int .i64 x9]) (by simp [results, Tryd.results46, go_sem, g0, g1, g2, g3, g4, g5, g6, g7, g8]) rfl ⟨rfl, S3⟩

set_option maxHeartbeats 4000000 in
set_option maxRecDepth 100000 in
theorem refRenamed_021 (x1 x2 x3 x4 x5 x6 x7 x8 x9 : Int) (w : World)
    (n1 : IntKind.i64.wrap (-x1) = -x1)
    (n2 : IntKind.i64.wrap (-x2) = -x2)
    (n3 : IntKind.i64.wrap (-x3) = -x3)
    (n4 : IntKind.i64.wrap (-x4) = -x4)
    (n5 : IntKind.i64.wrap (-x5) = -x5)
    (n6 : IntKind.i64.wrap (-x6) = -x6)
    (n7 : IntKind.i64.wrap (-x7) = -x7)
    (n8 : IntKind.i64.wrap (-x8) = -x8)
    (n9 : IntKind.i64.wrap (-x9) = -x9)
    : Calls Tryd.prog 46 #[.agg #[.int .i64 x1, .int .i64 x2, .int .i64 x3, .int .i64 x4, .int .i64 x5, .int .i64 x6, .int .i64 x7, .int .i64 x8, .int .i64 x9], .agg #[.int .i64 0, .int .i64 2, .int .i64 1]] w fun e w' => e = .returned (.agg #[.int .i64 (-x7), .int .i64 (-x8), .int .i64 (-x9), .int .i64 (-x4), .int .i64 (-x5), .int .i64 (-x6), .int .i64 (-x1), .int .i64 (-x2), .int .i64 (-x3)]) ∧ Below w.heap.size w w' := by
  have V0 := Lib.hid (fun w => voltage_02 x1 x2 x3 x4 x5 x6 x7 x8 x9 w n1 n2 n3 n4 n5 n6 n7 n8 n9)
  have V1 := Lib.hid (fun w => voltage_21 x1 x2 x3 x4 x5 x6 x7 x8 x9 w n1 n2 n3 n4 n5 n6 n7 n8 n9)
  have V2 := Lib.hid (fun w => voltage_10 x1 x2 x3 x4 x5 x6 x7 x8 x9 w n1 n2 n3 n4 n5 n6 n7 n8 n9)
  clear n1 n2 n3 n4 n5 n6 n7 n8 n9
  go_enter Tryd.func46, Tryd.ntmps46
  go_wp2
  refine region_below 19 follows_mixed (by kernel_rfl) ?_
  intro C hC
  simp only [List.take_succ_cons, List.take_zero, List.drop_succ_cons, List.drop_zero]
  repeat (first
    | ((with_reducible refine quiet_plain rfl (fun K hK => ?_)); (focus (apply quiet_val; (focus (intro w' hw; obtain ⟨hcq, hfq⟩ := bcell ((hC.out _).1 hw); go_simp; (first | done | rfl | (with_reducible exact call_below hC hw (V0.out _)) | (with_reducible exact call_below hC hw (V1.out _)) | (with_reducible exact call_below hC hw (V2.out _))))); (simp only [Act.put, List.setIfInBounds_toArray, List.set_cons_succ, List.set_cons_zero]); (with_reducible refine hK _ ?_); clear hK K)))
    | ((with_reducible refine quiet_skip ?_ ?_); (focus (first | (simp [Region.wanted, yielded]; done) | (simp [Region.wanted, yielded, undef]; done))); simp only [Act.put, List.setIfInBounds_toArray, List.set_cons_succ, List.set_cons_zero])
    | ((with_reducible refine quiet_go ?_ (fun K hK => ?_)); (focus (first | (simp [Region.wanted, yielded]; done) | (simp [Region.wanted, yielded, undef]; done))); (focus (apply quiet_val; (focus (intro w' hw; obtain ⟨hcq, hfq⟩ := bcell ((hC.out _).1 hw); go_simp; (first | done | rfl | (with_reducible exact call_below hC hw (V0.out _)) | (with_reducible exact call_below hC hw (V1.out _)) | (with_reducible exact call_below hC hw (V2.out _))))); (simp only [Act.put, List.setIfInBounds_toArray, List.set_cons_succ, List.set_cons_zero]); (with_reducible refine hK _ ?_); clear hK K))))
  refine wpQuiet_nil ?_
  intro w1 hb1
  replace hb1 := (hC.out _).1 hb1
  clear hC C
  obtain ⟨hc1, hf1⟩ := bcell hb1
  have R2 : Blk w1 (w.heap.size + 1 + 1) 38 #[.int .i64 0, .int .i64 0, .int .i64 0, .int .i64 0, .int .i64 0, .int .i64 0, .int .i64 0, .int .i64 0, .int .i64 0] := (Blk.newAt (by simp)).past hb1
  have S2 := pt (pa (pa (pa pr))) hb1
  clear hc1 hf1 hb1
  go_wp2_with ((with_reducible refine store_blk (T := 38) (x := .tmp 4) (y := .tmp 23) (vs := #[.int .i64 (-x7), .int .i64 (-x8), .int .i64 (-x9), .int .i64 (-x4), .int .i64 (-x5), .int .i64 (-x6), .int .i64 (-x1), .int .i64 (-x2), .int .i64 (-x3)]) R2 ?_ ?_ ?_ ?_ ?_ ?_); (focus rfl); (focus exact apiLines_size); (focus (simp [Value.oneCell']; done)); (focus rfl); (focus rfl); intro W3 R3 F3; have S3 := pp S2 F3 (by omega))
  have g0 := R3.cellAt 0 rfl
  have g1 := R3.cellAt 1 rfl
  have g2 := R3.cellAt 2 rfl
  have g3 := R3.cellAt 3 rfl
  have g4 := R3.cellAt 4 rfl
  have g5 := R3.cellAt 5 rfl
  have g6 := R3.cellAt 6 rfl
  have g7 := R3.cellAt 7 rfl
  have g8 := R3.cellAt 8 rfl
  exact bodyPost_ret (v := .agg #[.int .i64 (-x7), .int .i64 (-x8), .int .i64 (-x9), .int .i64 (-x4), .int .i64 (-x5), .int .i64 (-x6), .int .i64 (-x1), .int .i64 (-x2), .int .i64 (-x3)]) (by simp [results, Tryd.results46, go_sem, g0, g1, g2, g3, g4, g5, g6, g7, g8]) rfl ⟨rfl, S3⟩

set_option maxHeartbeats 4000000 in
set_option maxRecDepth 100000 in
theorem refRenamed_102 (x1 x2 x3 x4 x5 x6 x7 x8 x9 : Int) (w : World)
    (n1 : IntKind.i64.wrap (-x1) = -x1)
    (n2 : IntKind.i64.wrap (-x2) = -x2)
    (n3 : IntKind.i64.wrap (-x3) = -x3)
    (n4 : IntKind.i64.wrap (-x4) = -x4)
    (n5 : IntKind.i64.wrap (-x5) = -x5)
    (n6 : IntKind.i64.wrap (-x6) = -x6)
    (n7 : IntKind.i64.wrap (-x7) = -x7)
    (n8 : IntKind.i64.wrap (-x8) = -x8)
    (n9 : IntKind.i64.wrap (-x9) = -x9)
    : Calls Tryd.prog 46 #[.agg #[.int .i64 x1, .int .i64 x2, .int .i64 x3, .int .i64 x4, .int .i64 x5, .int .i64 x6, .int .i64 x7, .int .i64 x8, .int .i64 x9], .agg #[.int .i64 1, .int .i64 0, .int .i64 2]] w fun e w' => e = .returned (.agg #[.int .i64 (-x1), .int .i64 (-x2), .int .i64 (-x3), .int .i64 (-x7), .int .i64 (-x8), .int .i64 (-x9), .int .i64 (-x4), .int .i64 (-x5), .int .i64 (-x6)]) ∧ Below w.heap.size w w' := by
  have V0 := Lib.hid (fun w => voltage_10 x1 x2 x3 x4 x5 x6 x7 x8 x9 w n1 n2 n3 n4 n5 n6 n7 n8 n9)
  have V1 := Lib.hid (fun w => voltage_02 x1 x2 x3 x4 x5 x6 x7 x8 x9 w n1 n2 n3 n4 n5 n6 n7 n8 n9)
  have V2 := Lib.hid (fun w => voltage_21 x1 x2 x3 x4 x5 x6 x7 x8 x9 w n1 n2 n3 n4 n5 n6 n7 n8 n9)
  clear n1 n2 n3 n4 n5 n6 n7 n8 n9
  go_enter Tryd.func46, Tryd.ntmps46
  go_wp2
  refine region_below 19 follows_mixed (by kernel_rfl) ?_
  intro C hC
  simp only [List.take_succ_cons, List.take_zero, List.drop_succ_cons, List.drop_zero]
  repeat (first
    | ((with_reducible refine quiet_plain rfl (fun K hK => ?_)); (focus (apply quiet_val; (focus (intro w' hw; obtain ⟨hcq, hfq⟩ := bcell ((hC.out _).1 hw); go_simp; (first | done | rfl | (with_reducible exact call_below hC hw (V0.out _)) | (with_reducible exact call_below hC hw (V1.out _)) | (with_reducible exact call_below hC hw (V2.out _))))); (simp only [Act.put, List.setIfInBounds_toArray, List.set_cons_succ, List.set_cons_zero]); (with_reducible refine hK _ ?_); clear hK K)))
    | ((with_reducible refine quiet_skip ?_ ?_); (focus (first | (simp [Region.wanted, yielded]; done) | (simp [Region.wanted, yielded, undef]; done))); simp only [Act.put, List.setIfInBounds_toArray, List.set_cons_succ, List.set_cons_zero])
    | ((with_reducible refine quiet_go ?_ (fun K hK => ?_)); (focus (first | (simp [Region.wanted, yielded]; done) | (simp [Region.wanted, yielded, undef]; done))); (focus (apply quiet_val; (focus (intro w' hw; obtain ⟨hcq, hfq⟩ := bcell ((hC.out _).1 hw); go_simp; (first | done | rfl | (with_reducible exact call_below hC hw (V0.out _)) | (with_reducible exact call_below hC hw (V1.out _)) | (with_reducible exact call_below hC hw (V2.out _))))); (simp only [Act.put, List.setIfInBounds_toArray, List.set_cons_succ, List.set_cons_zero]); (with_reducible refine hK _ ?_); clear hK K))))
  refine wpQuiet_nil ?_
  intro w1 hb1
  replace hb1 := (hC.out _).1 hb1
  clear hC C
  obtain ⟨hc1, hf1⟩ := bcell hb1
  have R2 : Blk w1 (w.heap.size + 1 + 1) 38 #[.int .i64 0, .int .i64 0, .int .i64 0, .int .i64 0, .int .i64 0, .int .i64 0, .int .i64 0, .int .i64 0, .int .i64 0] := (Blk.newAt (by simp)).past hb1
  have S2 := pt (pa (pa (pa pr))) hb1
  clear hc1 hf1 hb1
  go_wp2_with ((with_reducible refine store_blk (T := 38) (x := .tmp 4) (y := .tmp 23) (vs := #[.int .i64 (-x1), .int .i64 (-x2), .int .i64 (-x3), .int .i64 (-x7), .int .i64 (-x8), .int .i64 (-x9), .int .i64 (-x4), .int .i64 (-x5), .int .i64 (-x6)]) R2 ?_ ?_ ?_ ?_ ?_ ?_); (focus rfl); (focus exact apiLines_size); (focus (simp [Value.oneCell']; done)); (focus rfl); (focus rfl); intro W3 R3 F3; have S3 := pp S2 F3 (by omega))
  have g0 := R3.cellAt 0 rfl
  have g1 := R3.cellAt 1 rfl
  have g2 := R3.cellAt 2 rfl
  have g3 := R3.cellAt 3 rfl
  have g4 := R3.cellAt 4 rfl
  have g5 := R3.cellAt 5 rfl
  have g6 := R3.cellAt 6 rfl
  have g7 := R3.cellAt 7 rfl
  have g8 := R3.cellAt 8 rfl
  exact bodyPost_ret (v := .agg #[.int .i64 (-x1), .int .i64 (-x2), .int .i64 (-x3), .int .i64 (-x7), .int .i64 (-x8), .int .i64 (-x9), .int .i64 (-x4), .int .i64 (-x5), .int .i64 (-x6)]) (by simp [results, Tryd.results46, go_sem, g0, g1, g2, g3, g4, g5, g6, g7, g8]) rfl ⟨rfl, S3⟩

set_option maxHeartbeats 4000000 in
set_option maxRecDepth 100000 in
theorem refRenamed_120 (x1 x2 x3 x4 x5 x6 x7 x8 x9 : Int) (w : World)
    (n1 : IntKind.i64.wrap (-x1) = -x1)
    (n2 : IntKind.i64.wrap (-x2) = -x2)
    (n3 : IntKind.i64.wrap (-x3) = -x3)
    (n4 : IntKind.i64.wrap (-x4) = -x4)
    (n5 : IntKind.i64.wrap (-x5) = -x5)
    (n6 : IntKind.i64.wrap (-x6) = -x6)
    (n7 : IntKind.i64.wrap (-x7) = -x7)
    (n8 : IntKind.i64.wrap (-x8) = -x8)
    (n9 : IntKind.i64.wrap (-x9) = -x9)
    : Calls Tryd.prog 46 #[.agg #[.int .i64 x1, .int .i64 x2, .int .i64 x3, .int .i64 x4, .int .i64 x5, .int .i64 x6, .int .i64 x7, .int .i64 x8, .int .i64 x9], .agg #[.int .i64 1, .int .i64 2, .int .i64 0]] w fun e w' => e = .returned (.agg #[.int .i64 x4, .int .i64 x5, .int .i64 x6, .int .i64 x7, .int .i64 x8, .int .i64 x9, .int .i64 x1, .int .i64 x2, .int .i64 x3]) ∧ Below w.heap.size w w' := by
  have V0 := Lib.hid (fun w => voltage_12 x1 x2 x3 x4 x5 x6 x7 x8 x9 w n1 n2 n3 n4 n5 n6 n7 n8 n9)
  have V1 := Lib.hid (fun w => voltage_20 x1 x2 x3 x4 x5 x6 x7 x8 x9 w n1 n2 n3 n4 n5 n6 n7 n8 n9)
  have V2 := Lib.hid (fun w => voltage_01 x1 x2 x3 x4 x5 x6 x7 x8 x9 w n1 n2 n3 n4 n5 n6 n7 n8 n9)
  clear n1 n2 n3 n4 n5 n6 n7 n8 n9
  go_enter Tryd.func46, Tryd.ntmps46
  go_wp2
  refine region_below 19 follows_mixed (by kernel_rfl) ?_
  intro C hC
  simp only [List.take_succ_cons, List.take_zero, List.drop_succ_cons, List.drop_zero]
  repeat (first
    | ((with_reducible refine quiet_plain rfl (fun K hK => ?_)); (focus (apply quiet_val; (focus (intro w' hw; obtain ⟨hcq, hfq⟩ := bcell ((hC.out _).1 hw); go_simp; (first | done | rfl | (with_reducible exact call_below hC hw (V0.out _)) | (with_reducible exact call_below hC hw (V1.out _)) | (with_reducible exact call_below hC hw (V2.out _))))); (simp only [Act.put, List.setIfInBounds_toArray, List.set_cons_succ, List.set_cons_zero]); (with_reducible refine hK _ ?_); clear hK K)))
    | ((with_reducible refine quiet_skip ?_ ?_); (focus (first | (simp [Region.wanted, yielded]; done) | (simp [Region.wanted, yielded, undef]; done))); simp only [Act.put, List.setIfInBounds_toArray, List.set_cons_succ, List.set_cons_zero])
    | ((with_reducible refine quiet_go ?_ (fun K hK => ?_)); (focus (first | (simp [Region.wanted, yielded]; done) | (simp [Region.wanted, yielded, undef]; done))); (focus (apply quiet_val; (focus (intro w' hw; obtain ⟨hcq, hfq⟩ := bcell ((hC.out _).1 hw); go_simp; (first | done | rfl | (with_reducible exact call_below hC hw (V0.out _)) | (with_reducible exact call_below hC hw (V1.out _)) | (with_reducible exact call_below hC hw (V2.out _))))); (simp only [Act.put, List.setIfInBounds_toArray, List.set_cons_succ, List.set_cons_zero]); (with_reducible refine hK _ ?_); clear hK K))))
  refine wpQuiet_nil ?_
  intro w1 hb1
  replace hb1 := (hC.out _).1 hb1
  clear hC C
  obtain ⟨hc1, hf1⟩ := bcell hb1
  have R2 : Blk w1 (w.heap.size + 1 + 1) 38 #[.int .i64 0, .int .i64 0, .int .i64 0, .int .i64 0, .int .i64 0, .int .i64 0, .int .i64 0, .int .i64 0, .int .i64 0] := (Blk.newAt (by simp)).past hb1
  have S2 := pt (pa (pa (pa pr))) hb1
  clear hc1 hf1 hb1
  go_wp2_with ((with_reducible refine store_blk (T := 38) (x := .tmp 4) (y := .tmp 23) (vs := #[.int .i64 x4, .int .i64 x5, .int .i64 x6, .int .i64 x7, .int .i64 x8, .int .i64 x9, .int .i64 x1, .int .i64 x2, .int .i64 x3]) R2 ?_ ?_ ?_ ?_ ?_ ?_); (focus rfl); (focus exact apiLines_size); (focus (simp [Value.oneCell']; done)); (focus rfl); (focus rfl); intro W3 R3 F3; have S3 := pp S2 F3 (by omega))
  have g0 := R3.cellAt 0 rfl
  have g1 := R3.cellAt 1 rfl
  have g2 := R3.cellAt 2 rfl
  have g3 := R3.cellAt 3 rfl
  have g4 := R3.cellAt 4 rfl
  have g5 := R3.cellAt 5 rfl
  have g6 := R3.cellAt 6 rfl
  have g7 := R3.cellAt 7 rfl
  have g8 := R3.cellAt 8 rfl
  exact bodyPost_ret (v := .agg #[.int .i64 x4, .int .i64 x5, .int .i64 x6, .int .i64 x7, .int .i64 x8, .int .i64 x9, .int .i64 x1, .int .i64 x2, .int .i64 x3]) (by simp [results, Tryd.results46, go_sem, g0, g1, g2, g3, g4, g5, g6, g7, g8]) rfl ⟨rfl, S3⟩

set_option maxHeartbeats 4000000 in
set_option maxRecDepth 100000 in
theorem refRenamed_201 (x1 x2 x3 x4 x5 x6 x7 x8 x9 : Int) (w : World)
    (n1 : IntKind.i64.wrap (-x1) = -x1)
    (n2 : IntKind.i64.wrap (-x2) = -x2)
    (n3 : IntKind.i64.wrap (-x3) = -x3)
    (n4 : IntKind.i64.wrap (-x4) = -x4)
    (n5 : IntKind.i64.wrap (-x5) = -x5)
    (n6 : IntKind.i64.wrap (-x6) = -x6)
    (n7 : IntKind.i64.wrap (-x7) = -x7)
    (n8 : IntKind.i64.wrap (-x8) = -x8)
    (n9 : IntKind.i64.wrap (-x9) = -x9)
    : Calls Tryd.prog 46 #[.agg #[.int .i64 x1, .int .i64 x2, .int .i64 x3, .int .i64 x4, .int .i64 x5, .int .i64 x6, .int .i64 x7, .int .i64 x8, .int .i64 x9], .agg #[.int .i64 2, .int .i64 0, .int .i64 1]] w fun e w' => e = .returned (.agg #[.int .i64 x7, .int .i64 x8, .int .i64 x9, .int .i64 x1, .int .i64 x2, .int .i64 x3, .int .i64 x4, .int .i64 x5, .int .i64 x6]) ∧ Below w.heap.size w w' := by
  have V0 := Lib.hid (fun w => voltage_20 x1 x2 x3 x4 x5 x6 x7 x8 x9 w n1 n2 n3 n4 n5 n6 n7 n8 n9)
  have V1 := Lib.hid (fun w => voltage_01 x1 x2 x3 x4 x5 x6 x7 x8 x9 w n1 n2 n3 n4 n5 n6 n7 n8 n9)
  have V2 := Lib.hid (fun w => voltage_12 x1 x2 x3 x4 x5 x6 x7 x8 x9 w n1 n2 n3 n4 n5 n6 n7 n8 n9)
  clear n1 n2 n3 n4 n5 n6 n7 n8 n9
  go_enter Tryd.func46, Tryd.ntmps46
  go_wp2
  refine region_below 19 follows_mixed (by kernel_rfl) ?_
  intro C hC
  simp only [List.take_succ_cons, List.take_zero, List.drop_succ_cons, List.drop_zero]
  repeat (first
    | ((with_reducible refine quiet_plain rfl (fun K hK => ?_)); (focus (apply quiet_val; (focus (intro w' hw; obtain ⟨hcq, hfq⟩ := bcell ((hC.out _).1 hw); go_simp; (first | done | rfl | (with_reducible exact call_below hC hw (V0.out _)) | (with_reducible exact call_below hC hw (V1.out _)) | (with_reducible exact call_below hC hw (V2.out _))))); (simp only [Act.put, List.setIfInBounds_toArray, List.set_cons_succ, List.set_cons_zero]); (with_reducible refine hK _ ?_); clear hK K)))
    | ((with_reducible refine quiet_skip ?_ ?_); (focus (first | (simp [Region.wanted, yielded]; done) | (simp [Region.wanted, yielded, undef]; done))); simp only [Act.put, List.setIfInBounds_toArray, List.set_cons_succ, List.set_cons_zero])
    | ((with_reducible refine quiet_go ?_ (fun K hK => ?_)); (focus (first | (simp [Region.wanted, yielded]; done) | (simp [Region.wanted, yielded, undef]; done))); (focus (apply quiet_val; (focus (intro w' hw; obtain ⟨hcq, hfq⟩ := bcell ((hC.out _).1 hw); go_simp; (first | done | rfl | (with_reducible exact call_below hC hw (V0.out _)) | (with_reducible exact call_below hC hw (V1.out _)) | (with_reducible exact call_below hC hw (V2.out _))))); (simp only [Act.put, List.setIfInBounds_toArray, List.set_cons_succ, List.set_cons_zero]); (with_reducible refine hK _ ?_); clear hK K))))
  refine wpQuiet_nil ?_
  intro w1 hb1
  replace hb1 := (hC.out _).1 hb1
  clear hC C
  obtain ⟨hc1, hf1⟩ := bcell hb1
  have R2 : Blk w1 (w.heap.size + 1 + 1) 38 #[.int .i64 0, .int .i64 0, .int .i64 0, .int .i64 0, .int .i64 0, .int .i64 0, .int .i64 0, .int .i64 0, .int .i64 0] := (Blk.newAt (by simp)).past hb1
  have S2 := pt (pa (pa (pa pr))) hb1
  clear hc1 hf1 hb1
  go_wp2_with ((with_reducible refine store_blk (T := 38) (x := .tmp 4) (y := .tmp 23) (vs := #[.int .i64 x7, .int .i64 x8, .int .i64 x9, .int .i64 x1, .int .i64 x2, .int .i64 x3, .int .i64 x4, .int .i64 x5, .int .i64 x6]) R2 ?_ ?_ ?_ ?_ ?_ ?_); (focus rfl); (focus exact apiLines_size); (focus (simp [Value.oneCell']; done)); (focus rfl); (focus rfl); intro W3 R3 F3; have S3 := pp S2 F3 (by omega))
  have g0 := R3.cellAt 0 rfl
  have g1 := R3.cellAt 1 rfl
  have g2 := R3.cellAt 2 rfl
  have g3 := R3.cellAt 3 rfl
  have g4 := R3.cellAt 4 rfl
  have g5 := R3.cellAt 5 rfl
  have g6 := R3.cellAt 6 rfl
  have g7 := R3.cellAt 7 rfl
  have g8 := R3.cellAt 8 rfl
  exact bodyPost_ret (v := .agg #[.int .i64 x7, .int .i64 x8, .int .i64 x9, .int .i64 x1, .int .i64 x2, .int .i64 x3, .int .i64 x4, .int .i64 x5, .int .i64 x6]) (by simp [results, Tryd.results46, go_sem, g0, g1, g2, g3, g4, g5, g6, g7, g8]) rfl ⟨rfl, S3⟩

set_option maxHeartbeats 4000000 in
set_option maxRecDepth 100000 in
theorem refRenamed_210 (x1 x2 x3 x4 x5 x6 x7 x8 x9 : Int) (w : World)
    (n1 : IntKind.i64.wrap (-x1) = -x1)
    (n2 : IntKind.i64.wrap (-x2) = -x2)
    (n3 : IntKind.i64.wrap (-x3) = -x3)
    (n4 : IntKind.i64.wrap (-x4) = -x4)
    (n5 : IntKind.i64.wrap (-x5) = -x5)
    (n6 : IntKind.i64.wrap (-x6) = -x6)
    (n7 : IntKind.i64.wrap (-x7) = -x7)
    (n8 : IntKind.i64.wrap (-x8) = -x8)
    (n9 : IntKind.i64.wrap (-x9) = -x9)
    : Calls Tryd.prog 46 #[.agg #[.int .i64 x1, .int .i64 x2, .int .i64 x3, .int .i64 x4, .int .i64 x5, .int .i64 x6, .int .i64 x7, .int .i64 x8, .int .i64 x9], .agg #[.int .i64 2, .int .i64 1, .int .i64 0]] w fun e w' => e = .returned (.agg #[.int .i64 (-x4), .int .i64 (-x5), .int .i64 (-x6), .int .i64 (-x1), .int .i64 (-x2), .int .i64 (-x3), .int .i64 (-x7), .int .i64 (-x8), .int .i64 (-x9)]) ∧ Below w.heap.size w w' := by
  have V0 := Lib.hid (fun w => voltage_21 x1 x2 x3 x4 x5 x6 x7 x8 x9 w n1 n2 n3 n4 n5 n6 n7 n8 n9)
  have V1 := Lib.hid (fun w => voltage_10 x1 x2 x3 x4 x5 x6 x7 x8 x9 w n1 n2 n3 n4 n5 n6 n7 n8 n9)
  have V2 := Lib.hid (fun w => voltage_02 x1 x2 x3 x4 x5 x6 x7 x8 x9 w n1 n2 n3 n4 n5 n6 n7 n8 n9)
  clear n1 n2 n3 n4 n5 n6 n7 n8 n9
  go_enter Tryd.func46, Tryd.ntmps46
  go_wp2
  refine region_below 19 follows_mixed (by kernel_rfl) ?_
  intro C hC
  simp only [List.take_succ_cons, List.take_zero, List.drop_succ_cons, List.drop_zero]
  repeat (first
    | ((with_reducible refine quiet_plain rfl (fun K hK => ?_)); (focus (apply quiet_val; (focus (intro w' hw; obtain ⟨hcq, hfq⟩ := bcell ((hC.out _).1 hw); go_simp; (first | done | rfl | (with_reducible exact call_below hC hw (V0.out _)) | (with_reducible exact call_below hC hw (V1.out _)) | (with_reducible exact call_below hC hw (V2.out _))))); (simp only [Act.put, List.setIfInBounds_toArray, List.set_cons_succ, List.set_cons_zero]); (with_reducible refine hK _ ?_); clear hK K)))
    | ((with_reducible refine quiet_skip ?_ ?_); (focus (first | (simp [Region.wanted, yielded]; done) | (simp [Region.wanted, yielded, undef]; done))); simp only [Act.put, List.setIfInBounds_toArray, List.set_cons_succ, List.set_cons_zero])
    | ((with_reducible refine quiet_go ?_ (fun K hK => ?_)); (focus (first | (simp [Region.wanted, yielded]; done) | (simp [Region.wanted, yielded, undef]; done))); (focus (apply quiet_val; (focus (intro w' hw; obtain ⟨hcq, hfq⟩ := bcell ((hC.out _).1 hw); go_simp; (first | done | rfl | (with_reducible exact call_below hC hw (V0.out _)) | (with_reducible exact call_below hC hw (V1.out _)) | (with_reducible exact call_below hC hw (V2.out _))))); (simp only [Act.put, List.setIfInBounds_toArray, List.set_cons_succ, List.set_cons_zero]); (with_reducible refine hK _ ?_); clear hK K))))
  refine wpQuiet_nil ?_
  intro w1 hb1
  replace hb1 := (hC.out _).1 hb1
  clear hC C
  obtain ⟨hc1, hf1⟩ := bcell hb1
  have R2 : Blk w1 (w.heap.size + 1 + 1) 38 #[.int .i64 0, .int .i64 0, .int .i64 0, .int .i64 0, .int .i64 0, .int .i64 0, .int .i64 0, .int .i64 0, .int .i64 0] := (Blk.newAt (by simp)).past hb1
  have S2 := pt (pa (pa (pa pr))) hb1
  clear hc1 hf1 hb1
  go_wp2_with ((with_reducible refine store_blk (T := 38) (x := .tmp 4) (y := .tmp 23) (vs := #[.int .i64 (-x4), .int .i64 (-x5), .int .i64 (-x6), .int .i64 (-x1), .int .i64 (-x2), .int .i64 (-x3), .int .i64 (-x7), .int .i64 (-x8), .int .i64 (-x9)]) R2 ?_ ?_ ?_ ?_ ?_ ?_); (focus rfl); (focus exact apiLines_size); (focus (simp [Value.oneCell']; done)); (focus rfl); (focus rfl); intro W3 R3 F3; have S3 := pp S2 F3 (by omega))
  have g0 := R3.cellAt 0 rfl
  have g1 := R3.cellAt 1 rfl
  have g2 := R3.cellAt 2 rfl
  have g3 := R3.cellAt 3 rfl
  have g4 := R3.cellAt 4 rfl
  have g5 := R3.cellAt 5 rfl
  have g6 := R3.cellAt 6 rfl
  have g7 := R3.cellAt 7 rfl
  have g8 := R3.cellAt 8 rfl
  exact bodyPost_ret (v := .agg #[.int .i64 (-x4), .int .i64 (-x5), .int .i64 (-x6), .int .i64 (-x1), .int .i64 (-x2), .int .i64 (-x3), .int .i64 (-x7), .int .i64 (-x8), .int .i64 (-x9)]) (by simp [results, Tryd.results46, go_sem, g0, g1, g2, g3, g4, g5, g6, g7, g8]) rfl ⟨rfl, S3⟩

end Go.Proofs.YtnhcamokcggnkaaDoor
