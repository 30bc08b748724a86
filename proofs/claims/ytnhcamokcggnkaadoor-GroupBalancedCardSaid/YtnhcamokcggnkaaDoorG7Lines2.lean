/- Contract of group.linesOf for one kind of windings: the loops are unrolled. Printed by a program (gen_lines.py). -/
import Derived.Test.YtnhcamokcggnkaaDoorG7Signed
import Derived.Test.YtnhcamokcggnkaaDoorG6Wide
namespace Go.Proofs.YtnhcamokcggnkaaDoor
open Go.RowKit
attribute [local go_sem ↓] Go.wp_at_zero Go.wp_at_succ
attribute [local go_sem] i3_at0 i3_at1 i3_at2

set_option maxHeartbeats 8000000 in
set_option maxRecDepth 100000 in
theorem linesOf_20 (a b c t T : Int) (r : Bool) (w : World) (ha : Sm 4000 (a * T)) (hb : Sm 4000 (b * T)) (hc : Sm 4000 (c * T)) (hg : 0 < w.heap.size)
    (q1 : w.cell? ⟨0, 9, none⟩ = some (.int .i64 a))
    (q2 : w.cell? ⟨0, 10, none⟩ = some (.int .i64 b))
    (q3 : w.cell? ⟨0, 11, none⟩ = some (.int .i64 c))
    (hS : ∀ w, Calls Tryd.prog 64 #[.agg #[.int .i64 2, .int .i64 t, .int .i64 0, .bool r]] w fun e w' => e = .returned (.int .i64 T) ∧ Below w.heap.size w w') :
    Calls Tryd.prog 63 #[.agg #[.int .i64 2, .int .i64 t, .int .i64 0, .bool r]] w fun e w' => e = .returned (.agg #[.int .i64 (a * T), .int .i64 (b * T), .int .i64 (c * T), .int .i64 (c * T), .int .i64 (a * T), .int .i64 (b * T), .int .i64 (b * T), .int .i64 (c * T), .int .i64 (a * T)]) ∧ Below w.heap.size w w' := by
  have q1' := q1
  have q2' := q2
  have q3' := q3
  unfold Sm at ha hb hc
  have z0 : IntKind.i64.wrap 0 = 0 := by decide
  have z1 : IntKind.i64.wrap 1 = 1 := by decide
  have z2 : IntKind.i64.wrap 2 = 2 := by decide
  have z3 : IntKind.i64.wrap 3 = 3 := by decide
  have z4 : IntKind.i64.wrap 4 = 4 := by decide
  have z5 : IntKind.i64.wrap 5 = 5 := by decide
  have z6 : IntKind.i64.wrap 6 = 6 := by decide
  have za : IntKind.i64.wrap (a * T) = a * T := IntWalk.i64_in _ (by omega)
  have zb : IntKind.i64.wrap (b * T) = b * T := IntWalk.i64_in _ (by omega)
  have zc : IntKind.i64.wrap (c * T) = c * T := IntWalk.i64_in _ (by omega)
  go_enter Tryd.func63, Tryd.ntmps63
  go_wp2
  refine wp_loop_rounds 4 ?_
  rw [rounds_succ]
  go_wp2
  refine wp_loop_rounds 4 ?_
  rw [rounds_succ]
  go_wp2
  refine region_below 18 follows_mixed (by kernel_rfl) ?_
  intro C hC
  simp only [List.take_succ_cons, List.take_zero, List.drop_succ_cons, List.drop_zero]
  repeat (first
    | ((with_reducible refine quiet_plain rfl (fun K hK => ?_)); (focus (apply quiet_val; (focus (intro w' hw; obtain ⟨hcq, hfq⟩ := bcell ((hC.out _).1 hw); go_simp; (first | done | rfl | (with_reducible exact call_below hC hw (hS _))))); (simp only [Act.put, List.setIfInBounds_toArray, List.set_cons_succ, List.set_cons_zero]); (with_reducible refine hK _ ?_); clear hK K)))
    | ((with_reducible refine quiet_skip ?_ ?_); (focus (first | (simp [Region.wanted, yielded]; done) | (simp [Region.wanted, yielded, undef]; done))); simp only [Act.put, List.setIfInBounds_toArray, List.set_cons_succ, List.set_cons_zero])
    | ((with_reducible refine quiet_go ?_ (fun K hK => ?_)); (focus (first | (simp [Region.wanted, yielded]; done) | (simp [Region.wanted, yielded, undef]; done))); (focus (apply quiet_val; (focus (intro w' hw; obtain ⟨hcq, hfq⟩ := bcell ((hC.out _).1 hw); go_simp; (first | done | rfl | (with_reducible exact call_below hC hw (hS _))))); (simp only [Act.put, List.setIfInBounds_toArray, List.set_cons_succ, List.set_cons_zero]); (with_reducible refine hK _ ?_); clear hK K))))
  refine wpQuiet_nil ?_
  intro w1 hb1
  replace hb1 := (hC.out _).1 hb1
  clear hC C
  obtain ⟨hc1, hf1⟩ := bcell hb1
  go_wp2
  have B1 : Blk (w1.setCell ⟨w.heap.size + 1 + 1, 0, none⟩ (.int .i64 (a * T))) (w.heap.size + 1 + 1) 109 #[.int .i64 (a * T), .int .i64 0, .int .i64 0, .int .i64 0, .int .i64 0, .int .i64 0, .int .i64 0, .int .i64 0, .int .i64 0] := ((Blk.newAt (by simp)).past hb1).set_ 0 _
  have R1 : Blk (w1.setCell ⟨w.heap.size + 1 + 1, 0, none⟩ (.int .i64 (a * T))) (w.heap.size + 1) 109 #[.int .i64 0, .int .i64 0, .int .i64 0, .int .i64 0, .int .i64 0, .int .i64 0, .int .i64 0, .int .i64 0, .int .i64 0] := (((Blk.newAt (by simp)).alloc).past hb1).far (by simp)
  have P1 : Blk (w1.setCell ⟨w.heap.size + 1 + 1, 0, none⟩ (.int .i64 (a * T))) w.heap.size 23 #[.int .i64 2, .int .i64 t, .int .i64 0, .bool r] := (((Blk.newAt (by simp)).alloc.alloc).past hb1).far (by simp; try omega)
  have S1 : Below w.heap.size w (w1.setCell ⟨w.heap.size + 1 + 1, 0, none⟩ (.int .i64 (a * T))) := ps (pt (pa (pa (pa pr))) hb1) (by simp; try omega)
  generalize w1.setCell ⟨w.heap.size + 1 + 1, 0, none⟩ (.int .i64 (a * T)) = W1 at *
  clear hb1 hc1 hf1 q1 q2 q3 
  have cc := B1.cellAt 1 rfl
  have ff := B1.frozen 1
  have cl := B1.lt
  have p0 := P1.cellAt 0 rfl
  have p1 := P1.cellAt 1 rfl
  have p2 := P1.cellAt 2 rfl
  have p3 := P1.cellAt 3 rfl
  have pl := P1.lt
  have q1 := ((bcell S1).1 0 9 hg).trans q1'
  have q2 := ((bcell S1).1 0 10 hg).trans q2'
  have q3 := ((bcell S1).1 0 11 hg).trans q3'
  rw [rounds_succ]
  go_wp2
  refine region_below 18 follows_mixed (by kernel_rfl) ?_
  intro C hC
  simp only [List.take_succ_cons, List.take_zero, List.drop_succ_cons, List.drop_zero]
  repeat (first
    | ((with_reducible refine quiet_plain rfl (fun K hK => ?_)); (focus (apply quiet_val; (focus (intro w' hw; obtain ⟨hcq, hfq⟩ := bcell ((hC.out _).1 hw); go_simp; (first | done | rfl | (with_reducible exact call_below hC hw (hS _))))); (simp only [Act.put, List.setIfInBounds_toArray, List.set_cons_succ, List.set_cons_zero]); (with_reducible refine hK _ ?_); clear hK K)))
    | ((with_reducible refine quiet_skip ?_ ?_); (focus (first | (simp [Region.wanted, yielded]; done) | (simp [Region.wanted, yielded, undef]; done))); simp only [Act.put, List.setIfInBounds_toArray, List.set_cons_succ, List.set_cons_zero])
    | ((with_reducible refine quiet_go ?_ (fun K hK => ?_)); (focus (first | (simp [Region.wanted, yielded]; done) | (simp [Region.wanted, yielded, undef]; done))); (focus (apply quiet_val; (focus (intro w' hw; obtain ⟨hcq, hfq⟩ := bcell ((hC.out _).1 hw); go_simp; (first | done | rfl | (with_reducible exact call_below hC hw (hS _))))); (simp only [Act.put, List.setIfInBounds_toArray, List.set_cons_succ, List.set_cons_zero]); (with_reducible refine hK _ ?_); clear hK K))))
  refine wpQuiet_nil ?_
  intro w1 hb1
  replace hb1 := (hC.out _).1 hb1
  clear hC C
  obtain ⟨hc1, hf1⟩ := bcell hb1
  go_wp2
  have B2 : Blk (w1.setCell ⟨w.heap.size + 1 + 1, 1, none⟩ (.int .i64 (b * T))) (w.heap.size + 1 + 1) 109 #[.int .i64 (a * T), .int .i64 (b * T), .int .i64 0, .int .i64 0, .int .i64 0, .int .i64 0, .int .i64 0, .int .i64 0, .int .i64 0] := ((B1).past hb1).set_ 1 _
  have R2 : Blk (w1.setCell ⟨w.heap.size + 1 + 1, 1, none⟩ (.int .i64 (b * T))) (w.heap.size + 1) 109 #[.int .i64 0, .int .i64 0, .int .i64 0, .int .i64 0, .int .i64 0, .int .i64 0, .int .i64 0, .int .i64 0, .int .i64 0] := ((R1).past hb1).far (by simp)
  have P2 : Blk (w1.setCell ⟨w.heap.size + 1 + 1, 1, none⟩ (.int .i64 (b * T))) w.heap.size 23 #[.int .i64 2, .int .i64 t, .int .i64 0, .bool r] := ((P1).past hb1).far (by simp; try omega)
  have S2 : Below w.heap.size w (w1.setCell ⟨w.heap.size + 1 + 1, 1, none⟩ (.int .i64 (b * T))) := ps (pt (S1) hb1) (by simp; try omega)
  generalize w1.setCell ⟨w.heap.size + 1 + 1, 1, none⟩ (.int .i64 (b * T)) = W2 at *
  clear hb1 hc1 hf1 q1 q2 q3 B1 R1 P1 S1 cc ff cl p0 p1 p2 p3 pl
  have cc := B2.cellAt 2 rfl
  have ff := B2.frozen 2
  have cl := B2.lt
  have p0 := P2.cellAt 0 rfl
  have p1 := P2.cellAt 1 rfl
  have p2 := P2.cellAt 2 rfl
  have p3 := P2.cellAt 3 rfl
  have pl := P2.lt
  have q1 := ((bcell S2).1 0 9 hg).trans q1'
  have q2 := ((bcell S2).1 0 10 hg).trans q2'
  have q3 := ((bcell S2).1 0 11 hg).trans q3'
  rw [rounds_succ]
  go_wp2
  refine region_below 18 follows_mixed (by kernel_rfl) ?_
  intro C hC
  simp only [List.take_succ_cons, List.take_zero, List.drop_succ_cons, List.drop_zero]
  repeat (first
    | ((with_reducible refine quiet_plain rfl (fun K hK => ?_)); (focus (apply quiet_val; (focus (intro w' hw; obtain ⟨hcq, hfq⟩ := bcell ((hC.out _).1 hw); go_simp; (first | done | rfl | (with_reducible exact call_below hC hw (hS _))))); (simp only [Act.put, List.setIfInBounds_toArray, List.set_cons_succ, List.set_cons_zero]); (with_reducible refine hK _ ?_); clear hK K)))
    | ((with_reducible refine quiet_skip ?_ ?_); (focus (first | (simp [Region.wanted, yielded]; done) | (simp [Region.wanted, yielded, undef]; done))); simp only [Act.put, List.setIfInBounds_toArray, List.set_cons_succ, List.set_cons_zero])
    | ((with_reducible refine quiet_go ?_ (fun K hK => ?_)); (focus (first | (simp [Region.wanted, yielded]; done) | (simp [Region.wanted, yielded, undef]; done))); (focus (apply quiet_val; (focus (intro w' hw; obtain ⟨hcq, hfq⟩ := bcell ((hC.out _).1 hw); go_simp; (first | done | rfl | (with_reducible exact call_below hC hw (hS _))))); (simp only [Act.put, List.setIfInBounds_toArray, List.set_cons_succ, List.set_cons_zero]); (with_reducible refine hK _ ?_); clear hK K))))
  refine wpQuiet_nil ?_
  intro w1 hb1
  replace hb1 := (hC.out _).1 hb1
  clear hC C
  obtain ⟨hc1, hf1⟩ := bcell hb1
  go_wp2
  have B3 : Blk (w1.setCell ⟨w.heap.size + 1 + 1, 2, none⟩ (.int .i64 (c * T))) (w.heap.size + 1 + 1) 109 #[.int .i64 (a * T), .int .i64 (b * T), .int .i64 (c * T), .int .i64 0, .int .i64 0, .int .i64 0, .int .i64 0, .int .i64 0, .int .i64 0] := ((B2).past hb1).set_ 2 _
  have R3 : Blk (w1.setCell ⟨w.heap.size + 1 + 1, 2, none⟩ (.int .i64 (c * T))) (w.heap.size + 1) 109 #[.int .i64 0, .int .i64 0, .int .i64 0, .int .i64 0, .int .i64 0, .int .i64 0, .int .i64 0, .int .i64 0, .int .i64 0] := ((R2).past hb1).far (by simp)
  have P3 : Blk (w1.setCell ⟨w.heap.size + 1 + 1, 2, none⟩ (.int .i64 (c * T))) w.heap.size 23 #[.int .i64 2, .int .i64 t, .int .i64 0, .bool r] := ((P2).past hb1).far (by simp; try omega)
  have S3 : Below w.heap.size w (w1.setCell ⟨w.heap.size + 1 + 1, 2, none⟩ (.int .i64 (c * T))) := ps (pt (S2) hb1) (by simp; try omega)
  generalize w1.setCell ⟨w.heap.size + 1 + 1, 2, none⟩ (.int .i64 (c * T)) = W3 at *
  clear hb1 hc1 hf1 q1 q2 q3 B2 R2 P2 S2 cc ff cl p0 p1 p2 p3 pl
  have cc := B3.cellAt 4 rfl
  have ff := B3.frozen 4
  have cl := B3.lt
  have p0 := P3.cellAt 0 rfl
  have p1 := P3.cellAt 1 rfl
  have p2 := P3.cellAt 2 rfl
  have p3 := P3.cellAt 3 rfl
  have pl := P3.lt
  have q1 := ((bcell S3).1 0 9 hg).trans q1'
  have q2 := ((bcell S3).1 0 10 hg).trans q2'
  have q3 := ((bcell S3).1 0 11 hg).trans q3'
  rw [rounds_succ]
  go_wp2
  rw [rounds_succ]
  go_wp2
  refine wp_loop_rounds 4 ?_
  rw [rounds_succ]
  go_wp2
  refine region_below 18 follows_mixed (by kernel_rfl) ?_
  intro C hC
  simp only [List.take_succ_cons, List.take_zero, List.drop_succ_cons, List.drop_zero]
  repeat (first
    | ((with_reducible refine quiet_plain rfl (fun K hK => ?_)); (focus (apply quiet_val; (focus (intro w' hw; obtain ⟨hcq, hfq⟩ := bcell ((hC.out _).1 hw); go_simp; (first | done | rfl | (with_reducible exact call_below hC hw (hS _))))); (simp only [Act.put, List.setIfInBounds_toArray, List.set_cons_succ, List.set_cons_zero]); (with_reducible refine hK _ ?_); clear hK K)))
    | ((with_reducible refine quiet_skip ?_ ?_); (focus (first | (simp [Region.wanted, yielded]; done) | (simp [Region.wanted, yielded, undef]; done))); simp only [Act.put, List.setIfInBounds_toArray, List.set_cons_succ, List.set_cons_zero])
    | ((with_reducible refine quiet_go ?_ (fun K hK => ?_)); (focus (first | (simp [Region.wanted, yielded]; done) | (simp [Region.wanted, yielded, undef]; done))); (focus (apply quiet_val; (focus (intro w' hw; obtain ⟨hcq, hfq⟩ := bcell ((hC.out _).1 hw); go_simp; (first | done | rfl | (with_reducible exact call_below hC hw (hS _))))); (simp only [Act.put, List.setIfInBounds_toArray, List.set_cons_succ, List.set_cons_zero]); (with_reducible refine hK _ ?_); clear hK K))))
  refine wpQuiet_nil ?_
  intro w1 hb1
  replace hb1 := (hC.out _).1 hb1
  clear hC C
  obtain ⟨hc1, hf1⟩ := bcell hb1
  go_wp2
  have B4 : Blk (w1.setCell ⟨w.heap.size + 1 + 1, 4, none⟩ (.int .i64 (a * T))) (w.heap.size + 1 + 1) 109 #[.int .i64 (a * T), .int .i64 (b * T), .int .i64 (c * T), .int .i64 0, .int .i64 (a * T), .int .i64 0, .int .i64 0, .int .i64 0, .int .i64 0] := ((B3).past hb1).set_ 4 _
  have R4 : Blk (w1.setCell ⟨w.heap.size + 1 + 1, 4, none⟩ (.int .i64 (a * T))) (w.heap.size + 1) 109 #[.int .i64 0, .int .i64 0, .int .i64 0, .int .i64 0, .int .i64 0, .int .i64 0, .int .i64 0, .int .i64 0, .int .i64 0] := ((R3).past hb1).far (by simp)
  have P4 : Blk (w1.setCell ⟨w.heap.size + 1 + 1, 4, none⟩ (.int .i64 (a * T))) w.heap.size 23 #[.int .i64 2, .int .i64 t, .int .i64 0, .bool r] := ((P3).past hb1).far (by simp; try omega)
  have S4 : Below w.heap.size w (w1.setCell ⟨w.heap.size + 1 + 1, 4, none⟩ (.int .i64 (a * T))) := ps (pt (S3) hb1) (by simp; try omega)
  generalize w1.setCell ⟨w.heap.size + 1 + 1, 4, none⟩ (.int .i64 (a * T)) = W4 at *
  clear hb1 hc1 hf1 q1 q2 q3 B3 R3 P3 S3 cc ff cl p0 p1 p2 p3 pl
  have cc := B4.cellAt 5 rfl
  have ff := B4.frozen 5
  have cl := B4.lt
  have p0 := P4.cellAt 0 rfl
  have p1 := P4.cellAt 1 rfl
  have p2 := P4.cellAt 2 rfl
  have p3 := P4.cellAt 3 rfl
  have pl := P4.lt
  have q1 := ((bcell S4).1 0 9 hg).trans q1'
  have q2 := ((bcell S4).1 0 10 hg).trans q2'
  have q3 := ((bcell S4).1 0 11 hg).trans q3'
  rw [rounds_succ]
  go_wp2
  refine region_below 18 follows_mixed (by kernel_rfl) ?_
  intro C hC
  simp only [List.take_succ_cons, List.take_zero, List.drop_succ_cons, List.drop_zero]
  repeat (first
    | ((with_reducible refine quiet_plain rfl (fun K hK => ?_)); (focus (apply quiet_val; (focus (intro w' hw; obtain ⟨hcq, hfq⟩ := bcell ((hC.out _).1 hw); go_simp; (first | done | rfl | (with_reducible exact call_below hC hw (hS _))))); (simp only [Act.put, List.setIfInBounds_toArray, List.set_cons_succ, List.set_cons_zero]); (with_reducible refine hK _ ?_); clear hK K)))
    | ((with_reducible refine quiet_skip ?_ ?_); (focus (first | (simp [Region.wanted, yielded]; done) | (simp [Region.wanted, yielded, undef]; done))); simp only [Act.put, List.setIfInBounds_toArray, List.set_cons_succ, List.set_cons_zero])
    | ((with_reducible refine quiet_go ?_ (fun K hK => ?_)); (focus (first | (simp [Region.wanted, yielded]; done) | (simp [Region.wanted, yielded, undef]; done))); (focus (apply quiet_val; (focus (intro w' hw; obtain ⟨hcq, hfq⟩ := bcell ((hC.out _).1 hw); go_simp; (first | done | rfl | (with_reducible exact call_below hC hw (hS _))))); (simp only [Act.put, List.setIfInBounds_toArray, List.set_cons_succ, List.set_cons_zero]); (with_reducible refine hK _ ?_); clear hK K))))
  refine wpQuiet_nil ?_
  intro w1 hb1
  replace hb1 := (hC.out _).1 hb1
  clear hC C
  obtain ⟨hc1, hf1⟩ := bcell hb1
  go_wp2
  have B5 : Blk (w1.setCell ⟨w.heap.size + 1 + 1, 5, none⟩ (.int .i64 (b * T))) (w.heap.size + 1 + 1) 109 #[.int .i64 (a * T), .int .i64 (b * T), .int .i64 (c * T), .int .i64 0, .int .i64 (a * T), .int .i64 (b * T), .int .i64 0, .int .i64 0, .int .i64 0] := ((B4).past hb1).set_ 5 _
  have R5 : Blk (w1.setCell ⟨w.heap.size + 1 + 1, 5, none⟩ (.int .i64 (b * T))) (w.heap.size + 1) 109 #[.int .i64 0, .int .i64 0, .int .i64 0, .int .i64 0, .int .i64 0, .int .i64 0, .int .i64 0, .int .i64 0, .int .i64 0] := ((R4).past hb1).far (by simp)
  have P5 : Blk (w1.setCell ⟨w.heap.size + 1 + 1, 5, none⟩ (.int .i64 (b * T))) w.heap.size 23 #[.int .i64 2, .int .i64 t, .int .i64 0, .bool r] := ((P4).past hb1).far (by simp; try omega)
  have S5 : Below w.heap.size w (w1.setCell ⟨w.heap.size + 1 + 1, 5, none⟩ (.int .i64 (b * T))) := ps (pt (S4) hb1) (by simp; try omega)
  generalize w1.setCell ⟨w.heap.size + 1 + 1, 5, none⟩ (.int .i64 (b * T)) = W5 at *
  clear hb1 hc1 hf1 q1 q2 q3 B4 R4 P4 S4 cc ff cl p0 p1 p2 p3 pl
  have cc := B5.cellAt 3 rfl
  have ff := B5.frozen 3
  have cl := B5.lt
  have p0 := P5.cellAt 0 rfl
  have p1 := P5.cellAt 1 rfl
  have p2 := P5.cellAt 2 rfl
  have p3 := P5.cellAt 3 rfl
  have pl := P5.lt
  have q1 := ((bcell S5).1 0 9 hg).trans q1'
  have q2 := ((bcell S5).1 0 10 hg).trans q2'
  have q3 := ((bcell S5).1 0 11 hg).trans q3'
  rw [rounds_succ]
  go_wp2
  refine region_below 18 follows_mixed (by kernel_rfl) ?_
  intro C hC
  simp only [List.take_succ_cons, List.take_zero, List.drop_succ_cons, List.drop_zero]
  repeat (first
    | ((with_reducible refine quiet_plain rfl (fun K hK => ?_)); (focus (apply quiet_val; (focus (intro w' hw; obtain ⟨hcq, hfq⟩ := bcell ((hC.out _).1 hw); go_simp; (first | done | rfl | (with_reducible exact call_below hC hw (hS _))))); (simp only [Act.put, List.setIfInBounds_toArray, List.set_cons_succ, List.set_cons_zero]); (with_reducible refine hK _ ?_); clear hK K)))
    | ((with_reducible refine quiet_skip ?_ ?_); (focus (first | (simp [Region.wanted, yielded]; done) | (simp [Region.wanted, yielded, undef]; done))); simp only [Act.put, List.setIfInBounds_toArray, List.set_cons_succ, List.set_cons_zero])
    | ((with_reducible refine quiet_go ?_ (fun K hK => ?_)); (focus (first | (simp [Region.wanted, yielded]; done) | (simp [Region.wanted, yielded, undef]; done))); (focus (apply quiet_val; (focus (intro w' hw; obtain ⟨hcq, hfq⟩ := bcell ((hC.out _).1 hw); go_simp; (first | done | rfl | (with_reducible exact call_below hC hw (hS _))))); (simp only [Act.put, List.setIfInBounds_toArray, List.set_cons_succ, List.set_cons_zero]); (with_reducible refine hK _ ?_); clear hK K))))
  refine wpQuiet_nil ?_
  intro w1 hb1
  replace hb1 := (hC.out _).1 hb1
  clear hC C
  obtain ⟨hc1, hf1⟩ := bcell hb1
  go_wp2
  have B6 : Blk (w1.setCell ⟨w.heap.size + 1 + 1, 3, none⟩ (.int .i64 (c * T))) (w.heap.size + 1 + 1) 109 #[.int .i64 (a * T), .int .i64 (b * T), .int .i64 (c * T), .int .i64 (c * T), .int .i64 (a * T), .int .i64 (b * T), .int .i64 0, .int .i64 0, .int .i64 0] := ((B5).past hb1).set_ 3 _
  have R6 : Blk (w1.setCell ⟨w.heap.size + 1 + 1, 3, none⟩ (.int .i64 (c * T))) (w.heap.size + 1) 109 #[.int .i64 0, .int .i64 0, .int .i64 0, .int .i64 0, .int .i64 0, .int .i64 0, .int .i64 0, .int .i64 0, .int .i64 0] := ((R5).past hb1).far (by simp)
  have P6 : Blk (w1.setCell ⟨w.heap.size + 1 + 1, 3, none⟩ (.int .i64 (c * T))) w.heap.size 23 #[.int .i64 2, .int .i64 t, .int .i64 0, .bool r] := ((P5).past hb1).far (by simp; try omega)
  have S6 : Below w.heap.size w (w1.setCell ⟨w.heap.size + 1 + 1, 3, none⟩ (.int .i64 (c * T))) := ps (pt (S5) hb1) (by simp; try omega)
  generalize w1.setCell ⟨w.heap.size + 1 + 1, 3, none⟩ (.int .i64 (c * T)) = W6 at *
  clear hb1 hc1 hf1 q1 q2 q3 B5 R5 P5 S5 cc ff cl p0 p1 p2 p3 pl
  have cc := B6.cellAt 8 rfl
  have ff := B6.frozen 8
  have cl := B6.lt
  have p0 := P6.cellAt 0 rfl
  have p1 := P6.cellAt 1 rfl
  have p2 := P6.cellAt 2 rfl
  have p3 := P6.cellAt 3 rfl
  have pl := P6.lt
  have q1 := ((bcell S6).1 0 9 hg).trans q1'
  have q2 := ((bcell S6).1 0 10 hg).trans q2'
  have q3 := ((bcell S6).1 0 11 hg).trans q3'
  rw [rounds_succ]
  go_wp2
  rw [rounds_succ]
  go_wp2
  refine wp_loop_rounds 4 ?_
  rw [rounds_succ]
  go_wp2
  refine region_below 18 follows_mixed (by kernel_rfl) ?_
  intro C hC
  simp only [List.take_succ_cons, List.take_zero, List.drop_succ_cons, List.drop_zero]
  repeat (first
    | ((with_reducible refine quiet_plain rfl (fun K hK => ?_)); (focus (apply quiet_val; (focus (intro w' hw; obtain ⟨hcq, hfq⟩ := bcell ((hC.out _).1 hw); go_simp; (first | done | rfl | (with_reducible exact call_below hC hw (hS _))))); (simp only [Act.put, List.setIfInBounds_toArray, List.set_cons_succ, List.set_cons_zero]); (with_reducible refine hK _ ?_); clear hK K)))
    | ((with_reducible refine quiet_skip ?_ ?_); (focus (first | (simp [Region.wanted, yielded]; done) | (simp [Region.wanted, yielded, undef]; done))); simp only [Act.put, List.setIfInBounds_toArray, List.set_cons_succ, List.set_cons_zero])
    | ((with_reducible refine quiet_go ?_ (fun K hK => ?_)); (focus (first | (simp [Region.wanted, yielded]; done) | (simp [Region.wanted, yielded, undef]; done))); (focus (apply quiet_val; (focus (intro w' hw; obtain ⟨hcq, hfq⟩ := bcell ((hC.out _).1 hw); go_simp; (first | done | rfl | (with_reducible exact call_below hC hw (hS _))))); (simp only [Act.put, List.setIfInBounds_toArray, List.set_cons_succ, List.set_cons_zero]); (with_reducible refine hK _ ?_); clear hK K))))
  refine wpQuiet_nil ?_
  intro w1 hb1
  replace hb1 := (hC.out _).1 hb1
  clear hC C
  obtain ⟨hc1, hf1⟩ := bcell hb1
  go_wp2
  have B7 : Blk (w1.setCell ⟨w.heap.size + 1 + 1, 8, none⟩ (.int .i64 (a * T))) (w.heap.size + 1 + 1) 109 #[.int .i64 (a * T), .int .i64 (b * T), .int .i64 (c * T), .int .i64 (c * T), .int .i64 (a * T), .int .i64 (b * T), .int .i64 0, .int .i64 0, .int .i64 (a * T)] := ((B6).past hb1).set_ 8 _
  have R7 : Blk (w1.setCell ⟨w.heap.size + 1 + 1, 8, none⟩ (.int .i64 (a * T))) (w.heap.size + 1) 109 #[.int .i64 0, .int .i64 0, .int .i64 0, .int .i64 0, .int .i64 0, .int .i64 0, .int .i64 0, .int .i64 0, .int .i64 0] := ((R6).past hb1).far (by simp)
  have P7 : Blk (w1.setCell ⟨w.heap.size + 1 + 1, 8, none⟩ (.int .i64 (a * T))) w.heap.size 23 #[.int .i64 2, .int .i64 t, .int .i64 0, .bool r] := ((P6).past hb1).far (by simp; try omega)
  have S7 : Below w.heap.size w (w1.setCell ⟨w.heap.size + 1 + 1, 8, none⟩ (.int .i64 (a * T))) := ps (pt (S6) hb1) (by simp; try omega)
  generalize w1.setCell ⟨w.heap.size + 1 + 1, 8, none⟩ (.int .i64 (a * T)) = W7 at *
  clear hb1 hc1 hf1 q1 q2 q3 B6 R6 P6 S6 cc ff cl p0 p1 p2 p3 pl
  have cc := B7.cellAt 6 rfl
  have ff := B7.frozen 6
  have cl := B7.lt
  have p0 := P7.cellAt 0 rfl
  have p1 := P7.cellAt 1 rfl
  have p2 := P7.cellAt 2 rfl
  have p3 := P7.cellAt 3 rfl
  have pl := P7.lt
  have q1 := ((bcell S7).1 0 9 hg).trans q1'
  have q2 := ((bcell S7).1 0 10 hg).trans q2'
  have q3 := ((bcell S7).1 0 11 hg).trans q3'
  rw [rounds_succ]
  go_wp2
  refine region_below 18 follows_mixed (by kernel_rfl) ?_
  intro C hC
  simp only [List.take_succ_cons, List.take_zero, List.drop_succ_cons, List.drop_zero]
  repeat (first
    | ((with_reducible refine quiet_plain rfl (fun K hK => ?_)); (focus (apply quiet_val; (focus (intro w' hw; obtain ⟨hcq, hfq⟩ := bcell ((hC.out _).1 hw); go_simp; (first | done | rfl | (with_reducible exact call_below hC hw (hS _))))); (simp only [Act.put, List.setIfInBounds_toArray, List.set_cons_succ, List.set_cons_zero]); (with_reducible refine hK _ ?_); clear hK K)))
    | ((with_reducible refine quiet_skip ?_ ?_); (focus (first | (simp [Region.wanted, yielded]; done) | (simp [Region.wanted, yielded, undef]; done))); simp only [Act.put, List.setIfInBounds_toArray, List.set_cons_succ, List.set_cons_zero])
    | ((with_reducible refine quiet_go ?_ (fun K hK => ?_)); (focus (first | (simp [Region.wanted, yielded]; done) | (simp [Region.wanted, yielded, undef]; done))); (focus (apply quiet_val; (focus (intro w' hw; obtain ⟨hcq, hfq⟩ := bcell ((hC.out _).1 hw); go_simp; (first | done | rfl | (with_reducible exact call_below hC hw (hS _))))); (simp only [Act.put, List.setIfInBounds_toArray, List.set_cons_succ, List.set_cons_zero]); (with_reducible refine hK _ ?_); clear hK K))))
  refine wpQuiet_nil ?_
  intro w1 hb1
  replace hb1 := (hC.out _).1 hb1
  clear hC C
  obtain ⟨hc1, hf1⟩ := bcell hb1
  go_wp2
  have B8 : Blk (w1.setCell ⟨w.heap.size + 1 + 1, 6, none⟩ (.int .i64 (b * T))) (w.heap.size + 1 + 1) 109 #[.int .i64 (a * T), .int .i64 (b * T), .int .i64 (c * T), .int .i64 (c * T), .int .i64 (a * T), .int .i64 (b * T), .int .i64 (b * T), .int .i64 0, .int .i64 (a * T)] := ((B7).past hb1).set_ 6 _
  have R8 : Blk (w1.setCell ⟨w.heap.size + 1 + 1, 6, none⟩ (.int .i64 (b * T))) (w.heap.size + 1) 109 #[.int .i64 0, .int .i64 0, .int .i64 0, .int .i64 0, .int .i64 0, .int .i64 0, .int .i64 0, .int .i64 0, .int .i64 0] := ((R7).past hb1).far (by simp)
  have P8 : Blk (w1.setCell ⟨w.heap.size + 1 + 1, 6, none⟩ (.int .i64 (b * T))) w.heap.size 23 #[.int .i64 2, .int .i64 t, .int .i64 0, .bool r] := ((P7).past hb1).far (by simp; try omega)
  have S8 : Below w.heap.size w (w1.setCell ⟨w.heap.size + 1 + 1, 6, none⟩ (.int .i64 (b * T))) := ps (pt (S7) hb1) (by simp; try omega)
  generalize w1.setCell ⟨w.heap.size + 1 + 1, 6, none⟩ (.int .i64 (b * T)) = W8 at *
  clear hb1 hc1 hf1 q1 q2 q3 B7 R7 P7 S7 cc ff cl p0 p1 p2 p3 pl
  have cc := B8.cellAt 7 rfl
  have ff := B8.frozen 7
  have cl := B8.lt
  have p0 := P8.cellAt 0 rfl
  have p1 := P8.cellAt 1 rfl
  have p2 := P8.cellAt 2 rfl
  have p3 := P8.cellAt 3 rfl
  have pl := P8.lt
  have q1 := ((bcell S8).1 0 9 hg).trans q1'
  have q2 := ((bcell S8).1 0 10 hg).trans q2'
  have q3 := ((bcell S8).1 0 11 hg).trans q3'
  rw [rounds_succ]
  go_wp2
  refine region_below 18 follows_mixed (by kernel_rfl) ?_
  intro C hC
  simp only [List.take_succ_cons, List.take_zero, List.drop_succ_cons, List.drop_zero]
  repeat (first
    | ((with_reducible refine quiet_plain rfl (fun K hK => ?_)); (focus (apply quiet_val; (focus (intro w' hw; obtain ⟨hcq, hfq⟩ := bcell ((hC.out _).1 hw); go_simp; (first | done | rfl | (with_reducible exact call_below hC hw (hS _))))); (simp only [Act.put, List.setIfInBounds_toArray, List.set_cons_succ, List.set_cons_zero]); (with_reducible refine hK _ ?_); clear hK K)))
    | ((with_reducible refine quiet_skip ?_ ?_); (focus (first | (simp [Region.wanted, yielded]; done) | (simp [Region.wanted, yielded, undef]; done))); simp only [Act.put, List.setIfInBounds_toArray, List.set_cons_succ, List.set_cons_zero])
    | ((with_reducible refine quiet_go ?_ (fun K hK => ?_)); (focus (first | (simp [Region.wanted, yielded]; done) | (simp [Region.wanted, yielded, undef]; done))); (focus (apply quiet_val; (focus (intro w' hw; obtain ⟨hcq, hfq⟩ := bcell ((hC.out _).1 hw); go_simp; (first | done | rfl | (with_reducible exact call_below hC hw (hS _))))); (simp only [Act.put, List.setIfInBounds_toArray, List.set_cons_succ, List.set_cons_zero]); (with_reducible refine hK _ ?_); clear hK K))))
  refine wpQuiet_nil ?_
  intro w1 hb1
  replace hb1 := (hC.out _).1 hb1
  clear hC C
  obtain ⟨hc1, hf1⟩ := bcell hb1
  go_wp2
  have B9 : Blk (w1.setCell ⟨w.heap.size + 1 + 1, 7, none⟩ (.int .i64 (c * T))) (w.heap.size + 1 + 1) 109 #[.int .i64 (a * T), .int .i64 (b * T), .int .i64 (c * T), .int .i64 (c * T), .int .i64 (a * T), .int .i64 (b * T), .int .i64 (b * T), .int .i64 (c * T), .int .i64 (a * T)] := ((B8).past hb1).set_ 7 _
  have R9 : Blk (w1.setCell ⟨w.heap.size + 1 + 1, 7, none⟩ (.int .i64 (c * T))) (w.heap.size + 1) 109 #[.int .i64 0, .int .i64 0, .int .i64 0, .int .i64 0, .int .i64 0, .int .i64 0, .int .i64 0, .int .i64 0, .int .i64 0] := ((R8).past hb1).far (by simp)
  have P9 : Blk (w1.setCell ⟨w.heap.size + 1 + 1, 7, none⟩ (.int .i64 (c * T))) w.heap.size 23 #[.int .i64 2, .int .i64 t, .int .i64 0, .bool r] := ((P8).past hb1).far (by simp; try omega)
  have S9 : Below w.heap.size w (w1.setCell ⟨w.heap.size + 1 + 1, 7, none⟩ (.int .i64 (c * T))) := ps (pt (S8) hb1) (by simp; try omega)
  generalize w1.setCell ⟨w.heap.size + 1 + 1, 7, none⟩ (.int .i64 (c * T)) = W9 at *
  clear hb1 hc1 hf1 q1 q2 q3 B8 R8 P8 S8 cc ff cl p0 p1 p2 p3 pl
  have cl := B9.lt
  have p0 := P9.cellAt 0 rfl
  have p1 := P9.cellAt 1 rfl
  have p2 := P9.cellAt 2 rfl
  have p3 := P9.cellAt 3 rfl
  have pl := P9.lt
  have q1 := ((bcell S9).1 0 9 hg).trans q1'
  have q2 := ((bcell S9).1 0 10 hg).trans q2'
  have q3 := ((bcell S9).1 0 11 hg).trans q3'
  rw [rounds_succ]
  go_wp2
  clear P9 p0 p1 p2 p3 pl q1 q2 q3 q1' q2' q3' hS hg ha hb hc za zb zc z0 z1 z2 z3 z4 z5 z6
  rw [rounds_succ]
  go_wp2_with (first
    | ((with_reducible refine load_blk (T := 109) (x := .tmp 3) B9 Tryd.underlying109 ?_ ?_ ?_ ?_); (focus rfl); (focus exact lines_size); (focus rfl))
    | ((with_reducible refine store_blk (T := 109) (x := .tmp 2) (y := .tmp 39) (vs := #[.int .i64 (a * T), .int .i64 (b * T), .int .i64 (c * T), .int .i64 (c * T), .int .i64 (a * T), .int .i64 (b * T), .int .i64 (b * T), .int .i64 (c * T), .int .i64 (a * T)]) R9 ?_ ?_ ?_ ?_ ?_ ?_); (focus rfl); (focus exact lines_size); (focus (simp [Value.oneCell']; done)); (focus rfl); (focus rfl); intro WF RF PF))
  have g0 := RF.cellAt 0 rfl
  have g1 := RF.cellAt 1 rfl
  have g2 := RF.cellAt 2 rfl
  have g3 := RF.cellAt 3 rfl
  have g4 := RF.cellAt 4 rfl
  have g5 := RF.cellAt 5 rfl
  have g6 := RF.cellAt 6 rfl
  have g7 := RF.cellAt 7 rfl
  have g8 := RF.cellAt 8 rfl
  exact bodyPost_ret (v := .agg #[.int .i64 (a * T), .int .i64 (b * T), .int .i64 (c * T), .int .i64 (c * T), .int .i64 (a * T), .int .i64 (b * T), .int .i64 (b * T), .int .i64 (c * T), .int .i64 (a * T)]) (by simp [results, Tryd.results63, go_sem, g0, g1, g2, g3, g4, g5, g6, g7, g8]) rfl ⟨rfl, pp S9 PF (by omega)⟩

set_option maxHeartbeats 8000000 in
set_option maxRecDepth 100000 in
theorem linesOf_21 (a b c t T : Int) (r : Bool) (w : World) (ha : Sm 4000 (a * T)) (hb : Sm 4000 (b * T)) (hc : Sm 4000 (c * T)) (hg : 0 < w.heap.size)
    (q1 : w.cell? ⟨0, 9, none⟩ = some (.int .i64 a))
    (q2 : w.cell? ⟨0, 10, none⟩ = some (.int .i64 b))
    (q3 : w.cell? ⟨0, 11, none⟩ = some (.int .i64 c))
    (hS : ∀ w, Calls Tryd.prog 64 #[.agg #[.int .i64 2, .int .i64 t, .int .i64 1, .bool r]] w fun e w' => e = .returned (.int .i64 T) ∧ Below w.heap.size w w') :
    Calls Tryd.prog 63 #[.agg #[.int .i64 2, .int .i64 t, .int .i64 1, .bool r]] w fun e w' => e = .returned (.agg #[.int .i64 (c * T), .int .i64 (a * T), .int .i64 (b * T), .int .i64 (b * T), .int .i64 (c * T), .int .i64 (a * T), .int .i64 (a * T), .int .i64 (b * T), .int .i64 (c * T)]) ∧ Below w.heap.size w w' := by
  have q1' := q1
  have q2' := q2
  have q3' := q3
  unfold Sm at ha hb hc
  have z0 : IntKind.i64.wrap 0 = 0 := by decide
  have z1 : IntKind.i64.wrap 1 = 1 := by decide
  have z2 : IntKind.i64.wrap 2 = 2 := by decide
  have z3 : IntKind.i64.wrap 3 = 3 := by decide
  have z4 : IntKind.i64.wrap 4 = 4 := by decide
  have z5 : IntKind.i64.wrap 5 = 5 := by decide
  have z6 : IntKind.i64.wrap 6 = 6 := by decide
  have za : IntKind.i64.wrap (a * T) = a * T := IntWalk.i64_in _ (by omega)
  have zb : IntKind.i64.wrap (b * T) = b * T := IntWalk.i64_in _ (by omega)
  have zc : IntKind.i64.wrap (c * T) = c * T := IntWalk.i64_in _ (by omega)
  go_enter Tryd.func63, Tryd.ntmps63
  go_wp2
  refine wp_loop_rounds 4 ?_
  rw [rounds_succ]
  go_wp2
  refine wp_loop_rounds 4 ?_
  rw [rounds_succ]
  go_wp2
  refine region_below 18 follows_mixed (by kernel_rfl) ?_
  intro C hC
  simp only [List.take_succ_cons, List.take_zero, List.drop_succ_cons, List.drop_zero]
  repeat (first
    | ((with_reducible refine quiet_plain rfl (fun K hK => ?_)); (focus (apply quiet_val; (focus (intro w' hw; obtain ⟨hcq, hfq⟩ := bcell ((hC.out _).1 hw); go_simp; (first | done | rfl | (with_reducible exact call_below hC hw (hS _))))); (simp only [Act.put, List.setIfInBounds_toArray, List.set_cons_succ, List.set_cons_zero]); (with_reducible refine hK _ ?_); clear hK K)))
    | ((with_reducible refine quiet_skip ?_ ?_); (focus (first | (simp [Region.wanted, yielded]; done) | (simp [Region.wanted, yielded, undef]; done))); simp only [Act.put, List.setIfInBounds_toArray, List.set_cons_succ, List.set_cons_zero])
    | ((with_reducible refine quiet_go ?_ (fun K hK => ?_)); (focus (first | (simp [Region.wanted, yielded]; done) | (simp [Region.wanted, yielded, undef]; done))); (focus (apply quiet_val; (focus (intro w' hw; obtain ⟨hcq, hfq⟩ := bcell ((hC.out _).1 hw); go_simp; (first | done | rfl | (with_reducible exact call_below hC hw (hS _))))); (simp only [Act.put, List.setIfInBounds_toArray, List.set_cons_succ, List.set_cons_zero]); (with_reducible refine hK _ ?_); clear hK K))))
  refine wpQuiet_nil ?_
  intro w1 hb1
  replace hb1 := (hC.out _).1 hb1
  clear hC C
  obtain ⟨hc1, hf1⟩ := bcell hb1
  go_wp2
  have B1 : Blk (w1.setCell ⟨w.heap.size + 1 + 1, 1, none⟩ (.int .i64 (a * T))) (w.heap.size + 1 + 1) 109 #[.int .i64 0, .int .i64 (a * T), .int .i64 0, .int .i64 0, .int .i64 0, .int .i64 0, .int .i64 0, .int .i64 0, .int .i64 0] := ((Blk.newAt (by simp)).past hb1).set_ 1 _
  have R1 : Blk (w1.setCell ⟨w.heap.size + 1 + 1, 1, none⟩ (.int .i64 (a * T))) (w.heap.size + 1) 109 #[.int .i64 0, .int .i64 0, .int .i64 0, .int .i64 0, .int .i64 0, .int .i64 0, .int .i64 0, .int .i64 0, .int .i64 0] := (((Blk.newAt (by simp)).alloc).past hb1).far (by simp)
  have P1 : Blk (w1.setCell ⟨w.heap.size + 1 + 1, 1, none⟩ (.int .i64 (a * T))) w.heap.size 23 #[.int .i64 2, .int .i64 t, .int .i64 1, .bool r] := (((Blk.newAt (by simp)).alloc.alloc).past hb1).far (by simp; try omega)
  have S1 : Below w.heap.size w (w1.setCell ⟨w.heap.size + 1 + 1, 1, none⟩ (.int .i64 (a * T))) := ps (pt (pa (pa (pa pr))) hb1) (by simp; try omega)
  generalize w1.setCell ⟨w.heap.size + 1 + 1, 1, none⟩ (.int .i64 (a * T)) = W1 at *
  clear hb1 hc1 hf1 q1 q2 q3 
  have cc := B1.cellAt 2 rfl
  have ff := B1.frozen 2
  have cl := B1.lt
  have p0 := P1.cellAt 0 rfl
  have p1 := P1.cellAt 1 rfl
  have p2 := P1.cellAt 2 rfl
  have p3 := P1.cellAt 3 rfl
  have pl := P1.lt
  have q1 := ((bcell S1).1 0 9 hg).trans q1'
  have q2 := ((bcell S1).1 0 10 hg).trans q2'
  have q3 := ((bcell S1).1 0 11 hg).trans q3'
  rw [rounds_succ]
  go_wp2
  refine region_below 18 follows_mixed (by kernel_rfl) ?_
  intro C hC
  simp only [List.take_succ_cons, List.take_zero, List.drop_succ_cons, List.drop_zero]
  repeat (first
    | ((with_reducible refine quiet_plain rfl (fun K hK => ?_)); (focus (apply quiet_val; (focus (intro w' hw; obtain ⟨hcq, hfq⟩ := bcell ((hC.out _).1 hw); go_simp; (first | done | rfl | (with_reducible exact call_below hC hw (hS _))))); (simp only [Act.put, List.setIfInBounds_toArray, List.set_cons_succ, List.set_cons_zero]); (with_reducible refine hK _ ?_); clear hK K)))
    | ((with_reducible refine quiet_skip ?_ ?_); (focus (first | (simp [Region.wanted, yielded]; done) | (simp [Region.wanted, yielded, undef]; done))); simp only [Act.put, List.setIfInBounds_toArray, List.set_cons_succ, List.set_cons_zero])
    | ((with_reducible refine quiet_go ?_ (fun K hK => ?_)); (focus (first | (simp [Region.wanted, yielded]; done) | (simp [Region.wanted, yielded, undef]; done))); (focus (apply quiet_val; (focus (intro w' hw; obtain ⟨hcq, hfq⟩ := bcell ((hC.out _).1 hw); go_simp; (first | done | rfl | (with_reducible exact call_below hC hw (hS _))))); (simp only [Act.put, List.setIfInBounds_toArray, List.set_cons_succ, List.set_cons_zero]); (with_reducible refine hK _ ?_); clear hK K))))
  refine wpQuiet_nil ?_
  intro w1 hb1
  replace hb1 := (hC.out _).1 hb1
  clear hC C
  obtain ⟨hc1, hf1⟩ := bcell hb1
  go_wp2
  have B2 : Blk (w1.setCell ⟨w.heap.size + 1 + 1, 2, none⟩ (.int .i64 (b * T))) (w.heap.size + 1 + 1) 109 #[.int .i64 0, .int .i64 (a * T), .int .i64 (b * T), .int .i64 0, .int .i64 0, .int .i64 0, .int .i64 0, .int .i64 0, .int .i64 0] := ((B1).past hb1).set_ 2 _
  have R2 : Blk (w1.setCell ⟨w.heap.size + 1 + 1, 2, none⟩ (.int .i64 (b * T))) (w.heap.size + 1) 109 #[.int .i64 0, .int .i64 0, .int .i64 0, .int .i64 0, .int .i64 0, .int .i64 0, .int .i64 0, .int .i64 0, .int .i64 0] := ((R1).past hb1).far (by simp)
  have P2 : Blk (w1.setCell ⟨w.heap.size + 1 + 1, 2, none⟩ (.int .i64 (b * T))) w.heap.size 23 #[.int .i64 2, .int .i64 t, .int .i64 1, .bool r] := ((P1).past hb1).far (by simp; try omega)
  have S2 : Below w.heap.size w (w1.setCell ⟨w.heap.size + 1 + 1, 2, none⟩ (.int .i64 (b * T))) := ps (pt (S1) hb1) (by simp; try omega)
  generalize w1.setCell ⟨w.heap.size + 1 + 1, 2, none⟩ (.int .i64 (b * T)) = W2 at *
  clear hb1 hc1 hf1 q1 q2 q3 B1 R1 P1 S1 cc ff cl p0 p1 p2 p3 pl
  have cc := B2.cellAt 0 rfl
  have ff := B2.frozen 0
  have cl := B2.lt
  have p0 := P2.cellAt 0 rfl
  have p1 := P2.cellAt 1 rfl
  have p2 := P2.cellAt 2 rfl
  have p3 := P2.cellAt 3 rfl
  have pl := P2.lt
  have q1 := ((bcell S2).1 0 9 hg).trans q1'
  have q2 := ((bcell S2).1 0 10 hg).trans q2'
  have q3 := ((bcell S2).1 0 11 hg).trans q3'
  rw [rounds_succ]
  go_wp2
  refine region_below 18 follows_mixed (by kernel_rfl) ?_
  intro C hC
  simp only [List.take_succ_cons, List.take_zero, List.drop_succ_cons, List.drop_zero]
  repeat (first
    | ((with_reducible refine quiet_plain rfl (fun K hK => ?_)); (focus (apply quiet_val; (focus (intro w' hw; obtain ⟨hcq, hfq⟩ := bcell ((hC.out _).1 hw); go_simp; (first | done | rfl | (with_reducible exact call_below hC hw (hS _))))); (simp only [Act.put, List.setIfInBounds_toArray, List.set_cons_succ, List.set_cons_zero]); (with_reducible refine hK _ ?_); clear hK K)))
    | ((with_reducible refine quiet_skip ?_ ?_); (focus (first | (simp [Region.wanted, yielded]; done) | (simp [Region.wanted, yielded, undef]; done))); simp only [Act.put, List.setIfInBounds_toArray, List.set_cons_succ, List.set_cons_zero])
    | ((with_reducible refine quiet_go ?_ (fun K hK => ?_)); (focus (first | (simp [Region.wanted, yielded]; done) | (simp [Region.wanted, yielded, undef]; done))); (focus (apply quiet_val; (focus (intro w' hw; obtain ⟨hcq, hfq⟩ := bcell ((hC.out _).1 hw); go_simp; (first | done | rfl | (with_reducible exact call_below hC hw (hS _))))); (simp only [Act.put, List.setIfInBounds_toArray, List.set_cons_succ, List.set_cons_zero]); (with_reducible refine hK _ ?_); clear hK K))))
  refine wpQuiet_nil ?_
  intro w1 hb1
  replace hb1 := (hC.out _).1 hb1
  clear hC C
  obtain ⟨hc1, hf1⟩ := bcell hb1
  go_wp2
  have B3 : Blk (w1.setCell ⟨w.heap.size + 1 + 1, 0, none⟩ (.int .i64 (c * T))) (w.heap.size + 1 + 1) 109 #[.int .i64 (c * T), .int .i64 (a * T), .int .i64 (b * T), .int .i64 0, .int .i64 0, .int .i64 0, .int .i64 0, .int .i64 0, .int .i64 0] := ((B2).past hb1).set_ 0 _
  have R3 : Blk (w1.setCell ⟨w.heap.size + 1 + 1, 0, none⟩ (.int .i64 (c * T))) (w.heap.size + 1) 109 #[.int .i64 0, .int .i64 0, .int .i64 0, .int .i64 0, .int .i64 0, .int .i64 0, .int .i64 0, .int .i64 0, .int .i64 0] := ((R2).past hb1).far (by simp)
  have P3 : Blk (w1.setCell ⟨w.heap.size + 1 + 1, 0, none⟩ (.int .i64 (c * T))) w.heap.size 23 #[.int .i64 2, .int .i64 t, .int .i64 1, .bool r] := ((P2).past hb1).far (by simp; try omega)
  have S3 : Below w.heap.size w (w1.setCell ⟨w.heap.size + 1 + 1, 0, none⟩ (.int .i64 (c * T))) := ps (pt (S2) hb1) (by simp; try omega)
  generalize w1.setCell ⟨w.heap.size + 1 + 1, 0, none⟩ (.int .i64 (c * T)) = W3 at *
  clear hb1 hc1 hf1 q1 q2 q3 B2 R2 P2 S2 cc ff cl p0 p1 p2 p3 pl
  have cc := B3.cellAt 5 rfl
  have ff := B3.frozen 5
  have cl := B3.lt
  have p0 := P3.cellAt 0 rfl
  have p1 := P3.cellAt 1 rfl
  have p2 := P3.cellAt 2 rfl
  have p3 := P3.cellAt 3 rfl
  have pl := P3.lt
  have q1 := ((bcell S3).1 0 9 hg).trans q1'
  have q2 := ((bcell S3).1 0 10 hg).trans q2'
  have q3 := ((bcell S3).1 0 11 hg).trans q3'
  rw [rounds_succ]
  go_wp2
  rw [rounds_succ]
  go_wp2
  refine wp_loop_rounds 4 ?_
  rw [rounds_succ]
  go_wp2
  refine region_below 18 follows_mixed (by kernel_rfl) ?_
  intro C hC
  simp only [List.take_succ_cons, List.take_zero, List.drop_succ_cons, List.drop_zero]
  repeat (first
    | ((with_reducible refine quiet_plain rfl (fun K hK => ?_)); (focus (apply quiet_val; (focus (intro w' hw; obtain ⟨hcq, hfq⟩ := bcell ((hC.out _).1 hw); go_simp; (first | done | rfl | (with_reducible exact call_below hC hw (hS _))))); (simp only [Act.put, List.setIfInBounds_toArray, List.set_cons_succ, List.set_cons_zero]); (with_reducible refine hK _ ?_); clear hK K)))
    | ((with_reducible refine quiet_skip ?_ ?_); (focus (first | (simp [Region.wanted, yielded]; done) | (simp [Region.wanted, yielded, undef]; done))); simp only [Act.put, List.setIfInBounds_toArray, List.set_cons_succ, List.set_cons_zero])
    | ((with_reducible refine quiet_go ?_ (fun K hK => ?_)); (focus (first | (simp [Region.wanted, yielded]; done) | (simp [Region.wanted, yielded, undef]; done))); (focus (apply quiet_val; (focus (intro w' hw; obtain ⟨hcq, hfq⟩ := bcell ((hC.out _).1 hw); go_simp; (first | done | rfl | (with_reducible exact call_below hC hw (hS _))))); (simp only [Act.put, List.setIfInBounds_toArray, List.set_cons_succ, List.set_cons_zero]); (with_reducible refine hK _ ?_); clear hK K))))
  refine wpQuiet_nil ?_
  intro w1 hb1
  replace hb1 := (hC.out _).1 hb1
  clear hC C
  obtain ⟨hc1, hf1⟩ := bcell hb1
  go_wp2
  have B4 : Blk (w1.setCell ⟨w.heap.size + 1 + 1, 5, none⟩ (.int .i64 (a * T))) (w.heap.size + 1 + 1) 109 #[.int .i64 (c * T), .int .i64 (a * T), .int .i64 (b * T), .int .i64 0, .int .i64 0, .int .i64 (a * T), .int .i64 0, .int .i64 0, .int .i64 0] := ((B3).past hb1).set_ 5 _
  have R4 : Blk (w1.setCell ⟨w.heap.size + 1 + 1, 5, none⟩ (.int .i64 (a * T))) (w.heap.size + 1) 109 #[.int .i64 0, .int .i64 0, .int .i64 0, .int .i64 0, .int .i64 0, .int .i64 0, .int .i64 0, .int .i64 0, .int .i64 0] := ((R3).past hb1).far (by simp)
  have P4 : Blk (w1.setCell ⟨w.heap.size + 1 + 1, 5, none⟩ (.int .i64 (a * T))) w.heap.size 23 #[.int .i64 2, .int .i64 t, .int .i64 1, .bool r] := ((P3).past hb1).far (by simp; try omega)
  have S4 : Below w.heap.size w (w1.setCell ⟨w.heap.size + 1 + 1, 5, none⟩ (.int .i64 (a * T))) := ps (pt (S3) hb1) (by simp; try omega)
  generalize w1.setCell ⟨w.heap.size + 1 + 1, 5, none⟩ (.int .i64 (a * T)) = W4 at *
  clear hb1 hc1 hf1 q1 q2 q3 B3 R3 P3 S3 cc ff cl p0 p1 p2 p3 pl
  have cc := B4.cellAt 3 rfl
  have ff := B4.frozen 3
  have cl := B4.lt
  have p0 := P4.cellAt 0 rfl
  have p1 := P4.cellAt 1 rfl
  have p2 := P4.cellAt 2 rfl
  have p3 := P4.cellAt 3 rfl
  have pl := P4.lt
  have q1 := ((bcell S4).1 0 9 hg).trans q1'
  have q2 := ((bcell S4).1 0 10 hg).trans q2'
  have q3 := ((bcell S4).1 0 11 hg).trans q3'
  rw [rounds_succ]
  go_wp2
  refine region_below 18 follows_mixed (by kernel_rfl) ?_
  intro C hC
  simp only [List.take_succ_cons, List.take_zero, List.drop_succ_cons, List.drop_zero]
  repeat (first
    | ((with_reducible refine quiet_plain rfl (fun K hK => ?_)); (focus (apply quiet_val; (focus (intro w' hw; obtain ⟨hcq, hfq⟩ := bcell ((hC.out _).1 hw); go_simp; (first | done | rfl | (with_reducible exact call_below hC hw (hS _))))); (simp only [Act.put, List.setIfInBounds_toArray, List.set_cons_succ, List.set_cons_zero]); (with_reducible refine hK _ ?_); clear hK K)))
    | ((with_reducible refine quiet_skip ?_ ?_); (focus (first | (simp [Region.wanted, yielded]; done) | (simp [Region.wanted, yielded, undef]; done))); simp only [Act.put, List.setIfInBounds_toArray, List.set_cons_succ, List.set_cons_zero])
    | ((with_reducible refine quiet_go ?_ (fun K hK => ?_)); (focus (first | (simp [Region.wanted, yielded]; done) | (simp [Region.wanted, yielded, undef]; done))); (focus (apply quiet_val; (focus (intro w' hw; obtain ⟨hcq, hfq⟩ := bcell ((hC.out _).1 hw); go_simp; (first | done | rfl | (with_reducible exact call_below hC hw (hS _))))); (simp only [Act.put, List.setIfInBounds_toArray, List.set_cons_succ, List.set_cons_zero]); (with_reducible refine hK _ ?_); clear hK K))))
  refine wpQuiet_nil ?_
  intro w1 hb1
  replace hb1 := (hC.out _).1 hb1
  clear hC C
  obtain ⟨hc1, hf1⟩ := bcell hb1
  go_wp2
  have B5 : Blk (w1.setCell ⟨w.heap.size + 1 + 1, 3, none⟩ (.int .i64 (b * T))) (w.heap.size + 1 + 1) 109 #[.int .i64 (c * T), .int .i64 (a * T), .int .i64 (b * T), .int .i64 (b * T), .int .i64 0, .int .i64 (a * T), .int .i64 0, .int .i64 0, .int .i64 0] := ((B4).past hb1).set_ 3 _
  have R5 : Blk (w1.setCell ⟨w.heap.size + 1 + 1, 3, none⟩ (.int .i64 (b * T))) (w.heap.size + 1) 109 #[.int .i64 0, .int .i64 0, .int .i64 0, .int .i64 0, .int .i64 0, .int .i64 0, .int .i64 0, .int .i64 0, .int .i64 0] := ((R4).past hb1).far (by simp)
  have P5 : Blk (w1.setCell ⟨w.heap.size + 1 + 1, 3, none⟩ (.int .i64 (b * T))) w.heap.size 23 #[.int .i64 2, .int .i64 t, .int .i64 1, .bool r] := ((P4).past hb1).far (by simp; try omega)
  have S5 : Below w.heap.size w (w1.setCell ⟨w.heap.size + 1 + 1, 3, none⟩ (.int .i64 (b * T))) := ps (pt (S4) hb1) (by simp; try omega)
  generalize w1.setCell ⟨w.heap.size + 1 + 1, 3, none⟩ (.int .i64 (b * T)) = W5 at *
  clear hb1 hc1 hf1 q1 q2 q3 B4 R4 P4 S4 cc ff cl p0 p1 p2 p3 pl
  have cc := B5.cellAt 4 rfl
  have ff := B5.frozen 4
  have cl := B5.lt
  have p0 := P5.cellAt 0 rfl
  have p1 := P5.cellAt 1 rfl
  have p2 := P5.cellAt 2 rfl
  have p3 := P5.cellAt 3 rfl
  have pl := P5.lt
  have q1 := ((bcell S5).1 0 9 hg).trans q1'
  have q2 := ((bcell S5).1 0 10 hg).trans q2'
  have q3 := ((bcell S5).1 0 11 hg).trans q3'
  rw [rounds_succ]
  go_wp2
  refine region_below 18 follows_mixed (by kernel_rfl) ?_
  intro C hC
  simp only [List.take_succ_cons, List.take_zero, List.drop_succ_cons, List.drop_zero]
  repeat (first
    | ((with_reducible refine quiet_plain rfl (fun K hK => ?_)); (focus (apply quiet_val; (focus (intro w' hw; obtain ⟨hcq, hfq⟩ := bcell ((hC.out _).1 hw); go_simp; (first | done | rfl | (with_reducible exact call_below hC hw (hS _))))); (simp only [Act.put, List.setIfInBounds_toArray, List.set_cons_succ, List.set_cons_zero]); (with_reducible refine hK _ ?_); clear hK K)))
    | ((with_reducible refine quiet_skip ?_ ?_); (focus (first | (simp [Region.wanted, yielded]; done) | (simp [Region.wanted, yielded, undef]; done))); simp only [Act.put, List.setIfInBounds_toArray, List.set_cons_succ, List.set_cons_zero])
    | ((with_reducible refine quiet_go ?_ (fun K hK => ?_)); (focus (first | (simp [Region.wanted, yielded]; done) | (simp [Region.wanted, yielded, undef]; done))); (focus (apply quiet_val; (focus (intro w' hw; obtain ⟨hcq, hfq⟩ := bcell ((hC.out _).1 hw); go_simp; (first | done | rfl | (with_reducible exact call_below hC hw (hS _))))); (simp only [Act.put, List.setIfInBounds_toArray, List.set_cons_succ, List.set_cons_zero]); (with_reducible refine hK _ ?_); clear hK K))))
  refine wpQuiet_nil ?_
  intro w1 hb1
  replace hb1 := (hC.out _).1 hb1
  clear hC C
  obtain ⟨hc1, hf1⟩ := bcell hb1
  go_wp2
  have B6 : Blk (w1.setCell ⟨w.heap.size + 1 + 1, 4, none⟩ (.int .i64 (c * T))) (w.heap.size + 1 + 1) 109 #[.int .i64 (c * T), .int .i64 (a * T), .int .i64 (b * T), .int .i64 (b * T), .int .i64 (c * T), .int .i64 (a * T), .int .i64 0, .int .i64 0, .int .i64 0] := ((B5).past hb1).set_ 4 _
  have R6 : Blk (w1.setCell ⟨w.heap.size + 1 + 1, 4, none⟩ (.int .i64 (c * T))) (w.heap.size + 1) 109 #[.int .i64 0, .int .i64 0, .int .i64 0, .int .i64 0, .int .i64 0, .int .i64 0, .int .i64 0, .int .i64 0, .int .i64 0] := ((R5).past hb1).far (by simp)
  have P6 : Blk (w1.setCell ⟨w.heap.size + 1 + 1, 4, none⟩ (.int .i64 (c * T))) w.heap.size 23 #[.int .i64 2, .int .i64 t, .int .i64 1, .bool r] := ((P5).past hb1).far (by simp; try omega)
  have S6 : Below w.heap.size w (w1.setCell ⟨w.heap.size + 1 + 1, 4, none⟩ (.int .i64 (c * T))) := ps (pt (S5) hb1) (by simp; try omega)
  generalize w1.setCell ⟨w.heap.size + 1 + 1, 4, none⟩ (.int .i64 (c * T)) = W6 at *
  clear hb1 hc1 hf1 q1 q2 q3 B5 R5 P5 S5 cc ff cl p0 p1 p2 p3 pl
  have cc := B6.cellAt 6 rfl
  have ff := B6.frozen 6
  have cl := B6.lt
  have p0 := P6.cellAt 0 rfl
  have p1 := P6.cellAt 1 rfl
  have p2 := P6.cellAt 2 rfl
  have p3 := P6.cellAt 3 rfl
  have pl := P6.lt
  have q1 := ((bcell S6).1 0 9 hg).trans q1'
  have q2 := ((bcell S6).1 0 10 hg).trans q2'
  have q3 := ((bcell S6).1 0 11 hg).trans q3'
  rw [rounds_succ]
  go_wp2
  rw [rounds_succ]
  go_wp2
  refine wp_loop_rounds 4 ?_
  rw [rounds_succ]
  go_wp2
  refine region_below 18 follows_mixed (by kernel_rfl) ?_
  intro C hC
  simp only [List.take_succ_cons, List.take_zero, List.drop_succ_cons, List.drop_zero]
  repeat (first
    | ((with_reducible refine quiet_plain rfl (fun K hK => ?_)); (focus (apply quiet_val; (focus (intro w' hw; obtain ⟨hcq, hfq⟩ := bcell ((hC.out _).1 hw); go_simp; (first | done | rfl | (with_reducible exact call_below hC hw (hS _))))); (simp only [Act.put, List.setIfInBounds_toArray, List.set_cons_succ, List.set_cons_zero]); (with_reducible refine hK _ ?_); clear hK K)))
    | ((with_reducible refine quiet_skip ?_ ?_); (focus (first | (simp [Region.wanted, yielded]; done) | (simp [Region.wanted, yielded, undef]; done))); simp only [Act.put, List.setIfInBounds_toArray, List.set_cons_succ, List.set_cons_zero])
    | ((with_reducible refine quiet_go ?_ (fun K hK => ?_)); (focus (first | (simp [Region.wanted, yielded]; done) | (simp [Region.wanted, yielded, undef]; done))); (focus (apply quiet_val; (focus (intro w' hw; obtain ⟨hcq, hfq⟩ := bcell ((hC.out _).1 hw); go_simp; (first | done | rfl | (with_reducible exact call_below hC hw (hS _))))); (simp only [Act.put, List.setIfInBounds_toArray, List.set_cons_succ, List.set_cons_zero]); (with_reducible refine hK _ ?_); clear hK K))))
  refine wpQuiet_nil ?_
  intro w1 hb1
  replace hb1 := (hC.out _).1 hb1
  clear hC C
  obtain ⟨hc1, hf1⟩ := bcell hb1
  go_wp2
  have B7 : Blk (w1.setCell ⟨w.heap.size + 1 + 1, 6, none⟩ (.int .i64 (a * T))) (w.heap.size + 1 + 1) 109 #[.int .i64 (c * T), .int .i64 (a * T), .int .i64 (b * T), .int .i64 (b * T), .int .i64 (c * T), .int .i64 (a * T), .int .i64 (a * T), .int .i64 0, .int .i64 0] := ((B6).past hb1).set_ 6 _
  have R7 : Blk (w1.setCell ⟨w.heap.size + 1 + 1, 6, none⟩ (.int .i64 (a * T))) (w.heap.size + 1) 109 #[.int .i64 0, .int .i64 0, .int .i64 0, .int .i64 0, .int .i64 0, .int .i64 0, .int .i64 0, .int .i64 0, .int .i64 0] := ((R6).past hb1).far (by simp)
  have P7 : Blk (w1.setCell ⟨w.heap.size + 1 + 1, 6, none⟩ (.int .i64 (a * T))) w.heap.size 23 #[.int .i64 2, .int .i64 t, .int .i64 1, .bool r] := ((P6).past hb1).far (by simp; try omega)
  have S7 : Below w.heap.size w (w1.setCell ⟨w.heap.size + 1 + 1, 6, none⟩ (.int .i64 (a * T))) := ps (pt (S6) hb1) (by simp; try omega)
  generalize w1.setCell ⟨w.heap.size + 1 + 1, 6, none⟩ (.int .i64 (a * T)) = W7 at *
  clear hb1 hc1 hf1 q1 q2 q3 B6 R6 P6 S6 cc ff cl p0 p1 p2 p3 pl
  have cc := B7.cellAt 7 rfl
  have ff := B7.frozen 7
  have cl := B7.lt
  have p0 := P7.cellAt 0 rfl
  have p1 := P7.cellAt 1 rfl
  have p2 := P7.cellAt 2 rfl
  have p3 := P7.cellAt 3 rfl
  have pl := P7.lt
  have q1 := ((bcell S7).1 0 9 hg).trans q1'
  have q2 := ((bcell S7).1 0 10 hg).trans q2'
  have q3 := ((bcell S7).1 0 11 hg).trans q3'
  rw [rounds_succ]
  go_wp2
  refine region_below 18 follows_mixed (by kernel_rfl) ?_
  intro C hC
  simp only [List.take_succ_cons, List.take_zero, List.drop_succ_cons, List.drop_zero]
  repeat (first
    | ((with_reducible refine quiet_plain rfl (fun K hK => ?_)); (focus (apply quiet_val; (focus (intro w' hw; obtain ⟨hcq, hfq⟩ := bcell ((hC.out _).1 hw); go_simp; (first | done | rfl | (with_reducible exact call_below hC hw (hS _))))); (simp only [Act.put, List.setIfInBounds_toArray, List.set_cons_succ, List.set_cons_zero]); (with_reducible refine hK _ ?_); clear hK K)))
    | ((with_reducible refine quiet_skip ?_ ?_); (focus (first | (simp [Region.wanted, yielded]; done) | (simp [Region.wanted, yielded, undef]; done))); simp only [Act.put, List.setIfInBounds_toArray, List.set_cons_succ, List.set_cons_zero])
    | ((with_reducible refine quiet_go ?_ (fun K hK => ?_)); (focus (first | (simp [Region.wanted, yielded]; done) | (simp [Region.wanted, yielded, undef]; done))); (focus (apply quiet_val; (focus (intro w' hw; obtain ⟨hcq, hfq⟩ := bcell ((hC.out _).1 hw); go_simp; (first | done | rfl | (with_reducible exact call_below hC hw (hS _))))); (simp only [Act.put, List.setIfInBounds_toArray, List.set_cons_succ, List.set_cons_zero]); (with_reducible refine hK _ ?_); clear hK K))))
  refine wpQuiet_nil ?_
  intro w1 hb1
  replace hb1 := (hC.out _).1 hb1
  clear hC C
  obtain ⟨hc1, hf1⟩ := bcell hb1
  go_wp2
  have B8 : Blk (w1.setCell ⟨w.heap.size + 1 + 1, 7, none⟩ (.int .i64 (b * T))) (w.heap.size + 1 + 1) 109 #[.int .i64 (c * T), .int .i64 (a * T), .int .i64 (b * T), .int .i64 (b * T), .int .i64 (c * T), .int .i64 (a * T), .int .i64 (a * T), .int .i64 (b * T), .int .i64 0] := ((B7).past hb1).set_ 7 _
  have R8 : Blk (w1.setCell ⟨w.heap.size + 1 + 1, 7, none⟩ (.int .i64 (b * T))) (w.heap.size + 1) 109 #[.int .i64 0, .int .i64 0, .int .i64 0, .int .i64 0, .int .i64 0, .int .i64 0, .int .i64 0, .int .i64 0, .int .i64 0] := ((R7).past hb1).far (by simp)
  have P8 : Blk (w1.setCell ⟨w.heap.size + 1 + 1, 7, none⟩ (.int .i64 (b * T))) w.heap.size 23 #[.int .i64 2, .int .i64 t, .int .i64 1, .bool r] := ((P7).past hb1).far (by simp; try omega)
  have S8 : Below w.heap.size w (w1.setCell ⟨w.heap.size + 1 + 1, 7, none⟩ (.int .i64 (b * T))) := ps (pt (S7) hb1) (by simp; try omega)
  generalize w1.setCell ⟨w.heap.size + 1 + 1, 7, none⟩ (.int .i64 (b * T)) = W8 at *
  clear hb1 hc1 hf1 q1 q2 q3 B7 R7 P7 S7 cc ff cl p0 p1 p2 p3 pl
  have cc := B8.cellAt 8 rfl
  have ff := B8.frozen 8
  have cl := B8.lt
  have p0 := P8.cellAt 0 rfl
  have p1 := P8.cellAt 1 rfl
  have p2 := P8.cellAt 2 rfl
  have p3 := P8.cellAt 3 rfl
  have pl := P8.lt
  have q1 := ((bcell S8).1 0 9 hg).trans q1'
  have q2 := ((bcell S8).1 0 10 hg).trans q2'
  have q3 := ((bcell S8).1 0 11 hg).trans q3'
  rw [rounds_succ]
  go_wp2
  refine region_below 18 follows_mixed (by kernel_rfl) ?_
  intro C hC
  simp only [List.take_succ_cons, List.take_zero, List.drop_succ_cons, List.drop_zero]
  repeat (first
    | ((with_reducible refine quiet_plain rfl (fun K hK => ?_)); (focus (apply quiet_val; (focus (intro w' hw; obtain ⟨hcq, hfq⟩ := bcell ((hC.out _).1 hw); go_simp; (first | done | rfl | (with_reducible exact call_below hC hw (hS _))))); (simp only [Act.put, List.setIfInBounds_toArray, List.set_cons_succ, List.set_cons_zero]); (with_reducible refine hK _ ?_); clear hK K)))
    | ((with_reducible refine quiet_skip ?_ ?_); (focus (first | (simp [Region.wanted, yielded]; done) | (simp [Region.wanted, yielded, undef]; done))); simp only [Act.put, List.setIfInBounds_toArray, List.set_cons_succ, List.set_cons_zero])
    | ((with_reducible refine quiet_go ?_ (fun K hK => ?_)); (focus (first | (simp [Region.wanted, yielded]; done) | (simp [Region.wanted, yielded, undef]; done))); (focus (apply quiet_val; (focus (intro w' hw; obtain ⟨hcq, hfq⟩ := bcell ((hC.out _).1 hw); go_simp; (first | done | rfl | (with_reducible exact call_below hC hw (hS _))))); (simp only [Act.put, List.setIfInBounds_toArray, List.set_cons_succ, List.set_cons_zero]); (with_reducible refine hK _ ?_); clear hK K))))
  refine wpQuiet_nil ?_
  intro w1 hb1
  replace hb1 := (hC.out _).1 hb1
  clear hC C
  obtain ⟨hc1, hf1⟩ := bcell hb1
  go_wp2
  have B9 : Blk (w1.setCell ⟨w.heap.size + 1 + 1, 8, none⟩ (.int .i64 (c * T))) (w.heap.size + 1 + 1) 109 #[.int .i64 (c * T), .int .i64 (a * T), .int .i64 (b * T), .int .i64 (b * T), .int .i64 (c * T), .int .i64 (a * T), .int .i64 (a * T), .int .i64 (b * T), .int .i64 (c * T)] := ((B8).past hb1).set_ 8 _
  have R9 : Blk (w1.setCell ⟨w.heap.size + 1 + 1, 8, none⟩ (.int .i64 (c * T))) (w.heap.size + 1) 109 #[.int .i64 0, .int .i64 0, .int .i64 0, .int .i64 0, .int .i64 0, .int .i64 0, .int .i64 0, .int .i64 0, .int .i64 0] := ((R8).past hb1).far (by simp)
  have P9 : Blk (w1.setCell ⟨w.heap.size + 1 + 1, 8, none⟩ (.int .i64 (c * T))) w.heap.size 23 #[.int .i64 2, .int .i64 t, .int .i64 1, .bool r] := ((P8).past hb1).far (by simp; try omega)
  have S9 : Below w.heap.size w (w1.setCell ⟨w.heap.size + 1 + 1, 8, none⟩ (.int .i64 (c * T))) := ps (pt (S8) hb1) (by simp; try omega)
  generalize w1.setCell ⟨w.heap.size + 1 + 1, 8, none⟩ (.int .i64 (c * T)) = W9 at *
  clear hb1 hc1 hf1 q1 q2 q3 B8 R8 P8 S8 cc ff cl p0 p1 p2 p3 pl
  have cl := B9.lt
  have p0 := P9.cellAt 0 rfl
  have p1 := P9.cellAt 1 rfl
  have p2 := P9.cellAt 2 rfl
  have p3 := P9.cellAt 3 rfl
  have pl := P9.lt
  have q1 := ((bcell S9).1 0 9 hg).trans q1'
  have q2 := ((bcell S9).1 0 10 hg).trans q2'
  have q3 := ((bcell S9).1 0 11 hg).trans q3'
  rw [rounds_succ]
  go_wp2
  clear P9 p0 p1 p2 p3 pl q1 q2 q3 q1' q2' q3' hS hg ha hb hc za zb zc z0 z1 z2 z3 z4 z5 z6
  rw [rounds_succ]
  go_wp2_with (first
    | ((with_reducible refine load_blk (T := 109) (x := .tmp 3) B9 Tryd.underlying109 ?_ ?_ ?_ ?_); (focus rfl); (focus exact lines_size); (focus rfl))
    | ((with_reducible refine store_blk (T := 109) (x := .tmp 2) (y := .tmp 39) (vs := #[.int .i64 (c * T), .int .i64 (a * T), .int .i64 (b * T), .int .i64 (b * T), .int .i64 (c * T), .int .i64 (a * T), .int .i64 (a * T), .int .i64 (b * T), .int .i64 (c * T)]) R9 ?_ ?_ ?_ ?_ ?_ ?_); (focus rfl); (focus exact lines_size); (focus (simp [Value.oneCell']; done)); (focus rfl); (focus rfl); intro WF RF PF))
  have g0 := RF.cellAt 0 rfl
  have g1 := RF.cellAt 1 rfl
  have g2 := RF.cellAt 2 rfl
  have g3 := RF.cellAt 3 rfl
  have g4 := RF.cellAt 4 rfl
  have g5 := RF.cellAt 5 rfl
  have g6 := RF.cellAt 6 rfl
  have g7 := RF.cellAt 7 rfl
  have g8 := RF.cellAt 8 rfl
  exact bodyPost_ret (v := .agg #[.int .i64 (c * T), .int .i64 (a * T), .int .i64 (b * T), .int .i64 (b * T), .int .i64 (c * T), .int .i64 (a * T), .int .i64 (a * T), .int .i64 (b * T), .int .i64 (c * T)]) (by simp [results, Tryd.results63, go_sem, g0, g1, g2, g3, g4, g5, g6, g7, g8]) rfl ⟨rfl, pp S9 PF (by omega)⟩

set_option maxHeartbeats 8000000 in
set_option maxRecDepth 100000 in
theorem linesOf_22 (a b c t T : Int) (r : Bool) (w : World) (ha : Sm 4000 (a * T)) (hb : Sm 4000 (b * T)) (hc : Sm 4000 (c * T)) (hg : 0 < w.heap.size)
    (q1 : w.cell? ⟨0, 9, none⟩ = some (.int .i64 a))
    (q2 : w.cell? ⟨0, 10, none⟩ = some (.int .i64 b))
    (q3 : w.cell? ⟨0, 11, none⟩ = some (.int .i64 c))
    (hS : ∀ w, Calls Tryd.prog 64 #[.agg #[.int .i64 2, .int .i64 t, .int .i64 2, .bool r]] w fun e w' => e = .returned (.int .i64 T) ∧ Below w.heap.size w w') :
    Calls Tryd.prog 63 #[.agg #[.int .i64 2, .int .i64 t, .int .i64 2, .bool r]] w fun e w' => e = .returned (.agg #[.int .i64 (b * T), .int .i64 (c * T), .int .i64 (a * T), .int .i64 (a * T), .int .i64 (b * T), .int .i64 (c * T), .int .i64 (c * T), .int .i64 (a * T), .int .i64 (b * T)]) ∧ Below w.heap.size w w' := by
  have q1' := q1
  have q2' := q2
  have q3' := q3
  unfold Sm at ha hb hc
  have z0 : IntKind.i64.wrap 0 = 0 := by decide
  have z1 : IntKind.i64.wrap 1 = 1 := by decide
  have z2 : IntKind.i64.wrap 2 = 2 := by decide
  have z3 : IntKind.i64.wrap 3 = 3 := by decide
  have z4 : IntKind.i64.wrap 4 = 4 := by decide
  have z5 : IntKind.i64.wrap 5 = 5 := by decide
  have z6 : IntKind.i64.wrap 6 = 6 := by decide
  have za : IntKind.i64.wrap (a * T) = a * T := IntWalk.i64_in _ (by omega)
  have zb : IntKind.i64.wrap (b * T) = b * T := IntWalk.i64_in _ (by omega)
  have zc : IntKind.i64.wrap (c * T) = c * T := IntWalk.i64_in _ (by omega)
  go_enter Tryd.func63, Tryd.ntmps63
  go_wp2
  refine wp_loop_rounds 4 ?_
  rw [rounds_succ]
  go_wp2
  refine wp_loop_rounds 4 ?_
  rw [rounds_succ]
  go_wp2
  refine region_below 18 follows_mixed (by kernel_rfl) ?_
  intro C hC
  simp only [List.take_succ_cons, List.take_zero, List.drop_succ_cons, List.drop_zero]
  repeat (first
    | ((with_reducible refine quiet_plain rfl (fun K hK => ?_)); (focus (apply quiet_val; (focus (intro w' hw; obtain ⟨hcq, hfq⟩ := bcell ((hC.out _).1 hw); go_simp; (first | done | rfl | (with_reducible exact call_below hC hw (hS _))))); (simp only [Act.put, List.setIfInBounds_toArray, List.set_cons_succ, List.set_cons_zero]); (with_reducible refine hK _ ?_); clear hK K)))
    | ((with_reducible refine quiet_skip ?_ ?_); (focus (first | (simp [Region.wanted, yielded]; done) | (simp [Region.wanted, yielded, undef]; done))); simp only [Act.put, List.setIfInBounds_toArray, List.set_cons_succ, List.set_cons_zero])
    | ((with_reducible refine quiet_go ?_ (fun K hK => ?_)); (focus (first | (simp [Region.wanted, yielded]; done) | (simp [Region.wanted, yielded, undef]; done))); (focus (apply quiet_val; (focus (intro w' hw; obtain ⟨hcq, hfq⟩ := bcell ((hC.out _).1 hw); go_simp; (first | done | rfl | (with_reducible exact call_below hC hw (hS _))))); (simp only [Act.put, List.setIfInBounds_toArray, List.set_cons_succ, List.set_cons_zero]); (with_reducible refine hK _ ?_); clear hK K))))
  refine wpQuiet_nil ?_
  intro w1 hb1
  replace hb1 := (hC.out _).1 hb1
  clear hC C
  obtain ⟨hc1, hf1⟩ := bcell hb1
  go_wp2
  have B1 : Blk (w1.setCell ⟨w.heap.size + 1 + 1, 2, none⟩ (.int .i64 (a * T))) (w.heap.size + 1 + 1) 109 #[.int .i64 0, .int .i64 0, .int .i64 (a * T), .int .i64 0, .int .i64 0, .int .i64 0, .int .i64 0, .int .i64 0, .int .i64 0] := ((Blk.newAt (by simp)).past hb1).set_ 2 _
  have R1 : Blk (w1.setCell ⟨w.heap.size + 1 + 1, 2, none⟩ (.int .i64 (a * T))) (w.heap.size + 1) 109 #[.int .i64 0, .int .i64 0, .int .i64 0, .int .i64 0, .int .i64 0, .int .i64 0, .int .i64 0, .int .i64 0, .int .i64 0] := (((Blk.newAt (by simp)).alloc).past hb1).far (by simp)
  have P1 : Blk (w1.setCell ⟨w.heap.size + 1 + 1, 2, none⟩ (.int .i64 (a * T))) w.heap.size 23 #[.int .i64 2, .int .i64 t, .int .i64 2, .bool r] := (((Blk.newAt (by simp)).alloc.alloc).past hb1).far (by simp; try omega)
  have S1 : Below w.heap.size w (w1.setCell ⟨w.heap.size + 1 + 1, 2, none⟩ (.int .i64 (a * T))) := ps (pt (pa (pa (pa pr))) hb1) (by simp; try omega)
  generalize w1.setCell ⟨w.heap.size + 1 + 1, 2, none⟩ (.int .i64 (a * T)) = W1 at *
  clear hb1 hc1 hf1 q1 q2 q3 
  have cc := B1.cellAt 0 rfl
  have ff := B1.frozen 0
  have cl := B1.lt
  have p0 := P1.cellAt 0 rfl
  have p1 := P1.cellAt 1 rfl
  have p2 := P1.cellAt 2 rfl
  have p3 := P1.cellAt 3 rfl
  have pl := P1.lt
  have q1 := ((bcell S1).1 0 9 hg).trans q1'
  have q2 := ((bcell S1).1 0 10 hg).trans q2'
  have q3 := ((bcell S1).1 0 11 hg).trans q3'
  rw [rounds_succ]
  go_wp2
  refine region_below 18 follows_mixed (by kernel_rfl) ?_
  intro C hC
  simp only [List.take_succ_cons, List.take_zero, List.drop_succ_cons, List.drop_zero]
  repeat (first
    | ((with_reducible refine quiet_plain rfl (fun K hK => ?_)); (focus (apply quiet_val; (focus (intro w' hw; obtain ⟨hcq, hfq⟩ := bcell ((hC.out _).1 hw); go_simp; (first | done | rfl | (with_reducible exact call_below hC hw (hS _))))); (simp only [Act.put, List.setIfInBounds_toArray, List.set_cons_succ, List.set_cons_zero]); (with_reducible refine hK _ ?_); clear hK K)))
    | ((with_reducible refine quiet_skip ?_ ?_); (focus (first | (simp [Region.wanted, yielded]; done) | (simp [Region.wanted, yielded, undef]; done))); simp only [Act.put, List.setIfInBounds_toArray, List.set_cons_succ, List.set_cons_zero])
    | ((with_reducible refine quiet_go ?_ (fun K hK => ?_)); (focus (first | (simp [Region.wanted, yielded]; done) | (simp [Region.wanted, yielded, undef]; done))); (focus (apply quiet_val; (focus (intro w' hw; obtain ⟨hcq, hfq⟩ := bcell ((hC.out _).1 hw); go_simp; (first | done | rfl | (with_reducible exact call_below hC hw (hS _))))); (simp only [Act.put, List.setIfInBounds_toArray, List.set_cons_succ, List.set_cons_zero]); (with_reducible refine hK _ ?_); clear hK K))))
  refine wpQuiet_nil ?_
  intro w1 hb1
  replace hb1 := (hC.out _).1 hb1
  clear hC C
  obtain ⟨hc1, hf1⟩ := bcell hb1
  go_wp2
  have B2 : Blk (w1.setCell ⟨w.heap.size + 1 + 1, 0, none⟩ (.int .i64 (b * T))) (w.heap.size + 1 + 1) 109 #[.int .i64 (b * T), .int .i64 0, .int .i64 (a * T), .int .i64 0, .int .i64 0, .int .i64 0, .int .i64 0, .int .i64 0, .int .i64 0] := ((B1).past hb1).set_ 0 _
  have R2 : Blk (w1.setCell ⟨w.heap.size + 1 + 1, 0, none⟩ (.int .i64 (b * T))) (w.heap.size + 1) 109 #[.int .i64 0, .int .i64 0, .int .i64 0, .int .i64 0, .int .i64 0, .int .i64 0, .int .i64 0, .int .i64 0, .int .i64 0] := ((R1).past hb1).far (by simp)
  have P2 : Blk (w1.setCell ⟨w.heap.size + 1 + 1, 0, none⟩ (.int .i64 (b * T))) w.heap.size 23 #[.int .i64 2, .int .i64 t, .int .i64 2, .bool r] := ((P1).past hb1).far (by simp; try omega)
  have S2 : Below w.heap.size w (w1.setCell ⟨w.heap.size + 1 + 1, 0, none⟩ (.int .i64 (b * T))) := ps (pt (S1) hb1) (by simp; try omega)
  generalize w1.setCell ⟨w.heap.size + 1 + 1, 0, none⟩ (.int .i64 (b * T)) = W2 at *
  clear hb1 hc1 hf1 q1 q2 q3 B1 R1 P1 S1 cc ff cl p0 p1 p2 p3 pl
  have cc := B2.cellAt 1 rfl
  have ff := B2.frozen 1
  have cl := B2.lt
  have p0 := P2.cellAt 0 rfl
  have p1 := P2.cellAt 1 rfl
  have p2 := P2.cellAt 2 rfl
  have p3 := P2.cellAt 3 rfl
  have pl := P2.lt
  have q1 := ((bcell S2).1 0 9 hg).trans q1'
  have q2 := ((bcell S2).1 0 10 hg).trans q2'
  have q3 := ((bcell S2).1 0 11 hg).trans q3'
  rw [rounds_succ]
  go_wp2
  refine region_below 18 follows_mixed (by kernel_rfl) ?_
  intro C hC
  simp only [List.take_succ_cons, List.take_zero, List.drop_succ_cons, List.drop_zero]
  repeat (first
    | ((with_reducible refine quiet_plain rfl (fun K hK => ?_)); (focus (apply quiet_val; (focus (intro w' hw; obtain ⟨hcq, hfq⟩ := bcell ((hC.out _).1 hw); go_simp; (first | done | rfl | (with_reducible exact call_below hC hw (hS _))))); (simp only [Act.put, List.setIfInBounds_toArray, List.set_cons_succ, List.set_cons_zero]); (with_reducible refine hK _ ?_); clear hK K)))
    | ((with_reducible refine quiet_skip ?_ ?_); (focus (first | (simp [Region.wanted, yielded]; done) | (simp [Region.wanted, yielded, undef]; done))); simp only [Act.put, List.setIfInBounds_toArray, List.set_cons_succ, List.set_cons_zero])
    | ((with_reducible refine quiet_go ?_ (fun K hK => ?_)); (focus (first | (simp [Region.wanted, yielded]; done) | (simp [Region.wanted, yielded, undef]; done))); (focus (apply quiet_val; (focus (intro w' hw; obtain ⟨hcq, hfq⟩ := bcell ((hC.out _).1 hw); go_simp; (first | done | rfl | (with_reducible exact call_below hC hw (hS _))))); (simp only [Act.put, List.setIfInBounds_toArray, List.set_cons_succ, List.set_cons_zero]); (with_reducible refine hK _ ?_); clear hK K))))
  refine wpQuiet_nil ?_
  intro w1 hb1
  replace hb1 := (hC.out _).1 hb1
  clear hC C
  obtain ⟨hc1, hf1⟩ := bcell hb1
  go_wp2
  have B3 : Blk (w1.setCell ⟨w.heap.size + 1 + 1, 1, none⟩ (.int .i64 (c * T))) (w.heap.size + 1 + 1) 109 #[.int .i64 (b * T), .int .i64 (c * T), .int .i64 (a * T), .int .i64 0, .int .i64 0, .int .i64 0, .int .i64 0, .int .i64 0, .int .i64 0] := ((B2).past hb1).set_ 1 _
  have R3 : Blk (w1.setCell ⟨w.heap.size + 1 + 1, 1, none⟩ (.int .i64 (c * T))) (w.heap.size + 1) 109 #[.int .i64 0, .int .i64 0, .int .i64 0, .int .i64 0, .int .i64 0, .int .i64 0, .int .i64 0, .int .i64 0, .int .i64 0] := ((R2).past hb1).far (by simp)
  have P3 : Blk (w1.setCell ⟨w.heap.size + 1 + 1, 1, none⟩ (.int .i64 (c * T))) w.heap.size 23 #[.int .i64 2, .int .i64 t, .int .i64 2, .bool r] := ((P2).past hb1).far (by simp; try omega)
  have S3 : Below w.heap.size w (w1.setCell ⟨w.heap.size + 1 + 1, 1, none⟩ (.int .i64 (c * T))) := ps (pt (S2) hb1) (by simp; try omega)
  generalize w1.setCell ⟨w.heap.size + 1 + 1, 1, none⟩ (.int .i64 (c * T)) = W3 at *
  clear hb1 hc1 hf1 q1 q2 q3 B2 R2 P2 S2 cc ff cl p0 p1 p2 p3 pl
  have cc := B3.cellAt 3 rfl
  have ff := B3.frozen 3
  have cl := B3.lt
  have p0 := P3.cellAt 0 rfl
  have p1 := P3.cellAt 1 rfl
  have p2 := P3.cellAt 2 rfl
  have p3 := P3.cellAt 3 rfl
  have pl := P3.lt
  have q1 := ((bcell S3).1 0 9 hg).trans q1'
  have q2 := ((bcell S3).1 0 10 hg).trans q2'
  have q3 := ((bcell S3).1 0 11 hg).trans q3'
  rw [rounds_succ]
  go_wp2
  rw [rounds_succ]
  go_wp2
  refine wp_loop_rounds 4 ?_
  rw [rounds_succ]
  go_wp2
  refine region_below 18 follows_mixed (by kernel_rfl) ?_
  intro C hC
  simp only [List.take_succ_cons, List.take_zero, List.drop_succ_cons, List.drop_zero]
  repeat (first
    | ((with_reducible refine quiet_plain rfl (fun K hK => ?_)); (focus (apply quiet_val; (focus (intro w' hw; obtain ⟨hcq, hfq⟩ := bcell ((hC.out _).1 hw); go_simp; (first | done | rfl | (with_reducible exact call_below hC hw (hS _))))); (simp only [Act.put, List.setIfInBounds_toArray, List.set_cons_succ, List.set_cons_zero]); (with_reducible refine hK _ ?_); clear hK K)))
    | ((with_reducible refine quiet_skip ?_ ?_); (focus (first | (simp [Region.wanted, yielded]; done) | (simp [Region.wanted, yielded, undef]; done))); simp only [Act.put, List.setIfInBounds_toArray, List.set_cons_succ, List.set_cons_zero])
    | ((with_reducible refine quiet_go ?_ (fun K hK => ?_)); (focus (first | (simp [Region.wanted, yielded]; done) | (simp [Region.wanted, yielded, undef]; done))); (focus (apply quiet_val; (focus (intro w' hw; obtain ⟨hcq, hfq⟩ := bcell ((hC.out _).1 hw); go_simp; (first | done | rfl | (with_reducible exact call_below hC hw (hS _))))); (simp only [Act.put, List.setIfInBounds_toArray, List.set_cons_succ, List.set_cons_zero]); (with_reducible refine hK _ ?_); clear hK K))))
  refine wpQuiet_nil ?_
  intro w1 hb1
  replace hb1 := (hC.out _).1 hb1
  clear hC C
  obtain ⟨hc1, hf1⟩ := bcell hb1
  go_wp2
  have B4 : Blk (w1.setCell ⟨w.heap.size + 1 + 1, 3, none⟩ (.int .i64 (a * T))) (w.heap.size + 1 + 1) 109 #[.int .i64 (b * T), .int .i64 (c * T), .int .i64 (a * T), .int .i64 (a * T), .int .i64 0, .int .i64 0, .int .i64 0, .int .i64 0, .int .i64 0] := ((B3).past hb1).set_ 3 _
  have R4 : Blk (w1.setCell ⟨w.heap.size + 1 + 1, 3, none⟩ (.int .i64 (a * T))) (w.heap.size + 1) 109 #[.int .i64 0, .int .i64 0, .int .i64 0, .int .i64 0, .int .i64 0, .int .i64 0, .int .i64 0, .int .i64 0, .int .i64 0] := ((R3).past hb1).far (by simp)
  have P4 : Blk (w1.setCell ⟨w.heap.size + 1 + 1, 3, none⟩ (.int .i64 (a * T))) w.heap.size 23 #[.int .i64 2, .int .i64 t, .int .i64 2, .bool r] := ((P3).past hb1).far (by simp; try omega)
  have S4 : Below w.heap.size w (w1.setCell ⟨w.heap.size + 1 + 1, 3, none⟩ (.int .i64 (a * T))) := ps (pt (S3) hb1) (by simp; try omega)
  generalize w1.setCell ⟨w.heap.size + 1 + 1, 3, none⟩ (.int .i64 (a * T)) = W4 at *
  clear hb1 hc1 hf1 q1 q2 q3 B3 R3 P3 S3 cc ff cl p0 p1 p2 p3 pl
  have cc := B4.cellAt 4 rfl
  have ff := B4.frozen 4
  have cl := B4.lt
  have p0 := P4.cellAt 0 rfl
  have p1 := P4.cellAt 1 rfl
  have p2 := P4.cellAt 2 rfl
  have p3 := P4.cellAt 3 rfl
  have pl := P4.lt
  have q1 := ((bcell S4).1 0 9 hg).trans q1'
  have q2 := ((bcell S4).1 0 10 hg).trans q2'
  have q3 := ((bcell S4).1 0 11 hg).trans q3'
  rw [rounds_succ]
  go_wp2
  refine region_below 18 follows_mixed (by kernel_rfl) ?_
  intro C hC
  simp only [List.take_succ_cons, List.take_zero, List.drop_succ_cons, List.drop_zero]
  repeat (first
    | ((with_reducible refine quiet_plain rfl (fun K hK => ?_)); (focus (apply quiet_val; (focus (intro w' hw; obtain ⟨hcq, hfq⟩ := bcell ((hC.out _).1 hw); go_simp; (first | done | rfl | (with_reducible exact call_below hC hw (hS _))))); (simp only [Act.put, List.setIfInBounds_toArray, List.set_cons_succ, List.set_cons_zero]); (with_reducible refine hK _ ?_); clear hK K)))
    | ((with_reducible refine quiet_skip ?_ ?_); (focus (first | (simp [Region.wanted, yielded]; done) | (simp [Region.wanted, yielded, undef]; done))); simp only [Act.put, List.setIfInBounds_toArray, List.set_cons_succ, List.set_cons_zero])
    | ((with_reducible refine quiet_go ?_ (fun K hK => ?_)); (focus (first | (simp [Region.wanted, yielded]; done) | (simp [Region.wanted, yielded, undef]; done))); (focus (apply quiet_val; (focus (intro w' hw; obtain ⟨hcq, hfq⟩ := bcell ((hC.out _).1 hw); go_simp; (first | done | rfl | (with_reducible exact call_below hC hw (hS _))))); (simp only [Act.put, List.setIfInBounds_toArray, List.set_cons_succ, List.set_cons_zero]); (with_reducible refine hK _ ?_); clear hK K))))
  refine wpQuiet_nil ?_
  intro w1 hb1
  replace hb1 := (hC.out _).1 hb1
  clear hC C
  obtain ⟨hc1, hf1⟩ := bcell hb1
  go_wp2
  have B5 : Blk (w1.setCell ⟨w.heap.size + 1 + 1, 4, none⟩ (.int .i64 (b * T))) (w.heap.size + 1 + 1) 109 #[.int .i64 (b * T), .int .i64 (c * T), .int .i64 (a * T), .int .i64 (a * T), .int .i64 (b * T), .int .i64 0, .int .i64 0, .int .i64 0, .int .i64 0] := ((B4).past hb1).set_ 4 _
  have R5 : Blk (w1.setCell ⟨w.heap.size + 1 + 1, 4, none⟩ (.int .i64 (b * T))) (w.heap.size + 1) 109 #[.int .i64 0, .int .i64 0, .int .i64 0, .int .i64 0, .int .i64 0, .int .i64 0, .int .i64 0, .int .i64 0, .int .i64 0] := ((R4).past hb1).far (by simp)
  have P5 : Blk (w1.setCell ⟨w.heap.size + 1 + 1, 4, none⟩ (.int .i64 (b * T))) w.heap.size 23 #[.int .i64 2, .int .i64 t, .int .i64 2, .bool r] := ((P4).past hb1).far (by simp; try omega)
  have S5 : Below w.heap.size w (w1.setCell ⟨w.heap.size + 1 + 1, 4, none⟩ (.int .i64 (b * T))) := ps (pt (S4) hb1) (by simp; try omega)
  generalize w1.setCell ⟨w.heap.size + 1 + 1, 4, none⟩ (.int .i64 (b * T)) = W5 at *
  clear hb1 hc1 hf1 q1 q2 q3 B4 R4 P4 S4 cc ff cl p0 p1 p2 p3 pl
  have cc := B5.cellAt 5 rfl
  have ff := B5.frozen 5
  have cl := B5.lt
  have p0 := P5.cellAt 0 rfl
  have p1 := P5.cellAt 1 rfl
  have p2 := P5.cellAt 2 rfl
  have p3 := P5.cellAt 3 rfl
  have pl := P5.lt
  have q1 := ((bcell S5).1 0 9 hg).trans q1'
  have q2 := ((bcell S5).1 0 10 hg).trans q2'
  have q3 := ((bcell S5).1 0 11 hg).trans q3'
  rw [rounds_succ]
  go_wp2
  refine region_below 18 follows_mixed (by kernel_rfl) ?_
  intro C hC
  simp only [List.take_succ_cons, List.take_zero, List.drop_succ_cons, List.drop_zero]
  repeat (first
    | ((with_reducible refine quiet_plain rfl (fun K hK => ?_)); (focus (apply quiet_val; (focus (intro w' hw; obtain ⟨hcq, hfq⟩ := bcell ((hC.out _).1 hw); go_simp; (first | done | rfl | (with_reducible exact call_below hC hw (hS _))))); (simp only [Act.put, List.setIfInBounds_toArray, List.set_cons_succ, List.set_cons_zero]); (with_reducible refine hK _ ?_); clear hK K)))
    | ((with_reducible refine quiet_skip ?_ ?_); (focus (first | (simp [Region.wanted, yielded]; done) | (simp [Region.wanted, yielded, undef]; done))); simp only [Act.put, List.setIfInBounds_toArray, List.set_cons_succ, List.set_cons_zero])
    | ((with_reducible refine quiet_go ?_ (fun K hK => ?_)); (focus (first | (simp [Region.wanted, yielded]; done) | (simp [Region.wanted, yielded, undef]; done))); (focus (apply quiet_val; (focus (intro w' hw; obtain ⟨hcq, hfq⟩ := bcell ((hC.out _).1 hw); go_simp; (first | done | rfl | (with_reducible exact call_below hC hw (hS _))))); (simp only [Act.put, List.setIfInBounds_toArray, List.set_cons_succ, List.set_cons_zero]); (with_reducible refine hK _ ?_); clear hK K))))
  refine wpQuiet_nil ?_
  intro w1 hb1
  replace hb1 := (hC.out _).1 hb1
  clear hC C
  obtain ⟨hc1, hf1⟩ := bcell hb1
  go_wp2
  have B6 : Blk (w1.setCell ⟨w.heap.size + 1 + 1, 5, none⟩ (.int .i64 (c * T))) (w.heap.size + 1 + 1) 109 #[.int .i64 (b * T), .int .i64 (c * T), .int .i64 (a * T), .int .i64 (a * T), .int .i64 (b * T), .int .i64 (c * T), .int .i64 0, .int .i64 0, .int .i64 0] := ((B5).past hb1).set_ 5 _
  have R6 : Blk (w1.setCell ⟨w.heap.size + 1 + 1, 5, none⟩ (.int .i64 (c * T))) (w.heap.size + 1) 109 #[.int .i64 0, .int .i64 0, .int .i64 0, .int .i64 0, .int .i64 0, .int .i64 0, .int .i64 0, .int .i64 0, .int .i64 0] := ((R5).past hb1).far (by simp)
  have P6 : Blk (w1.setCell ⟨w.heap.size + 1 + 1, 5, none⟩ (.int .i64 (c * T))) w.heap.size 23 #[.int .i64 2, .int .i64 t, .int .i64 2, .bool r] := ((P5).past hb1).far (by simp; try omega)
  have S6 : Below w.heap.size w (w1.setCell ⟨w.heap.size + 1 + 1, 5, none⟩ (.int .i64 (c * T))) := ps (pt (S5) hb1) (by simp; try omega)
  generalize w1.setCell ⟨w.heap.size + 1 + 1, 5, none⟩ (.int .i64 (c * T)) = W6 at *
  clear hb1 hc1 hf1 q1 q2 q3 B5 R5 P5 S5 cc ff cl p0 p1 p2 p3 pl
  have cc := B6.cellAt 7 rfl
  have ff := B6.frozen 7
  have cl := B6.lt
  have p0 := P6.cellAt 0 rfl
  have p1 := P6.cellAt 1 rfl
  have p2 := P6.cellAt 2 rfl
  have p3 := P6.cellAt 3 rfl
  have pl := P6.lt
  have q1 := ((bcell S6).1 0 9 hg).trans q1'
  have q2 := ((bcell S6).1 0 10 hg).trans q2'
  have q3 := ((bcell S6).1 0 11 hg).trans q3'
  rw [rounds_succ]
  go_wp2
  rw [rounds_succ]
  go_wp2
  refine wp_loop_rounds 4 ?_
  rw [rounds_succ]
  go_wp2
  refine region_below 18 follows_mixed (by kernel_rfl) ?_
  intro C hC
  simp only [List.take_succ_cons, List.take_zero, List.drop_succ_cons, List.drop_zero]
  repeat (first
    | ((with_reducible refine quiet_plain rfl (fun K hK => ?_)); (focus (apply quiet_val; (focus (intro w' hw; obtain ⟨hcq, hfq⟩ := bcell ((hC.out _).1 hw); go_simp; (first | done | rfl | (with_reducible exact call_below hC hw (hS _))))); (simp only [Act.put, List.setIfInBounds_toArray, List.set_cons_succ, List.set_cons_zero]); (with_reducible refine hK _ ?_); clear hK K)))
    | ((with_reducible refine quiet_skip ?_ ?_); (focus (first | (simp [Region.wanted, yielded]; done) | (simp [Region.wanted, yielded, undef]; done))); simp only [Act.put, List.setIfInBounds_toArray, List.set_cons_succ, List.set_cons_zero])
    | ((with_reducible refine quiet_go ?_ (fun K hK => ?_)); (focus (first | (simp [Region.wanted, yielded]; done) | (simp [Region.wanted, yielded, undef]; done))); (focus (apply quiet_val; (focus (intro w' hw; obtain ⟨hcq, hfq⟩ := bcell ((hC.out _).1 hw); go_simp; (first | done | rfl | (with_reducible exact call_below hC hw (hS _))))); (simp only [Act.put, List.setIfInBounds_toArray, List.set_cons_succ, List.set_cons_zero]); (with_reducible refine hK _ ?_); clear hK K))))
  refine wpQuiet_nil ?_
  intro w1 hb1
  replace hb1 := (hC.out _).1 hb1
  clear hC C
  obtain ⟨hc1, hf1⟩ := bcell hb1
  go_wp2
  have B7 : Blk (w1.setCell ⟨w.heap.size + 1 + 1, 7, none⟩ (.int .i64 (a * T))) (w.heap.size + 1 + 1) 109 #[.int .i64 (b * T), .int .i64 (c * T), .int .i64 (a * T), .int .i64 (a * T), .int .i64 (b * T), .int .i64 (c * T), .int .i64 0, .int .i64 (a * T), .int .i64 0] := ((B6).past hb1).set_ 7 _
  have R7 : Blk (w1.setCell ⟨w.heap.size + 1 + 1, 7, none⟩ (.int .i64 (a * T))) (w.heap.size + 1) 109 #[.int .i64 0, .int .i64 0, .int .i64 0, .int .i64 0, .int .i64 0, .int .i64 0, .int .i64 0, .int .i64 0, .int .i64 0] := ((R6).past hb1).far (by simp)
  have P7 : Blk (w1.setCell ⟨w.heap.size + 1 + 1, 7, none⟩ (.int .i64 (a * T))) w.heap.size 23 #[.int .i64 2, .int .i64 t, .int .i64 2, .bool r] := ((P6).past hb1).far (by simp; try omega)
  have S7 : Below w.heap.size w (w1.setCell ⟨w.heap.size + 1 + 1, 7, none⟩ (.int .i64 (a * T))) := ps (pt (S6) hb1) (by simp; try omega)
  generalize w1.setCell ⟨w.heap.size + 1 + 1, 7, none⟩ (.int .i64 (a * T)) = W7 at *
  clear hb1 hc1 hf1 q1 q2 q3 B6 R6 P6 S6 cc ff cl p0 p1 p2 p3 pl
  have cc := B7.cellAt 8 rfl
  have ff := B7.frozen 8
  have cl := B7.lt
  have p0 := P7.cellAt 0 rfl
  have p1 := P7.cellAt 1 rfl
  have p2 := P7.cellAt 2 rfl
  have p3 := P7.cellAt 3 rfl
  have pl := P7.lt
  have q1 := ((bcell S7).1 0 9 hg).trans q1'
  have q2 := ((bcell S7).1 0 10 hg).trans q2'
  have q3 := ((bcell S7).1 0 11 hg).trans q3'
  rw [rounds_succ]
  go_wp2
  refine region_below 18 follows_mixed (by kernel_rfl) ?_
  intro C hC
  simp only [List.take_succ_cons, List.take_zero, List.drop_succ_cons, List.drop_zero]
  repeat (first
    | ((with_reducible refine quiet_plain rfl (fun K hK => ?_)); (focus (apply quiet_val; (focus (intro w' hw; obtain ⟨hcq, hfq⟩ := bcell ((hC.out _).1 hw); go_simp; (first | done | rfl | (with_reducible exact call_below hC hw (hS _))))); (simp only [Act.put, List.setIfInBounds_toArray, List.set_cons_succ, List.set_cons_zero]); (with_reducible refine hK _ ?_); clear hK K)))
    | ((with_reducible refine quiet_skip ?_ ?_); (focus (first | (simp [Region.wanted, yielded]; done) | (simp [Region.wanted, yielded, undef]; done))); simp only [Act.put, List.setIfInBounds_toArray, List.set_cons_succ, List.set_cons_zero])
    | ((with_reducible refine quiet_go ?_ (fun K hK => ?_)); (focus (first | (simp [Region.wanted, yielded]; done) | (simp [Region.wanted, yielded, undef]; done))); (focus (apply quiet_val; (focus (intro w' hw; obtain ⟨hcq, hfq⟩ := bcell ((hC.out _).1 hw); go_simp; (first | done | rfl | (with_reducible exact call_below hC hw (hS _))))); (simp only [Act.put, List.setIfInBounds_toArray, List.set_cons_succ, List.set_cons_zero]); (with_reducible refine hK _ ?_); clear hK K))))
  refine wpQuiet_nil ?_
  intro w1 hb1
  replace hb1 := (hC.out _).1 hb1
  clear hC C
  obtain ⟨hc1, hf1⟩ := bcell hb1
  go_wp2
  have B8 : Blk (w1.setCell ⟨w.heap.size + 1 + 1, 8, none⟩ (.int .i64 (b * T))) (w.heap.size + 1 + 1) 109 #[.int .i64 (b * T), .int .i64 (c * T), .int .i64 (a * T), .int .i64 (a * T), .int .i64 (b * T), .int .i64 (c * T), .int .i64 0, .int .i64 (a * T), .int .i64 (b * T)] := ((B7).past hb1).set_ 8 _
  have R8 : Blk (w1.setCell ⟨w.heap.size + 1 + 1, 8, none⟩ (.int .i64 (b * T))) (w.heap.size + 1) 109 #[.int .i64 0, .int .i64 0, .int .i64 0, .int .i64 0, .int .i64 0, .int .i64 0, .int .i64 0, .int .i64 0, .int .i64 0] := ((R7).past hb1).far (by simp)
  have P8 : Blk (w1.setCell ⟨w.heap.size + 1 + 1, 8, none⟩ (.int .i64 (b * T))) w.heap.size 23 #[.int .i64 2, .int .i64 t, .int .i64 2, .bool r] := ((P7).past hb1).far (by simp; try omega)
  have S8 : Below w.heap.size w (w1.setCell ⟨w.heap.size + 1 + 1, 8, none⟩ (.int .i64 (b * T))) := ps (pt (S7) hb1) (by simp; try omega)
  generalize w1.setCell ⟨w.heap.size + 1 + 1, 8, none⟩ (.int .i64 (b * T)) = W8 at *
  clear hb1 hc1 hf1 q1 q2 q3 B7 R7 P7 S7 cc ff cl p0 p1 p2 p3 pl
  have cc := B8.cellAt 6 rfl
  have ff := B8.frozen 6
  have cl := B8.lt
  have p0 := P8.cellAt 0 rfl
  have p1 := P8.cellAt 1 rfl
  have p2 := P8.cellAt 2 rfl
  have p3 := P8.cellAt 3 rfl
  have pl := P8.lt
  have q1 := ((bcell S8).1 0 9 hg).trans q1'
  have q2 := ((bcell S8).1 0 10 hg).trans q2'
  have q3 := ((bcell S8).1 0 11 hg).trans q3'
  rw [rounds_succ]
  go_wp2
  refine region_below 18 follows_mixed (by kernel_rfl) ?_
  intro C hC
  simp only [List.take_succ_cons, List.take_zero, List.drop_succ_cons, List.drop_zero]
  repeat (first
    | ((with_reducible refine quiet_plain rfl (fun K hK => ?_)); (focus (apply quiet_val; (focus (intro w' hw; obtain ⟨hcq, hfq⟩ := bcell ((hC.out _).1 hw); go_simp; (first | done | rfl | (with_reducible exact call_below hC hw (hS _))))); (simp only [Act.put, List.setIfInBounds_toArray, List.set_cons_succ, List.set_cons_zero]); (with_reducible refine hK _ ?_); clear hK K)))
    | ((with_reducible refine quiet_skip ?_ ?_); (focus (first | (simp [Region.wanted, yielded]; done) | (simp [Region.wanted, yielded, undef]; done))); simp only [Act.put, List.setIfInBounds_toArray, List.set_cons_succ, List.set_cons_zero])
    | ((with_reducible refine quiet_go ?_ (fun K hK => ?_)); (focus (first | (simp [Region.wanted, yielded]; done) | (simp [Region.wanted, yielded, undef]; done))); (focus (apply quiet_val; (focus (intro w' hw; obtain ⟨hcq, hfq⟩ := bcell ((hC.out _).1 hw); go_simp; (first | done | rfl | (with_reducible exact call_below hC hw (hS _))))); (simp only [Act.put, List.setIfInBounds_toArray, List.set_cons_succ, List.set_cons_zero]); (with_reducible refine hK _ ?_); clear hK K))))
  refine wpQuiet_nil ?_
  intro w1 hb1
  replace hb1 := (hC.out _).1 hb1
  clear hC C
  obtain ⟨hc1, hf1⟩ := bcell hb1
  go_wp2
  have B9 : Blk (w1.setCell ⟨w.heap.size + 1 + 1, 6, none⟩ (.int .i64 (c * T))) (w.heap.size + 1 + 1) 109 #[.int .i64 (b * T), .int .i64 (c * T), .int .i64 (a * T), .int .i64 (a * T), .int .i64 (b * T), .int .i64 (c * T), .int .i64 (c * T), .int .i64 (a * T), .int .i64 (b * T)] := ((B8).past hb1).set_ 6 _
  have R9 : Blk (w1.setCell ⟨w.heap.size + 1 + 1, 6, none⟩ (.int .i64 (c * T))) (w.heap.size + 1) 109 #[.int .i64 0, .int .i64 0, .int .i64 0, .int .i64 0, .int .i64 0, .int .i64 0, .int .i64 0, .int .i64 0, .int .i64 0] := ((R8).past hb1).far (by simp)
  have P9 : Blk (w1.setCell ⟨w.heap.size + 1 + 1, 6, none⟩ (.int .i64 (c * T))) w.heap.size 23 #[.int .i64 2, .int .i64 t, .int .i64 2, .bool r] := ((P8).past hb1).far (by simp; try omega)
  have S9 : Below w.heap.size w (w1.setCell ⟨w.heap.size + 1 + 1, 6, none⟩ (.int .i64 (c * T))) := ps (pt (S8) hb1) (by simp; try omega)
  generalize w1.setCell ⟨w.heap.size + 1 + 1, 6, none⟩ (.int .i64 (c * T)) = W9 at *
  clear hb1 hc1 hf1 q1 q2 q3 B8 R8 P8 S8 cc ff cl p0 p1 p2 p3 pl
  have cl := B9.lt
  have p0 := P9.cellAt 0 rfl
  have p1 := P9.cellAt 1 rfl
  have p2 := P9.cellAt 2 rfl
  have p3 := P9.cellAt 3 rfl
  have pl := P9.lt
  have q1 := ((bcell S9).1 0 9 hg).trans q1'
  have q2 := ((bcell S9).1 0 10 hg).trans q2'
  have q3 := ((bcell S9).1 0 11 hg).trans q3'
  rw [rounds_succ]
  go_wp2
  clear P9 p0 p1 p2 p3 pl q1 q2 q3 q1' q2' q3' hS hg ha hb hc za zb zc z0 z1 z2 z3 z4 z5 z6
  rw [rounds_succ]
  go_wp2_with (first
    | ((with_reducible refine load_blk (T := 109) (x := .tmp 3) B9 Tryd.underlying109 ?_ ?_ ?_ ?_); (focus rfl); (focus exact lines_size); (focus rfl))
    | ((with_reducible refine store_blk (T := 109) (x := .tmp 2) (y := .tmp 39) (vs := #[.int .i64 (b * T), .int .i64 (c * T), .int .i64 (a * T), .int .i64 (a * T), .int .i64 (b * T), .int .i64 (c * T), .int .i64 (c * T), .int .i64 (a * T), .int .i64 (b * T)]) R9 ?_ ?_ ?_ ?_ ?_ ?_); (focus rfl); (focus exact lines_size); (focus (simp [Value.oneCell']; done)); (focus rfl); (focus rfl); intro WF RF PF))
  have g0 := RF.cellAt 0 rfl
  have g1 := RF.cellAt 1 rfl
  have g2 := RF.cellAt 2 rfl
  have g3 := RF.cellAt 3 rfl
  have g4 := RF.cellAt 4 rfl
  have g5 := RF.cellAt 5 rfl
  have g6 := RF.cellAt 6 rfl
  have g7 := RF.cellAt 7 rfl
  have g8 := RF.cellAt 8 rfl
  exact bodyPost_ret (v := .agg #[.int .i64 (b * T), .int .i64 (c * T), .int .i64 (a * T), .int .i64 (a * T), .int .i64 (b * T), .int .i64 (c * T), .int .i64 (c * T), .int .i64 (a * T), .int .i64 (b * T)]) (by simp [results, Tryd.results63, go_sem, g0, g1, g2, g3, g4, g5, g6, g7, g8]) rfl ⟨rfl, pp S9 PF (by omega)⟩

end Go.Proofs.YtnhcamokcggnkaaDoor
