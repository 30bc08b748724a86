/- Contract of the specification's Lines for one kind of windings: the loops are unrolled. Printed by a program (gen_reflines.py). -/
import Derived.Test.YtnhcamokcggnkaaDoorG7Signed
import Derived.Test.YtnhcamokcggnkaaDoorG6Wide
namespace Go.Proofs.YtnhcamokcggnkaaDoor
open Go.RowKit
attribute [local go_sem ↓] Go.wp_at_zero Go.wp_at_succ

set_option maxHeartbeats 8000000 in
set_option maxRecDepth 100000 in
theorem refLines_00 (t G : Int) (r : Bool) (w : World) (hg : Sm 2000 (G * t))
    (hS : ∀ w, Calls Tryd.prog 65 #[.agg #[.int .i64 0, .int .i64 t, .int .i64 0, .bool r]] w fun e w' => e = .returned (.int .i64 G) ∧ Below w.heap.size w w') :
    Calls Tryd.prog 20 #[.agg #[.int .i64 0, .int .i64 t, .int .i64 0, .bool r]] w fun e w' => e = .returned (.agg #[.int .i64 (G * t), .int .i64 (-(G * t)), .int .i64 0, .int .i64 0, .int .i64 (G * t), .int .i64 (-(G * t)), .int .i64 (-(G * t)), .int .i64 0, .int .i64 (G * t)]) ∧ Below w.heap.size w w' := by
  unfold Sm at hg
  have z0 : IntKind.i64.wrap 0 = 0 := by decide
  have z1 : IntKind.i64.wrap 1 = 1 := by decide
  have z2 : IntKind.i64.wrap 2 = 2 := by decide
  have z3 : IntKind.i64.wrap 3 = 3 := by decide
  have z4 : IntKind.i64.wrap 4 = 4 := by decide
  have z5 : IntKind.i64.wrap 5 = 5 := by decide
  have z6 : IntKind.i64.wrap 6 = 6 := by decide
  have za : IntKind.i64.wrap (G * t) = G * t := IntWalk.i64_in _ (by omega)
  have zb : IntKind.i64.wrap (-(G * t)) = -(G * t) := IntWalk.i64_in _ (by omega)
  have zc : IntKind.i64.wrap (-(G * t * 2)) = -(G * t * 2) := IntWalk.i64_in _ (by omega)
  go_enter Tryd.func20, Tryd.ntmps20
  go_wp2
  refine wp_loop_rounds 4 ?_
  rw [rounds_succ]
  go_wp2
  refine wp_loop_rounds 4 ?_
  rw [rounds_succ]
  go_wp2
  refine region_below 24 follows_mixed (by kernel_rfl) ?_
  intro C hC
  simp only [List.take_succ_cons, List.take_zero, List.drop_succ_cons, List.drop_zero]
  repeat (first
    | ((with_reducible refine quiet_plain rfl (fun K hK => ?_)); (focus (apply quiet_val; (focus (intro w' hw; obtain ⟨hcq, hfq⟩ := bcell ((hC.out _).1 hw); go_simp; (first | done | rfl | (with_reducible exact call_below hC hw (hS _))))); (simp only [Act.put, List.setIfInBounds_toArray, List.set_cons_succ, List.set_cons_zero]); (with_reducible refine hK _ ?_); clear hK K)))
    | ((with_reducible refine quiet_skip ?_ ?_); (focus (first | (simp [Region.wanted, yielded]; done) | (simp [Region.wanted, yielded, undef]; done))); simp only [Act.put, List.setIfInBounds_toArray, List.set_cons_succ, List.set_cons_zero])
    | ((with_reducible refine quiet_go ?_ (fun K hK => ?_)); (focus (first | (simp [Region.wanted, yielded]; done) | (simp [Region.wanted, yielded, undef]; done))); (focus (apply quiet_val; (focus (intro w' hw; obtain ⟨hcq, hfq⟩ := bcell ((hC.out _).1 hw); go_simp; (first | done | rfl | (with_reducible exact call_below hC hw (hS _))))); (simp only [Act.put, List.setIfInBounds_toArray, List.set_cons_succ, List.set_cons_zero]); (with_reducible refine hK _ ?_); clear hK K))))
  refine wpQuiet_nil ?_
  intro w1 hb1
  replace hb1 := (hC.out _).1 hb1
  clear hC C
  obtain ⟨hc1, hf1⟩ := bcell hb1
  have P1' : Blk w1 (w.heap.size) 23 #[.int .i64 0, .int .i64 t, .int .i64 0, .bool r] := ((Blk.newAt rfl).alloc.alloc.alloc.alloc.alloc.alloc).past hb1
  have R1' : Blk w1 (w.heap.size + 1) 38 #[.int .i64 0, .int .i64 0, .int .i64 0, .int .i64 0, .int .i64 0, .int .i64 0, .int .i64 0, .int .i64 0, .int .i64 0] := ((Blk.newAt (by simp)).alloc.alloc.alloc.alloc.alloc).past hb1
  have F1' : Blk w1 (w.heap.size + 1 + 1) 3 #[.int .i64 1, .int .i64 (-1), .int .i64 0] := ((Blk.newAt (by simp)).alloc.alloc.alloc.alloc).past hb1
  have U1' : Blk w1 (w.heap.size + 1 + 1 + 1 + 1 + 1) 59 #[.slice (some ⟨w.heap.size + 1 + 1, 0, none⟩) 3 3, .slice (some ⟨w.heap.size + 1 + 1 + 1, 0, none⟩) 3 3, .slice (some ⟨w.heap.size + 1 + 1 + 1 + 1, 0, none⟩) 3 3] := ((Blk.newAt (by simp)).alloc).past hb1
  have B1' : Blk w1 (w.heap.size + 1 + 1 + 1 + 1 + 1 + 1) 38 #[.int .i64 0, .int .i64 0, .int .i64 0, .int .i64 0, .int .i64 0, .int .i64 0, .int .i64 0, .int .i64 0, .int .i64 0] := ((Blk.newAt (by simp))).past hb1
  have S1' := pt (pa (pa (pa (pa (pa (pa (pa (pr)))))))) hb1
  clear hb1 hc1 hf1 
  have b0 := B1'.cellAt 0 rfl
  have b1 := B1'.frozen 0
  have bl := B1'.lt
  go_wp2
  have P1 : Blk (w1.setCell ⟨w.heap.size + 1 + 1 + 1 + 1 + 1 + 1, 0, none⟩ (.int .i64 (G * t))) (w.heap.size) 23 #[.int .i64 0, .int .i64 t, .int .i64 0, .bool r] := P1'.far (by show w.heap.size ≠ w.heap.size + 1 + 1 + 1 + 1 + 1 + 1; omega)
  have R1 : Blk (w1.setCell ⟨w.heap.size + 1 + 1 + 1 + 1 + 1 + 1, 0, none⟩ (.int .i64 (G * t))) (w.heap.size + 1) 38 #[.int .i64 0, .int .i64 0, .int .i64 0, .int .i64 0, .int .i64 0, .int .i64 0, .int .i64 0, .int .i64 0, .int .i64 0] := R1'.far (by show w.heap.size + 1 ≠ w.heap.size + 1 + 1 + 1 + 1 + 1 + 1; omega)
  have F1 : Blk (w1.setCell ⟨w.heap.size + 1 + 1 + 1 + 1 + 1 + 1, 0, none⟩ (.int .i64 (G * t))) (w.heap.size + 1 + 1) 3 #[.int .i64 1, .int .i64 (-1), .int .i64 0] := F1'.far (by show w.heap.size + 1 + 1 ≠ w.heap.size + 1 + 1 + 1 + 1 + 1 + 1; omega)
  have U1 : Blk (w1.setCell ⟨w.heap.size + 1 + 1 + 1 + 1 + 1 + 1, 0, none⟩ (.int .i64 (G * t))) (w.heap.size + 1 + 1 + 1 + 1 + 1) 59 #[.slice (some ⟨w.heap.size + 1 + 1, 0, none⟩) 3 3, .slice (some ⟨w.heap.size + 1 + 1 + 1, 0, none⟩) 3 3, .slice (some ⟨w.heap.size + 1 + 1 + 1 + 1, 0, none⟩) 3 3] := U1'.far (by show w.heap.size + 1 + 1 + 1 + 1 + 1 ≠ w.heap.size + 1 + 1 + 1 + 1 + 1 + 1; omega)
  have B1 : Blk (w1.setCell ⟨w.heap.size + 1 + 1 + 1 + 1 + 1 + 1, 0, none⟩ (.int .i64 (G * t))) (w.heap.size + 1 + 1 + 1 + 1 + 1 + 1) 38 #[.int .i64 (G * t), .int .i64 0, .int .i64 0, .int .i64 0, .int .i64 0, .int .i64 0, .int .i64 0, .int .i64 0, .int .i64 0] := B1'.set_ 0 _
  have S1 : Below w.heap.size w (w1.setCell ⟨w.heap.size + 1 + 1 + 1 + 1 + 1 + 1, 0, none⟩ (.int .i64 (G * t))) := ps S1' (by show w.heap.size ≤ w.heap.size + 1 + 1 + 1 + 1 + 1 + 1; omega)
  generalize w1.setCell ⟨w.heap.size + 1 + 1 + 1 + 1 + 1 + 1, 0, none⟩ (.int .i64 (G * t)) = W1 at *
  clear b0 b1 bl P1' R1' F1' U1' B1' S1'
  have p0 := P1.cellAt 0 rfl
  have p1 := P1.cellAt 1 rfl
  have p2 := P1.cellAt 2 rfl
  have p3 := P1.cellAt 3 rfl
  have pl := P1.lt
  have u0 := U1.cellAt 0 rfl
  have ul := U1.lt
  have f0 := F1.cellAt 1 rfl
  have fl := F1.lt
  rw [rounds_succ]
  go_wp2
  refine region_below 24 follows_mixed (by kernel_rfl) ?_
  intro C hC
  simp only [List.take_succ_cons, List.take_zero, List.drop_succ_cons, List.drop_zero]
  repeat (first
    | ((with_reducible refine quiet_plain rfl (fun K hK => ?_)); (focus (apply quiet_val; (focus (intro w' hw; obtain ⟨hcq, hfq⟩ := bcell ((hC.out _).1 hw); go_simp; (first | done | rfl | (with_reducible exact call_below hC hw (hS _))))); (simp only [Act.put, List.setIfInBounds_toArray, List.set_cons_succ, List.set_cons_zero]); (with_reducible refine hK _ ?_); clear hK K)))
    | ((with_reducible refine quiet_skip ?_ ?_); (focus (first | (simp [Region.wanted, yielded]; done) | (simp [Region.wanted, yielded, undef]; done))); simp only [Act.put, List.setIfInBounds_toArray, List.set_cons_succ, List.set_cons_zero])
    | ((with_reducible refine quiet_go ?_ (fun K hK => ?_)); (focus (first | (simp [Region.wanted, yielded]; done) | (simp [Region.wanted, yielded, undef]; done))); (focus (apply quiet_val; (focus (intro w' hw; obtain ⟨hcq, hfq⟩ := bcell ((hC.out _).1 hw); go_simp; (first | done | rfl | (with_reducible exact call_below hC hw (hS _))))); (simp only [Act.put, List.setIfInBounds_toArray, List.set_cons_succ, List.set_cons_zero]); (with_reducible refine hK _ ?_); clear hK K))))
  refine wpQuiet_nil ?_
  intro w1 hb1
  replace hb1 := (hC.out _).1 hb1
  clear hC C
  obtain ⟨hc1, hf1⟩ := bcell hb1
  have P2' : Blk w1 (w.heap.size) 23 #[.int .i64 0, .int .i64 t, .int .i64 0, .bool r] := (P1).past hb1
  have R2' : Blk w1 (w.heap.size + 1) 38 #[.int .i64 0, .int .i64 0, .int .i64 0, .int .i64 0, .int .i64 0, .int .i64 0, .int .i64 0, .int .i64 0, .int .i64 0] := (R1).past hb1
  have F2' : Blk w1 (w.heap.size + 1 + 1) 3 #[.int .i64 1, .int .i64 (-1), .int .i64 0] := (F1).past hb1
  have U2' : Blk w1 (w.heap.size + 1 + 1 + 1 + 1 + 1) 59 #[.slice (some ⟨w.heap.size + 1 + 1, 0, none⟩) 3 3, .slice (some ⟨w.heap.size + 1 + 1 + 1, 0, none⟩) 3 3, .slice (some ⟨w.heap.size + 1 + 1 + 1 + 1, 0, none⟩) 3 3] := (U1).past hb1
  have B2' : Blk w1 (w.heap.size + 1 + 1 + 1 + 1 + 1 + 1) 38 #[.int .i64 (G * t), .int .i64 0, .int .i64 0, .int .i64 0, .int .i64 0, .int .i64 0, .int .i64 0, .int .i64 0, .int .i64 0] := (B1).past hb1
  have S2' := pt (S1) hb1
  clear hb1 hc1 hf1 P1 R1 F1 U1 B1 S1 p0 p1 p2 p3 pl u0 ul f0 fl
  have b0 := B2'.cellAt 1 rfl
  have b1 := B2'.frozen 1
  have bl := B2'.lt
  go_wp2
  have P2 : Blk (w1.setCell ⟨w.heap.size + 1 + 1 + 1 + 1 + 1 + 1, 1, none⟩ (.int .i64 (-(G * t)))) (w.heap.size) 23 #[.int .i64 0, .int .i64 t, .int .i64 0, .bool r] := P2'.far (by show w.heap.size ≠ w.heap.size + 1 + 1 + 1 + 1 + 1 + 1; omega)
  have R2 : Blk (w1.setCell ⟨w.heap.size + 1 + 1 + 1 + 1 + 1 + 1, 1, none⟩ (.int .i64 (-(G * t)))) (w.heap.size + 1) 38 #[.int .i64 0, .int .i64 0, .int .i64 0, .int .i64 0, .int .i64 0, .int .i64 0, .int .i64 0, .int .i64 0, .int .i64 0] := R2'.far (by show w.heap.size + 1 ≠ w.heap.size + 1 + 1 + 1 + 1 + 1 + 1; omega)
  have F2 : Blk (w1.setCell ⟨w.heap.size + 1 + 1 + 1 + 1 + 1 + 1, 1, none⟩ (.int .i64 (-(G * t)))) (w.heap.size + 1 + 1) 3 #[.int .i64 1, .int .i64 (-1), .int .i64 0] := F2'.far (by show w.heap.size + 1 + 1 ≠ w.heap.size + 1 + 1 + 1 + 1 + 1 + 1; omega)
  have U2 : Blk (w1.setCell ⟨w.heap.size + 1 + 1 + 1 + 1 + 1 + 1, 1, none⟩ (.int .i64 (-(G * t)))) (w.heap.size + 1 + 1 + 1 + 1 + 1) 59 #[.slice (some ⟨w.heap.size + 1 + 1, 0, none⟩) 3 3, .slice (some ⟨w.heap.size + 1 + 1 + 1, 0, none⟩) 3 3, .slice (some ⟨w.heap.size + 1 + 1 + 1 + 1, 0, none⟩) 3 3] := U2'.far (by show w.heap.size + 1 + 1 + 1 + 1 + 1 ≠ w.heap.size + 1 + 1 + 1 + 1 + 1 + 1; omega)
  have B2 : Blk (w1.setCell ⟨w.heap.size + 1 + 1 + 1 + 1 + 1 + 1, 1, none⟩ (.int .i64 (-(G * t)))) (w.heap.size + 1 + 1 + 1 + 1 + 1 + 1) 38 #[.int .i64 (G * t), .int .i64 (-(G * t)), .int .i64 0, .int .i64 0, .int .i64 0, .int .i64 0, .int .i64 0, .int .i64 0, .int .i64 0] := B2'.set_ 1 _
  have S2 : Below w.heap.size w (w1.setCell ⟨w.heap.size + 1 + 1 + 1 + 1 + 1 + 1, 1, none⟩ (.int .i64 (-(G * t)))) := ps S2' (by show w.heap.size ≤ w.heap.size + 1 + 1 + 1 + 1 + 1 + 1; omega)
  generalize w1.setCell ⟨w.heap.size + 1 + 1 + 1 + 1 + 1 + 1, 1, none⟩ (.int .i64 (-(G * t))) = W2 at *
  clear b0 b1 bl P2' R2' F2' U2' B2' S2'
  have p0 := P2.cellAt 0 rfl
  have p1 := P2.cellAt 1 rfl
  have p2 := P2.cellAt 2 rfl
  have p3 := P2.cellAt 3 rfl
  have pl := P2.lt
  have u0 := U2.cellAt 0 rfl
  have ul := U2.lt
  have f0 := F2.cellAt 2 rfl
  have fl := F2.lt
  rw [rounds_succ]
  go_wp2
  refine region_below 24 follows_mixed (by kernel_rfl) ?_
  intro C hC
  simp only [List.take_succ_cons, List.take_zero, List.drop_succ_cons, List.drop_zero]
  repeat (first
    | ((with_reducible refine quiet_plain rfl (fun K hK => ?_)); (focus (apply quiet_val; (focus (intro w' hw; obtain ⟨hcq, hfq⟩ := bcell ((hC.out _).1 hw); go_simp; (first | done | rfl | (with_reducible exact call_below hC hw (hS _))))); (simp only [Act.put, List.setIfInBounds_toArray, List.set_cons_succ, List.set_cons_zero]); (with_reducible refine hK _ ?_); clear hK K)))
    | ((with_reducible refine quiet_skip ?_ ?_); (focus (first | (simp [Region.wanted, yielded]; done) | (simp [Region.wanted, yielded, undef]; done))); simp only [Act.put, List.setIfInBounds_toArray, List.set_cons_succ, List.set_cons_zero])
    | ((with_reducible refine quiet_go ?_ (fun K hK => ?_)); (focus (first | (simp [Region.wanted, yielded]; done) | (simp [Region.wanted, yielded, undef]; done))); (focus (apply quiet_val; (focus (intro w' hw; obtain ⟨hcq, hfq⟩ := bcell ((hC.out _).1 hw); go_simp; (first | done | rfl | (with_reducible exact call_below hC hw (hS _))))); (simp only [Act.put, List.setIfInBounds_toArray, List.set_cons_succ, List.set_cons_zero]); (with_reducible refine hK _ ?_); clear hK K))))
  refine wpQuiet_nil ?_
  intro w1 hb1
  replace hb1 := (hC.out _).1 hb1
  clear hC C
  obtain ⟨hc1, hf1⟩ := bcell hb1
  have P3' : Blk w1 (w.heap.size) 23 #[.int .i64 0, .int .i64 t, .int .i64 0, .bool r] := (P2).past hb1
  have R3' : Blk w1 (w.heap.size + 1) 38 #[.int .i64 0, .int .i64 0, .int .i64 0, .int .i64 0, .int .i64 0, .int .i64 0, .int .i64 0, .int .i64 0, .int .i64 0] := (R2).past hb1
  have F3' : Blk w1 (w.heap.size + 1 + 1) 3 #[.int .i64 1, .int .i64 (-1), .int .i64 0] := (F2).past hb1
  have U3' : Blk w1 (w.heap.size + 1 + 1 + 1 + 1 + 1) 59 #[.slice (some ⟨w.heap.size + 1 + 1, 0, none⟩) 3 3, .slice (some ⟨w.heap.size + 1 + 1 + 1, 0, none⟩) 3 3, .slice (some ⟨w.heap.size + 1 + 1 + 1 + 1, 0, none⟩) 3 3] := (U2).past hb1
  have B3' : Blk w1 (w.heap.size + 1 + 1 + 1 + 1 + 1 + 1) 38 #[.int .i64 (G * t), .int .i64 (-(G * t)), .int .i64 0, .int .i64 0, .int .i64 0, .int .i64 0, .int .i64 0, .int .i64 0, .int .i64 0] := (B2).past hb1
  have S3' := pt (S2) hb1
  clear hb1 hc1 hf1 P2 R2 F2 U2 B2 S2 p0 p1 p2 p3 pl u0 ul f0 fl
  have b0 := B3'.cellAt 2 rfl
  have b1 := B3'.frozen 2
  have bl := B3'.lt
  go_wp2
  have P3 : Blk (w1.setCell ⟨w.heap.size + 1 + 1 + 1 + 1 + 1 + 1, 2, none⟩ (.int .i64 0)) (w.heap.size) 23 #[.int .i64 0, .int .i64 t, .int .i64 0, .bool r] := P3'.far (by show w.heap.size ≠ w.heap.size + 1 + 1 + 1 + 1 + 1 + 1; omega)
  have R3 : Blk (w1.setCell ⟨w.heap.size + 1 + 1 + 1 + 1 + 1 + 1, 2, none⟩ (.int .i64 0)) (w.heap.size + 1) 38 #[.int .i64 0, .int .i64 0, .int .i64 0, .int .i64 0, .int .i64 0, .int .i64 0, .int .i64 0, .int .i64 0, .int .i64 0] := R3'.far (by show w.heap.size + 1 ≠ w.heap.size + 1 + 1 + 1 + 1 + 1 + 1; omega)
  have F3 : Blk (w1.setCell ⟨w.heap.size + 1 + 1 + 1 + 1 + 1 + 1, 2, none⟩ (.int .i64 0)) (w.heap.size + 1 + 1) 3 #[.int .i64 1, .int .i64 (-1), .int .i64 0] := F3'.far (by show w.heap.size + 1 + 1 ≠ w.heap.size + 1 + 1 + 1 + 1 + 1 + 1; omega)
  have U3 : Blk (w1.setCell ⟨w.heap.size + 1 + 1 + 1 + 1 + 1 + 1, 2, none⟩ (.int .i64 0)) (w.heap.size + 1 + 1 + 1 + 1 + 1) 59 #[.slice (some ⟨w.heap.size + 1 + 1, 0, none⟩) 3 3, .slice (some ⟨w.heap.size + 1 + 1 + 1, 0, none⟩) 3 3, .slice (some ⟨w.heap.size + 1 + 1 + 1 + 1, 0, none⟩) 3 3] := U3'.far (by show w.heap.size + 1 + 1 + 1 + 1 + 1 ≠ w.heap.size + 1 + 1 + 1 + 1 + 1 + 1; omega)
  have B3 : Blk (w1.setCell ⟨w.heap.size + 1 + 1 + 1 + 1 + 1 + 1, 2, none⟩ (.int .i64 0)) (w.heap.size + 1 + 1 + 1 + 1 + 1 + 1) 38 #[.int .i64 (G * t), .int .i64 (-(G * t)), .int .i64 0, .int .i64 0, .int .i64 0, .int .i64 0, .int .i64 0, .int .i64 0, .int .i64 0] := B3'.set_ 2 _
  have S3 : Below w.heap.size w (w1.setCell ⟨w.heap.size + 1 + 1 + 1 + 1 + 1 + 1, 2, none⟩ (.int .i64 0)) := ps S3' (by show w.heap.size ≤ w.heap.size + 1 + 1 + 1 + 1 + 1 + 1; omega)
  generalize w1.setCell ⟨w.heap.size + 1 + 1 + 1 + 1 + 1 + 1, 2, none⟩ (.int .i64 0) = W3 at *
  clear b0 b1 bl P3' R3' F3' U3' B3' S3'
  have p0 := P3.cellAt 0 rfl
  have p1 := P3.cellAt 1 rfl
  have p2 := P3.cellAt 2 rfl
  have p3 := P3.cellAt 3 rfl
  have pl := P3.lt
  have u0 := U3.cellAt 0 rfl
  have ul := U3.lt
  have f0 := F3.cellAt 0 rfl
  have fl := F3.lt
  rw [rounds_succ]
  go_wp2
  rw [rounds_succ]
  go_wp2
  refine wp_loop_rounds 4 ?_
  rw [rounds_succ]
  go_wp2
  refine region_below 24 follows_mixed (by kernel_rfl) ?_
  intro C hC
  simp only [List.take_succ_cons, List.take_zero, List.drop_succ_cons, List.drop_zero]
  repeat (first
    | ((with_reducible refine quiet_plain rfl (fun K hK => ?_)); (focus (apply quiet_val; (focus (intro w' hw; obtain ⟨hcq, hfq⟩ := bcell ((hC.out _).1 hw); go_simp; (first | done | rfl | (with_reducible exact call_below hC hw (hS _))))); (simp only [Act.put, List.setIfInBounds_toArray, List.set_cons_succ, List.set_cons_zero]); (with_reducible refine hK _ ?_); clear hK K)))
    | ((with_reducible refine quiet_skip ?_ ?_); (focus (first | (simp [Region.wanted, yielded]; done) | (simp [Region.wanted, yielded, undef]; done))); simp only [Act.put, List.setIfInBounds_toArray, List.set_cons_succ, List.set_cons_zero])
    | ((with_reducible refine quiet_go ?_ (fun K hK => ?_)); (focus (first | (simp [Region.wanted, yielded]; done) | (simp [Region.wanted, yielded, undef]; done))); (focus (apply quiet_val; (focus (intro w' hw; obtain ⟨hcq, hfq⟩ := bcell ((hC.out _).1 hw); go_simp; (first | done | rfl | (with_reducible exact call_below hC hw (hS _))))); (simp only [Act.put, List.setIfInBounds_toArray, List.set_cons_succ, List.set_cons_zero]); (with_reducible refine hK _ ?_); clear hK K))))
  refine wpQuiet_nil ?_
  intro w1 hb1
  replace hb1 := (hC.out _).1 hb1
  clear hC C
  obtain ⟨hc1, hf1⟩ := bcell hb1
  have P4' : Blk w1 (w.heap.size) 23 #[.int .i64 0, .int .i64 t, .int .i64 0, .bool r] := (P3).past hb1
  have R4' : Blk w1 (w.heap.size + 1) 38 #[.int .i64 0, .int .i64 0, .int .i64 0, .int .i64 0, .int .i64 0, .int .i64 0, .int .i64 0, .int .i64 0, .int .i64 0] := (R3).past hb1
  have F4' : Blk w1 (w.heap.size + 1 + 1) 3 #[.int .i64 1, .int .i64 (-1), .int .i64 0] := (F3).past hb1
  have U4' : Blk w1 (w.heap.size + 1 + 1 + 1 + 1 + 1) 59 #[.slice (some ⟨w.heap.size + 1 + 1, 0, none⟩) 3 3, .slice (some ⟨w.heap.size + 1 + 1 + 1, 0, none⟩) 3 3, .slice (some ⟨w.heap.size + 1 + 1 + 1 + 1, 0, none⟩) 3 3] := (U3).past hb1
  have B4' : Blk w1 (w.heap.size + 1 + 1 + 1 + 1 + 1 + 1) 38 #[.int .i64 (G * t), .int .i64 (-(G * t)), .int .i64 0, .int .i64 0, .int .i64 0, .int .i64 0, .int .i64 0, .int .i64 0, .int .i64 0] := (B3).past hb1
  have S4' := pt (S3) hb1
  clear hb1 hc1 hf1 P3 R3 F3 U3 B3 S3 p0 p1 p2 p3 pl u0 ul f0 fl
  have b0 := B4'.cellAt 4 rfl
  have b1 := B4'.frozen 4
  have bl := B4'.lt
  go_wp2
  have P4 : Blk (w1.setCell ⟨w.heap.size + 1 + 1 + 1 + 1 + 1 + 1, 4, none⟩ (.int .i64 (G * t))) (w.heap.size) 23 #[.int .i64 0, .int .i64 t, .int .i64 0, .bool r] := P4'.far (by show w.heap.size ≠ w.heap.size + 1 + 1 + 1 + 1 + 1 + 1; omega)
  have R4 : Blk (w1.setCell ⟨w.heap.size + 1 + 1 + 1 + 1 + 1 + 1, 4, none⟩ (.int .i64 (G * t))) (w.heap.size + 1) 38 #[.int .i64 0, .int .i64 0, .int .i64 0, .int .i64 0, .int .i64 0, .int .i64 0, .int .i64 0, .int .i64 0, .int .i64 0] := R4'.far (by show w.heap.size + 1 ≠ w.heap.size + 1 + 1 + 1 + 1 + 1 + 1; omega)
  have F4 : Blk (w1.setCell ⟨w.heap.size + 1 + 1 + 1 + 1 + 1 + 1, 4, none⟩ (.int .i64 (G * t))) (w.heap.size + 1 + 1) 3 #[.int .i64 1, .int .i64 (-1), .int .i64 0] := F4'.far (by show w.heap.size + 1 + 1 ≠ w.heap.size + 1 + 1 + 1 + 1 + 1 + 1; omega)
  have U4 : Blk (w1.setCell ⟨w.heap.size + 1 + 1 + 1 + 1 + 1 + 1, 4, none⟩ (.int .i64 (G * t))) (w.heap.size + 1 + 1 + 1 + 1 + 1) 59 #[.slice (some ⟨w.heap.size + 1 + 1, 0, none⟩) 3 3, .slice (some ⟨w.heap.size + 1 + 1 + 1, 0, none⟩) 3 3, .slice (some ⟨w.heap.size + 1 + 1 + 1 + 1, 0, none⟩) 3 3] := U4'.far (by show w.heap.size + 1 + 1 + 1 + 1 + 1 ≠ w.heap.size + 1 + 1 + 1 + 1 + 1 + 1; omega)
  have B4 : Blk (w1.setCell ⟨w.heap.size + 1 + 1 + 1 + 1 + 1 + 1, 4, none⟩ (.int .i64 (G * t))) (w.heap.size + 1 + 1 + 1 + 1 + 1 + 1) 38 #[.int .i64 (G * t), .int .i64 (-(G * t)), .int .i64 0, .int .i64 0, .int .i64 (G * t), .int .i64 0, .int .i64 0, .int .i64 0, .int .i64 0] := B4'.set_ 4 _
  have S4 : Below w.heap.size w (w1.setCell ⟨w.heap.size + 1 + 1 + 1 + 1 + 1 + 1, 4, none⟩ (.int .i64 (G * t))) := ps S4' (by show w.heap.size ≤ w.heap.size + 1 + 1 + 1 + 1 + 1 + 1; omega)
  generalize w1.setCell ⟨w.heap.size + 1 + 1 + 1 + 1 + 1 + 1, 4, none⟩ (.int .i64 (G * t)) = W4 at *
  clear b0 b1 bl P4' R4' F4' U4' B4' S4'
  have p0 := P4.cellAt 0 rfl
  have p1 := P4.cellAt 1 rfl
  have p2 := P4.cellAt 2 rfl
  have p3 := P4.cellAt 3 rfl
  have pl := P4.lt
  have u0 := U4.cellAt 0 rfl
  have ul := U4.lt
  have f0 := F4.cellAt 1 rfl
  have fl := F4.lt
  rw [rounds_succ]
  go_wp2
  refine region_below 24 follows_mixed (by kernel_rfl) ?_
  intro C hC
  simp only [List.take_succ_cons, List.take_zero, List.drop_succ_cons, List.drop_zero]
  repeat (first
    | ((with_reducible refine quiet_plain rfl (fun K hK => ?_)); (focus (apply quiet_val; (focus (intro w' hw; obtain ⟨hcq, hfq⟩ := bcell ((hC.out _).1 hw); go_simp; (first | done | rfl | (with_reducible exact call_below hC hw (hS _))))); (simp only [Act.put, List.setIfInBounds_toArray, List.set_cons_succ, List.set_cons_zero]); (with_reducible refine hK _ ?_); clear hK K)))
    | ((with_reducible refine quiet_skip ?_ ?_); (focus (first | (simp [Region.wanted, yielded]; done) | (simp [Region.wanted, yielded, undef]; done))); simp only [Act.put, List.setIfInBounds_toArray, List.set_cons_succ, List.set_cons_zero])
    | ((with_reducible refine quiet_go ?_ (fun K hK => ?_)); (focus (first | (simp [Region.wanted, yielded]; done) | (simp [Region.wanted, yielded, undef]; done))); (focus (apply quiet_val; (focus (intro w' hw; obtain ⟨hcq, hfq⟩ := bcell ((hC.out _).1 hw); go_simp; (first | done | rfl | (with_reducible exact call_below hC hw (hS _))))); (simp only [Act.put, List.setIfInBounds_toArray, List.set_cons_succ, List.set_cons_zero]); (with_reducible refine hK _ ?_); clear hK K))))
  refine wpQuiet_nil ?_
  intro w1 hb1
  replace hb1 := (hC.out _).1 hb1
  clear hC C
  obtain ⟨hc1, hf1⟩ := bcell hb1
  have P5' : Blk w1 (w.heap.size) 23 #[.int .i64 0, .int .i64 t, .int .i64 0, .bool r] := (P4).past hb1
  have R5' : Blk w1 (w.heap.size + 1) 38 #[.int .i64 0, .int .i64 0, .int .i64 0, .int .i64 0, .int .i64 0, .int .i64 0, .int .i64 0, .int .i64 0, .int .i64 0] := (R4).past hb1
  have F5' : Blk w1 (w.heap.size + 1 + 1) 3 #[.int .i64 1, .int .i64 (-1), .int .i64 0] := (F4).past hb1
  have U5' : Blk w1 (w.heap.size + 1 + 1 + 1 + 1 + 1) 59 #[.slice (some ⟨w.heap.size + 1 + 1, 0, none⟩) 3 3, .slice (some ⟨w.heap.size + 1 + 1 + 1, 0, none⟩) 3 3, .slice (some ⟨w.heap.size + 1 + 1 + 1 + 1, 0, none⟩) 3 3] := (U4).past hb1
  have B5' : Blk w1 (w.heap.size + 1 + 1 + 1 + 1 + 1 + 1) 38 #[.int .i64 (G * t), .int .i64 (-(G * t)), .int .i64 0, .int .i64 0, .int .i64 (G * t), .int .i64 0, .int .i64 0, .int .i64 0, .int .i64 0] := (B4).past hb1
  have S5' := pt (S4) hb1
  clear hb1 hc1 hf1 P4 R4 F4 U4 B4 S4 p0 p1 p2 p3 pl u0 ul f0 fl
  have b0 := B5'.cellAt 5 rfl
  have b1 := B5'.frozen 5
  have bl := B5'.lt
  go_wp2
  have P5 : Blk (w1.setCell ⟨w.heap.size + 1 + 1 + 1 + 1 + 1 + 1, 5, none⟩ (.int .i64 (-(G * t)))) (w.heap.size) 23 #[.int .i64 0, .int .i64 t, .int .i64 0, .bool r] := P5'.far (by show w.heap.size ≠ w.heap.size + 1 + 1 + 1 + 1 + 1 + 1; omega)
  have R5 : Blk (w1.setCell ⟨w.heap.size + 1 + 1 + 1 + 1 + 1 + 1, 5, none⟩ (.int .i64 (-(G * t)))) (w.heap.size + 1) 38 #[.int .i64 0, .int .i64 0, .int .i64 0, .int .i64 0, .int .i64 0, .int .i64 0, .int .i64 0, .int .i64 0, .int .i64 0] := R5'.far (by show w.heap.size + 1 ≠ w.heap.size + 1 + 1 + 1 + 1 + 1 + 1; omega)
  have F5 : Blk (w1.setCell ⟨w.heap.size + 1 + 1 + 1 + 1 + 1 + 1, 5, none⟩ (.int .i64 (-(G * t)))) (w.heap.size + 1 + 1) 3 #[.int .i64 1, .int .i64 (-1), .int .i64 0] := F5'.far (by show w.heap.size + 1 + 1 ≠ w.heap.size + 1 + 1 + 1 + 1 + 1 + 1; omega)
  have U5 : Blk (w1.setCell ⟨w.heap.size + 1 + 1 + 1 + 1 + 1 + 1, 5, none⟩ (.int .i64 (-(G * t)))) (w.heap.size + 1 + 1 + 1 + 1 + 1) 59 #[.slice (some ⟨w.heap.size + 1 + 1, 0, none⟩) 3 3, .slice (some ⟨w.heap.size + 1 + 1 + 1, 0, none⟩) 3 3, .slice (some ⟨w.heap.size + 1 + 1 + 1 + 1, 0, none⟩) 3 3] := U5'.far (by show w.heap.size + 1 + 1 + 1 + 1 + 1 ≠ w.heap.size + 1 + 1 + 1 + 1 + 1 + 1; omega)
  have B5 : Blk (w1.setCell ⟨w.heap.size + 1 + 1 + 1 + 1 + 1 + 1, 5, none⟩ (.int .i64 (-(G * t)))) (w.heap.size + 1 + 1 + 1 + 1 + 1 + 1) 38 #[.int .i64 (G * t), .int .i64 (-(G * t)), .int .i64 0, .int .i64 0, .int .i64 (G * t), .int .i64 (-(G * t)), .int .i64 0, .int .i64 0, .int .i64 0] := B5'.set_ 5 _
  have S5 : Below w.heap.size w (w1.setCell ⟨w.heap.size + 1 + 1 + 1 + 1 + 1 + 1, 5, none⟩ (.int .i64 (-(G * t)))) := ps S5' (by show w.heap.size ≤ w.heap.size + 1 + 1 + 1 + 1 + 1 + 1; omega)
  generalize w1.setCell ⟨w.heap.size + 1 + 1 + 1 + 1 + 1 + 1, 5, none⟩ (.int .i64 (-(G * t))) = W5 at *
  clear b0 b1 bl P5' R5' F5' U5' B5' S5'
  have p0 := P5.cellAt 0 rfl
  have p1 := P5.cellAt 1 rfl
  have p2 := P5.cellAt 2 rfl
  have p3 := P5.cellAt 3 rfl
  have pl := P5.lt
  have u0 := U5.cellAt 0 rfl
  have ul := U5.lt
  have f0 := F5.cellAt 2 rfl
  have fl := F5.lt
  rw [rounds_succ]
  go_wp2
  refine region_below 24 follows_mixed (by kernel_rfl) ?_
  intro C hC
  simp only [List.take_succ_cons, List.take_zero, List.drop_succ_cons, List.drop_zero]
  repeat (first
    | ((with_reducible refine quiet_plain rfl (fun K hK => ?_)); (focus (apply quiet_val; (focus (intro w' hw; obtain ⟨hcq, hfq⟩ := bcell ((hC.out _).1 hw); go_simp; (first | done | rfl | (with_reducible exact call_below hC hw (hS _))))); (simp only [Act.put, List.setIfInBounds_toArray, List.set_cons_succ, List.set_cons_zero]); (with_reducible refine hK _ ?_); clear hK K)))
    | ((with_reducible refine quiet_skip ?_ ?_); (focus (first | (simp [Region.wanted, yielded]; done) | (simp [Region.wanted, yielded, undef]; done))); simp only [Act.put, List.setIfInBounds_toArray, List.set_cons_succ, List.set_cons_zero])
    | ((with_reducible refine quiet_go ?_ (fun K hK => ?_)); (focus (first | (simp [Region.wanted, yielded]; done) | (simp [Region.wanted, yielded, undef]; done))); (focus (apply quiet_val; (focus (intro w' hw; obtain ⟨hcq, hfq⟩ := bcell ((hC.out _).1 hw); go_simp; (first | done | rfl | (with_reducible exact call_below hC hw (hS _))))); (simp only [Act.put, List.setIfInBounds_toArray, List.set_cons_succ, List.set_cons_zero]); (with_reducible refine hK _ ?_); clear hK K))))
  refine wpQuiet_nil ?_
  intro w1 hb1
  replace hb1 := (hC.out _).1 hb1
  clear hC C
  obtain ⟨hc1, hf1⟩ := bcell hb1
  have P6' : Blk w1 (w.heap.size) 23 #[.int .i64 0, .int .i64 t, .int .i64 0, .bool r] := (P5).past hb1
  have R6' : Blk w1 (w.heap.size + 1) 38 #[.int .i64 0, .int .i64 0, .int .i64 0, .int .i64 0, .int .i64 0, .int .i64 0, .int .i64 0, .int .i64 0, .int .i64 0] := (R5).past hb1
  have F6' : Blk w1 (w.heap.size + 1 + 1) 3 #[.int .i64 1, .int .i64 (-1), .int .i64 0] := (F5).past hb1
  have U6' : Blk w1 (w.heap.size + 1 + 1 + 1 + 1 + 1) 59 #[.slice (some ⟨w.heap.size + 1 + 1, 0, none⟩) 3 3, .slice (some ⟨w.heap.size + 1 + 1 + 1, 0, none⟩) 3 3, .slice (some ⟨w.heap.size + 1 + 1 + 1 + 1, 0, none⟩) 3 3] := (U5).past hb1
  have B6' : Blk w1 (w.heap.size + 1 + 1 + 1 + 1 + 1 + 1) 38 #[.int .i64 (G * t), .int .i64 (-(G * t)), .int .i64 0, .int .i64 0, .int .i64 (G * t), .int .i64 (-(G * t)), .int .i64 0, .int .i64 0, .int .i64 0] := (B5).past hb1
  have S6' := pt (S5) hb1
  clear hb1 hc1 hf1 P5 R5 F5 U5 B5 S5 p0 p1 p2 p3 pl u0 ul f0 fl
  have b0 := B6'.cellAt 3 rfl
  have b1 := B6'.frozen 3
  have bl := B6'.lt
  go_wp2
  have P6 : Blk (w1.setCell ⟨w.heap.size + 1 + 1 + 1 + 1 + 1 + 1, 3, none⟩ (.int .i64 0)) (w.heap.size) 23 #[.int .i64 0, .int .i64 t, .int .i64 0, .bool r] := P6'.far (by show w.heap.size ≠ w.heap.size + 1 + 1 + 1 + 1 + 1 + 1; omega)
  have R6 : Blk (w1.setCell ⟨w.heap.size + 1 + 1 + 1 + 1 + 1 + 1, 3, none⟩ (.int .i64 0)) (w.heap.size + 1) 38 #[.int .i64 0, .int .i64 0, .int .i64 0, .int .i64 0, .int .i64 0, .int .i64 0, .int .i64 0, .int .i64 0, .int .i64 0] := R6'.far (by show w.heap.size + 1 ≠ w.heap.size + 1 + 1 + 1 + 1 + 1 + 1; omega)
  have F6 : Blk (w1.setCell ⟨w.heap.size + 1 + 1 + 1 + 1 + 1 + 1, 3, none⟩ (.int .i64 0)) (w.heap.size + 1 + 1) 3 #[.int .i64 1, .int .i64 (-1), .int .i64 0] := F6'.far (by show w.heap.size + 1 + 1 ≠ w.heap.size + 1 + 1 + 1 + 1 + 1 + 1; omega)
  have U6 : Blk (w1.setCell ⟨w.heap.size + 1 + 1 + 1 + 1 + 1 + 1, 3, none⟩ (.int .i64 0)) (w.heap.size + 1 + 1 + 1 + 1 + 1) 59 #[.slice (some ⟨w.heap.size + 1 + 1, 0, none⟩) 3 3, .slice (some ⟨w.heap.size + 1 + 1 + 1, 0, none⟩) 3 3, .slice (some ⟨w.heap.size + 1 + 1 + 1 + 1, 0, none⟩) 3 3] := U6'.far (by show w.heap.size + 1 + 1 + 1 + 1 + 1 ≠ w.heap.size + 1 + 1 + 1 + 1 + 1 + 1; omega)
  have B6 : Blk (w1.setCell ⟨w.heap.size + 1 + 1 + 1 + 1 + 1 + 1, 3, none⟩ (.int .i64 0)) (w.heap.size + 1 + 1 + 1 + 1 + 1 + 1) 38 #[.int .i64 (G * t), .int .i64 (-(G * t)), .int .i64 0, .int .i64 0, .int .i64 (G * t), .int .i64 (-(G * t)), .int .i64 0, .int .i64 0, .int .i64 0] := B6'.set_ 3 _
  have S6 : Below w.heap.size w (w1.setCell ⟨w.heap.size + 1 + 1 + 1 + 1 + 1 + 1, 3, none⟩ (.int .i64 0)) := ps S6' (by show w.heap.size ≤ w.heap.size + 1 + 1 + 1 + 1 + 1 + 1; omega)
  generalize w1.setCell ⟨w.heap.size + 1 + 1 + 1 + 1 + 1 + 1, 3, none⟩ (.int .i64 0) = W6 at *
  clear b0 b1 bl P6' R6' F6' U6' B6' S6'
  have p0 := P6.cellAt 0 rfl
  have p1 := P6.cellAt 1 rfl
  have p2 := P6.cellAt 2 rfl
  have p3 := P6.cellAt 3 rfl
  have pl := P6.lt
  have u0 := U6.cellAt 0 rfl
  have ul := U6.lt
  have f0 := F6.cellAt 0 rfl
  have fl := F6.lt
  rw [rounds_succ]
  go_wp2
  rw [rounds_succ]
  go_wp2
  refine wp_loop_rounds 4 ?_
  rw [rounds_succ]
  go_wp2
  refine region_below 24 follows_mixed (by kernel_rfl) ?_
  intro C hC
  simp only [List.take_succ_cons, List.take_zero, List.drop_succ_cons, List.drop_zero]
  repeat (first
    | ((with_reducible refine quiet_plain rfl (fun K hK => ?_)); (focus (apply quiet_val; (focus (intro w' hw; obtain ⟨hcq, hfq⟩ := bcell ((hC.out _).1 hw); go_simp; (first | done | rfl | (with_reducible exact call_below hC hw (hS _))))); (simp only [Act.put, List.setIfInBounds_toArray, List.set_cons_succ, List.set_cons_zero]); (with_reducible refine hK _ ?_); clear hK K)))
    | ((with_reducible refine quiet_skip ?_ ?_); (focus (first | (simp [Region.wanted, yielded]; done) | (simp [Region.wanted, yielded, undef]; done))); simp only [Act.put, List.setIfInBounds_toArray, List.set_cons_succ, List.set_cons_zero])
    | ((with_reducible refine quiet_go ?_ (fun K hK => ?_)); (focus (first | (simp [Region.wanted, yielded]; done) | (simp [Region.wanted, yielded, undef]; done))); (focus (apply quiet_val; (focus (intro w' hw; obtain ⟨hcq, hfq⟩ := bcell ((hC.out _).1 hw); go_simp; (first | done | rfl | (with_reducible exact call_below hC hw (hS _))))); (simp only [Act.put, List.setIfInBounds_toArray, List.set_cons_succ, List.set_cons_zero]); (with_reducible refine hK _ ?_); clear hK K))))
  refine wpQuiet_nil ?_
  intro w1 hb1
  replace hb1 := (hC.out _).1 hb1
  clear hC C
  obtain ⟨hc1, hf1⟩ := bcell hb1
  have P7' : Blk w1 (w.heap.size) 23 #[.int .i64 0, .int .i64 t, .int .i64 0, .bool r] := (P6).past hb1
  have R7' : Blk w1 (w.heap.size + 1) 38 #[.int .i64 0, .int .i64 0, .int .i64 0, .int .i64 0, .int .i64 0, .int .i64 0, .int .i64 0, .int .i64 0, .int .i64 0] := (R6).past hb1
  have F7' : Blk w1 (w.heap.size + 1 + 1) 3 #[.int .i64 1, .int .i64 (-1), .int .i64 0] := (F6).past hb1
  have U7' : Blk w1 (w.heap.size + 1 + 1 + 1 + 1 + 1) 59 #[.slice (some ⟨w.heap.size + 1 + 1, 0, none⟩) 3 3, .slice (some ⟨w.heap.size + 1 + 1 + 1, 0, none⟩) 3 3, .slice (some ⟨w.heap.size + 1 + 1 + 1 + 1, 0, none⟩) 3 3] := (U6).past hb1
  have B7' : Blk w1 (w.heap.size + 1 + 1 + 1 + 1 + 1 + 1) 38 #[.int .i64 (G * t), .int .i64 (-(G * t)), .int .i64 0, .int .i64 0, .int .i64 (G * t), .int .i64 (-(G * t)), .int .i64 0, .int .i64 0, .int .i64 0] := (B6).past hb1
  have S7' := pt (S6) hb1
  clear hb1 hc1 hf1 P6 R6 F6 U6 B6 S6 p0 p1 p2 p3 pl u0 ul f0 fl
  have b0 := B7'.cellAt 8 rfl
  have b1 := B7'.frozen 8
  have bl := B7'.lt
  go_wp2
  have P7 : Blk (w1.setCell ⟨w.heap.size + 1 + 1 + 1 + 1 + 1 + 1, 8, none⟩ (.int .i64 (G * t))) (w.heap.size) 23 #[.int .i64 0, .int .i64 t, .int .i64 0, .bool r] := P7'.far (by show w.heap.size ≠ w.heap.size + 1 + 1 + 1 + 1 + 1 + 1; omega)
  have R7 : Blk (w1.setCell ⟨w.heap.size + 1 + 1 + 1 + 1 + 1 + 1, 8, none⟩ (.int .i64 (G * t))) (w.heap.size + 1) 38 #[.int .i64 0, .int .i64 0, .int .i64 0, .int .i64 0, .int .i64 0, .int .i64 0, .int .i64 0, .int .i64 0, .int .i64 0] := R7'.far (by show w.heap.size + 1 ≠ w.heap.size + 1 + 1 + 1 + 1 + 1 + 1; omega)
  have F7 : Blk (w1.setCell ⟨w.heap.size + 1 + 1 + 1 + 1 + 1 + 1, 8, none⟩ (.int .i64 (G * t))) (w.heap.size + 1 + 1) 3 #[.int .i64 1, .int .i64 (-1), .int .i64 0] := F7'.far (by show w.heap.size + 1 + 1 ≠ w.heap.size + 1 + 1 + 1 + 1 + 1 + 1; omega)
  have U7 : Blk (w1.setCell ⟨w.heap.size + 1 + 1 + 1 + 1 + 1 + 1, 8, none⟩ (.int .i64 (G * t))) (w.heap.size + 1 + 1 + 1 + 1 + 1) 59 #[.slice (some ⟨w.heap.size + 1 + 1, 0, none⟩) 3 3, .slice (some ⟨w.heap.size + 1 + 1 + 1, 0, none⟩) 3 3, .slice (some ⟨w.heap.size + 1 + 1 + 1 + 1, 0, none⟩) 3 3] := U7'.far (by show w.heap.size + 1 + 1 + 1 + 1 + 1 ≠ w.heap.size + 1 + 1 + 1 + 1 + 1 + 1; omega)
  have B7 : Blk (w1.setCell ⟨w.heap.size + 1 + 1 + 1 + 1 + 1 + 1, 8, none⟩ (.int .i64 (G * t))) (w.heap.size + 1 + 1 + 1 + 1 + 1 + 1) 38 #[.int .i64 (G * t), .int .i64 (-(G * t)), .int .i64 0, .int .i64 0, .int .i64 (G * t), .int .i64 (-(G * t)), .int .i64 0, .int .i64 0, .int .i64 (G * t)] := B7'.set_ 8 _
  have S7 : Below w.heap.size w (w1.setCell ⟨w.heap.size + 1 + 1 + 1 + 1 + 1 + 1, 8, none⟩ (.int .i64 (G * t))) := ps S7' (by show w.heap.size ≤ w.heap.size + 1 + 1 + 1 + 1 + 1 + 1; omega)
  generalize w1.setCell ⟨w.heap.size + 1 + 1 + 1 + 1 + 1 + 1, 8, none⟩ (.int .i64 (G * t)) = W7 at *
  clear b0 b1 bl P7' R7' F7' U7' B7' S7'
  have p0 := P7.cellAt 0 rfl
  have p1 := P7.cellAt 1 rfl
  have p2 := P7.cellAt 2 rfl
  have p3 := P7.cellAt 3 rfl
  have pl := P7.lt
  have u0 := U7.cellAt 0 rfl
  have ul := U7.lt
  have f0 := F7.cellAt 1 rfl
  have fl := F7.lt
  rw [rounds_succ]
  go_wp2
  refine region_below 24 follows_mixed (by kernel_rfl) ?_
  intro C hC
  simp only [List.take_succ_cons, List.take_zero, List.drop_succ_cons, List.drop_zero]
  repeat (first
    | ((with_reducible refine quiet_plain rfl (fun K hK => ?_)); (focus (apply quiet_val; (focus (intro w' hw; obtain ⟨hcq, hfq⟩ := bcell ((hC.out _).1 hw); go_simp; (first | done | rfl | (with_reducible exact call_below hC hw (hS _))))); (simp only [Act.put, List.setIfInBounds_toArray, List.set_cons_succ, List.set_cons_zero]); (with_reducible refine hK _ ?_); clear hK K)))
    | ((with_reducible refine quiet_skip ?_ ?_); (focus (first | (simp [Region.wanted, yielded]; done) | (simp [Region.wanted, yielded, undef]; done))); simp only [Act.put, List.setIfInBounds_toArray, List.set_cons_succ, List.set_cons_zero])
    | ((with_reducible refine quiet_go ?_ (fun K hK => ?_)); (focus (first | (simp [Region.wanted, yielded]; done) | (simp [Region.wanted, yielded, undef]; done))); (focus (apply quiet_val; (focus (intro w' hw; obtain ⟨hcq, hfq⟩ := bcell ((hC.out _).1 hw); go_simp; (first | done | rfl | (with_reducible exact call_below hC hw (hS _))))); (simp only [Act.put, List.setIfInBounds_toArray, List.set_cons_succ, List.set_cons_zero]); (with_reducible refine hK _ ?_); clear hK K))))
  refine wpQuiet_nil ?_
  intro w1 hb1
  replace hb1 := (hC.out _).1 hb1
  clear hC C
  obtain ⟨hc1, hf1⟩ := bcell hb1
  have P8' : Blk w1 (w.heap.size) 23 #[.int .i64 0, .int .i64 t, .int .i64 0, .bool r] := (P7).past hb1
  have R8' : Blk w1 (w.heap.size + 1) 38 #[.int .i64 0, .int .i64 0, .int .i64 0, .int .i64 0, .int .i64 0, .int .i64 0, .int .i64 0, .int .i64 0, .int .i64 0] := (R7).past hb1
  have F8' : Blk w1 (w.heap.size + 1 + 1) 3 #[.int .i64 1, .int .i64 (-1), .int .i64 0] := (F7).past hb1
  have U8' : Blk w1 (w.heap.size + 1 + 1 + 1 + 1 + 1) 59 #[.slice (some ⟨w.heap.size + 1 + 1, 0, none⟩) 3 3, .slice (some ⟨w.heap.size + 1 + 1 + 1, 0, none⟩) 3 3, .slice (some ⟨w.heap.size + 1 + 1 + 1 + 1, 0, none⟩) 3 3] := (U7).past hb1
  have B8' : Blk w1 (w.heap.size + 1 + 1 + 1 + 1 + 1 + 1) 38 #[.int .i64 (G * t), .int .i64 (-(G * t)), .int .i64 0, .int .i64 0, .int .i64 (G * t), .int .i64 (-(G * t)), .int .i64 0, .int .i64 0, .int .i64 (G * t)] := (B7).past hb1
  have S8' := pt (S7) hb1
  clear hb1 hc1 hf1 P7 R7 F7 U7 B7 S7 p0 p1 p2 p3 pl u0 ul f0 fl
  have b0 := B8'.cellAt 6 rfl
  have b1 := B8'.frozen 6
  have bl := B8'.lt
  go_wp2
  have P8 : Blk (w1.setCell ⟨w.heap.size + 1 + 1 + 1 + 1 + 1 + 1, 6, none⟩ (.int .i64 (-(G * t)))) (w.heap.size) 23 #[.int .i64 0, .int .i64 t, .int .i64 0, .bool r] := P8'.far (by show w.heap.size ≠ w.heap.size + 1 + 1 + 1 + 1 + 1 + 1; omega)
  have R8 : Blk (w1.setCell ⟨w.heap.size + 1 + 1 + 1 + 1 + 1 + 1, 6, none⟩ (.int .i64 (-(G * t)))) (w.heap.size + 1) 38 #[.int .i64 0, .int .i64 0, .int .i64 0, .int .i64 0, .int .i64 0, .int .i64 0, .int .i64 0, .int .i64 0, .int .i64 0] := R8'.far (by show w.heap.size + 1 ≠ w.heap.size + 1 + 1 + 1 + 1 + 1 + 1; omega)
  have F8 : Blk (w1.setCell ⟨w.heap.size + 1 + 1 + 1 + 1 + 1 + 1, 6, none⟩ (.int .i64 (-(G * t)))) (w.heap.size + 1 + 1) 3 #[.int .i64 1, .int .i64 (-1), .int .i64 0] := F8'.far (by show w.heap.size + 1 + 1 ≠ w.heap.size + 1 + 1 + 1 + 1 + 1 + 1; omega)
  have U8 : Blk (w1.setCell ⟨w.heap.size + 1 + 1 + 1 + 1 + 1 + 1, 6, none⟩ (.int .i64 (-(G * t)))) (w.heap.size + 1 + 1 + 1 + 1 + 1) 59 #[.slice (some ⟨w.heap.size + 1 + 1, 0, none⟩) 3 3, .slice (some ⟨w.heap.size + 1 + 1 + 1, 0, none⟩) 3 3, .slice (some ⟨w.heap.size + 1 + 1 + 1 + 1, 0, none⟩) 3 3] := U8'.far (by show w.heap.size + 1 + 1 + 1 + 1 + 1 ≠ w.heap.size + 1 + 1 + 1 + 1 + 1 + 1; omega)
  have B8 : Blk (w1.setCell ⟨w.heap.size + 1 + 1 + 1 + 1 + 1 + 1, 6, none⟩ (.int .i64 (-(G * t)))) (w.heap.size + 1 + 1 + 1 + 1 + 1 + 1) 38 #[.int .i64 (G * t), .int .i64 (-(G * t)), .int .i64 0, .int .i64 0, .int .i64 (G * t), .int .i64 (-(G * t)), .int .i64 (-(G * t)), .int .i64 0, .int .i64 (G * t)] := B8'.set_ 6 _
  have S8 : Below w.heap.size w (w1.setCell ⟨w.heap.size + 1 + 1 + 1 + 1 + 1 + 1, 6, none⟩ (.int .i64 (-(G * t)))) := ps S8' (by show w.heap.size ≤ w.heap.size + 1 + 1 + 1 + 1 + 1 + 1; omega)
  generalize w1.setCell ⟨w.heap.size + 1 + 1 + 1 + 1 + 1 + 1, 6, none⟩ (.int .i64 (-(G * t))) = W8 at *
  clear b0 b1 bl P8' R8' F8' U8' B8' S8'
  have p0 := P8.cellAt 0 rfl
  have p1 := P8.cellAt 1 rfl
  have p2 := P8.cellAt 2 rfl
  have p3 := P8.cellAt 3 rfl
  have pl := P8.lt
  have u0 := U8.cellAt 0 rfl
  have ul := U8.lt
  have f0 := F8.cellAt 2 rfl
  have fl := F8.lt
  rw [rounds_succ]
  go_wp2
  refine region_below 24 follows_mixed (by kernel_rfl) ?_
  intro C hC
  simp only [List.take_succ_cons, List.take_zero, List.drop_succ_cons, List.drop_zero]
  repeat (first
    | ((with_reducible refine quiet_plain rfl (fun K hK => ?_)); (focus (apply quiet_val; (focus (intro w' hw; obtain ⟨hcq, hfq⟩ := bcell ((hC.out _).1 hw); go_simp; (first | done | rfl | (with_reducible exact call_below hC hw (hS _))))); (simp only [Act.put, List.setIfInBounds_toArray, List.set_cons_succ, List.set_cons_zero]); (with_reducible refine hK _ ?_); clear hK K)))
    | ((with_reducible refine quiet_skip ?_ ?_); (focus (first | (simp [Region.wanted, yielded]; done) | (simp [Region.wanted, yielded, undef]; done))); simp only [Act.put, List.setIfInBounds_toArray, List.set_cons_succ, List.set_cons_zero])
    | ((with_reducible refine quiet_go ?_ (fun K hK => ?_)); (focus (first | (simp [Region.wanted, yielded]; done) | (simp [Region.wanted, yielded, undef]; done))); (focus (apply quiet_val; (focus (intro w' hw; obtain ⟨hcq, hfq⟩ := bcell ((hC.out _).1 hw); go_simp; (first | done | rfl | (with_reducible exact call_below hC hw (hS _))))); (simp only [Act.put, List.setIfInBounds_toArray, List.set_cons_succ, List.set_cons_zero]); (with_reducible refine hK _ ?_); clear hK K))))
  refine wpQuiet_nil ?_
  intro w1 hb1
  replace hb1 := (hC.out _).1 hb1
  clear hC C
  obtain ⟨hc1, hf1⟩ := bcell hb1
  have P9' : Blk w1 (w.heap.size) 23 #[.int .i64 0, .int .i64 t, .int .i64 0, .bool r] := (P8).past hb1
  have R9' : Blk w1 (w.heap.size + 1) 38 #[.int .i64 0, .int .i64 0, .int .i64 0, .int .i64 0, .int .i64 0, .int .i64 0, .int .i64 0, .int .i64 0, .int .i64 0] := (R8).past hb1
  have F9' : Blk w1 (w.heap.size + 1 + 1) 3 #[.int .i64 1, .int .i64 (-1), .int .i64 0] := (F8).past hb1
  have U9' : Blk w1 (w.heap.size + 1 + 1 + 1 + 1 + 1) 59 #[.slice (some ⟨w.heap.size + 1 + 1, 0, none⟩) 3 3, .slice (some ⟨w.heap.size + 1 + 1 + 1, 0, none⟩) 3 3, .slice (some ⟨w.heap.size + 1 + 1 + 1 + 1, 0, none⟩) 3 3] := (U8).past hb1
  have B9' : Blk w1 (w.heap.size + 1 + 1 + 1 + 1 + 1 + 1) 38 #[.int .i64 (G * t), .int .i64 (-(G * t)), .int .i64 0, .int .i64 0, .int .i64 (G * t), .int .i64 (-(G * t)), .int .i64 (-(G * t)), .int .i64 0, .int .i64 (G * t)] := (B8).past hb1
  have S9' := pt (S8) hb1
  clear hb1 hc1 hf1 P8 R8 F8 U8 B8 S8 p0 p1 p2 p3 pl u0 ul f0 fl
  have b0 := B9'.cellAt 7 rfl
  have b1 := B9'.frozen 7
  have bl := B9'.lt
  go_wp2
  have P9 : Blk (w1.setCell ⟨w.heap.size + 1 + 1 + 1 + 1 + 1 + 1, 7, none⟩ (.int .i64 0)) (w.heap.size) 23 #[.int .i64 0, .int .i64 t, .int .i64 0, .bool r] := P9'.far (by show w.heap.size ≠ w.heap.size + 1 + 1 + 1 + 1 + 1 + 1; omega)
  have R9 : Blk (w1.setCell ⟨w.heap.size + 1 + 1 + 1 + 1 + 1 + 1, 7, none⟩ (.int .i64 0)) (w.heap.size + 1) 38 #[.int .i64 0, .int .i64 0, .int .i64 0, .int .i64 0, .int .i64 0, .int .i64 0, .int .i64 0, .int .i64 0, .int .i64 0] := R9'.far (by show w.heap.size + 1 ≠ w.heap.size + 1 + 1 + 1 + 1 + 1 + 1; omega)
  have F9 : Blk (w1.setCell ⟨w.heap.size + 1 + 1 + 1 + 1 + 1 + 1, 7, none⟩ (.int .i64 0)) (w.heap.size + 1 + 1) 3 #[.int .i64 1, .int .i64 (-1), .int .i64 0] := F9'.far (by show w.heap.size + 1 + 1 ≠ w.heap.size + 1 + 1 + 1 + 1 + 1 + 1; omega)
  have U9 : Blk (w1.setCell ⟨w.heap.size + 1 + 1 + 1 + 1 + 1 + 1, 7, none⟩ (.int .i64 0)) (w.heap.size + 1 + 1 + 1 + 1 + 1) 59 #[.slice (some ⟨w.heap.size + 1 + 1, 0, none⟩) 3 3, .slice (some ⟨w.heap.size + 1 + 1 + 1, 0, none⟩) 3 3, .slice (some ⟨w.heap.size + 1 + 1 + 1 + 1, 0, none⟩) 3 3] := U9'.far (by show w.heap.size + 1 + 1 + 1 + 1 + 1 ≠ w.heap.size + 1 + 1 + 1 + 1 + 1 + 1; omega)
  have B9 : Blk (w1.setCell ⟨w.heap.size + 1 + 1 + 1 + 1 + 1 + 1, 7, none⟩ (.int .i64 0)) (w.heap.size + 1 + 1 + 1 + 1 + 1 + 1) 38 #[.int .i64 (G * t), .int .i64 (-(G * t)), .int .i64 0, .int .i64 0, .int .i64 (G * t), .int .i64 (-(G * t)), .int .i64 (-(G * t)), .int .i64 0, .int .i64 (G * t)] := B9'.set_ 7 _
  have S9 : Below w.heap.size w (w1.setCell ⟨w.heap.size + 1 + 1 + 1 + 1 + 1 + 1, 7, none⟩ (.int .i64 0)) := ps S9' (by show w.heap.size ≤ w.heap.size + 1 + 1 + 1 + 1 + 1 + 1; omega)
  generalize w1.setCell ⟨w.heap.size + 1 + 1 + 1 + 1 + 1 + 1, 7, none⟩ (.int .i64 0) = W9 at *
  clear b0 b1 bl P9' R9' F9' U9' B9' S9'
  rw [rounds_succ]
  go_wp2
  clear P9 U9 F9 hS hg za zb zc z0 z1 z2 z3 z4 z5 z6
  rw [rounds_succ]
  go_wp2_with (first
    | ((with_reducible refine load_blk (T := 38) (x := .tmp 4) B9 Tryd.underlying38 ?_ ?_ ?_ ?_); (focus rfl); (focus exact apiLines_size); (focus rfl))
    | ((with_reducible refine store_blk (T := 38) (x := .tmp 2) (y := .tmp 43) (vs := #[.int .i64 (G * t), .int .i64 (-(G * t)), .int .i64 0, .int .i64 0, .int .i64 (G * t), .int .i64 (-(G * t)), .int .i64 (-(G * t)), .int .i64 0, .int .i64 (G * t)]) R9 ?_ ?_ ?_ ?_ ?_ ?_); (focus rfl); (focus exact apiLines_size); (focus (simp [Value.oneCell']; done)); (focus rfl); (focus rfl); intro WF RF PF))
  have g0 := RF.cellAt 0 rfl
  have g1 := RF.cellAt 1 rfl
  have g2 := RF.cellAt 2 rfl
  have g3 := RF.cellAt 3 rfl
  have g4 := RF.cellAt 4 rfl
  have g5 := RF.cellAt 5 rfl
  have g6 := RF.cellAt 6 rfl
  have g7 := RF.cellAt 7 rfl
  have g8 := RF.cellAt 8 rfl
  exact bodyPost_ret (v := .agg #[.int .i64 (G * t), .int .i64 (-(G * t)), .int .i64 0, .int .i64 0, .int .i64 (G * t), .int .i64 (-(G * t)), .int .i64 (-(G * t)), .int .i64 0, .int .i64 (G * t)]) (by simp [results, Tryd.results20, go_sem, g0, g1, g2, g3, g4, g5, g6, g7, g8]) rfl ⟨rfl, pp S9 PF (by omega)⟩

set_option maxHeartbeats 8000000 in
set_option maxRecDepth 100000 in
theorem refLines_01 (t G : Int) (r : Bool) (w : World) (hg : Sm 2000 (G * t))
    (hS : ∀ w, Calls Tryd.prog 65 #[.agg #[.int .i64 0, .int .i64 t, .int .i64 1, .bool r]] w fun e w' => e = .returned (.int .i64 G) ∧ Below w.heap.size w w') :
    Calls Tryd.prog 20 #[.agg #[.int .i64 0, .int .i64 t, .int .i64 1, .bool r]] w fun e w' => e = .returned (.agg #[.int .i64 0, .int .i64 (G * t), .int .i64 (-(G * t)), .int .i64 (-(G * t)), .int .i64 0, .int .i64 (G * t), .int .i64 (G * t), .int .i64 (-(G * t)), .int .i64 0]) ∧ Below w.heap.size w w' := by
  unfold Sm at hg
  have z0 : IntKind.i64.wrap 0 = 0 := by decide
  have z1 : IntKind.i64.wrap 1 = 1 := by decide
  have z2 : IntKind.i64.wrap 2 = 2 := by decide
  have z3 : IntKind.i64.wrap 3 = 3 := by decide
  have z4 : IntKind.i64.wrap 4 = 4 := by decide
  have z5 : IntKind.i64.wrap 5 = 5 := by decide
  have z6 : IntKind.i64.wrap 6 = 6 := by decide
  have za : IntKind.i64.wrap (G * t) = G * t := IntWalk.i64_in _ (by omega)
  have zb : IntKind.i64.wrap (-(G * t)) = -(G * t) := IntWalk.i64_in _ (by omega)
  have zc : IntKind.i64.wrap (-(G * t * 2)) = -(G * t * 2) := IntWalk.i64_in _ (by omega)
  go_enter Tryd.func20, Tryd.ntmps20
  go_wp2
  refine wp_loop_rounds 4 ?_
  rw [rounds_succ]
  go_wp2
  refine wp_loop_rounds 4 ?_
  rw [rounds_succ]
  go_wp2
  refine region_below 24 follows_mixed (by kernel_rfl) ?_
  intro C hC
  simp only [List.take_succ_cons, List.take_zero, List.drop_succ_cons, List.drop_zero]
  repeat (first
    | ((with_reducible refine quiet_plain rfl (fun K hK => ?_)); (focus (apply quiet_val; (focus (intro w' hw; obtain ⟨hcq, hfq⟩ := bcell ((hC.out _).1 hw); go_simp; (first | done | rfl | (with_reducible exact call_below hC hw (hS _))))); (simp only [Act.put, List.setIfInBounds_toArray, List.set_cons_succ, List.set_cons_zero]); (with_reducible refine hK _ ?_); clear hK K)))
    | ((with_reducible refine quiet_skip ?_ ?_); (focus (first | (simp [Region.wanted, yielded]; done) | (simp [Region.wanted, yielded, undef]; done))); simp only [Act.put, List.setIfInBounds_toArray, List.set_cons_succ, List.set_cons_zero])
    | ((with_reducible refine quiet_go ?_ (fun K hK => ?_)); (focus (first | (simp [Region.wanted, yielded]; done) | (simp [Region.wanted, yielded, undef]; done))); (focus (apply quiet_val; (focus (intro w' hw; obtain ⟨hcq, hfq⟩ := bcell ((hC.out _).1 hw); go_simp; (first | done | rfl | (with_reducible exact call_below hC hw (hS _))))); (simp only [Act.put, List.setIfInBounds_toArray, List.set_cons_succ, List.set_cons_zero]); (with_reducible refine hK _ ?_); clear hK K))))
  refine wpQuiet_nil ?_
  intro w1 hb1
  replace hb1 := (hC.out _).1 hb1
  clear hC C
  obtain ⟨hc1, hf1⟩ := bcell hb1
  have P1' : Blk w1 (w.heap.size) 23 #[.int .i64 0, .int .i64 t, .int .i64 1, .bool r] := ((Blk.newAt rfl).alloc.alloc.alloc.alloc.alloc.alloc).past hb1
  have R1' : Blk w1 (w.heap.size + 1) 38 #[.int .i64 0, .int .i64 0, .int .i64 0, .int .i64 0, .int .i64 0, .int .i64 0, .int .i64 0, .int .i64 0, .int .i64 0] := ((Blk.newAt (by simp)).alloc.alloc.alloc.alloc.alloc).past hb1
  have F1' : Blk w1 (w.heap.size + 1 + 1) 3 #[.int .i64 1, .int .i64 (-1), .int .i64 0] := ((Blk.newAt (by simp)).alloc.alloc.alloc.alloc).past hb1
  have U1' : Blk w1 (w.heap.size + 1 + 1 + 1 + 1 + 1) 59 #[.slice (some ⟨w.heap.size + 1 + 1, 0, none⟩) 3 3, .slice (some ⟨w.heap.size + 1 + 1 + 1, 0, none⟩) 3 3, .slice (some ⟨w.heap.size + 1 + 1 + 1 + 1, 0, none⟩) 3 3] := ((Blk.newAt (by simp)).alloc).past hb1
  have B1' : Blk w1 (w.heap.size + 1 + 1 + 1 + 1 + 1 + 1) 38 #[.int .i64 0, .int .i64 0, .int .i64 0, .int .i64 0, .int .i64 0, .int .i64 0, .int .i64 0, .int .i64 0, .int .i64 0] := ((Blk.newAt (by simp))).past hb1
  have S1' := pt (pa (pa (pa (pa (pa (pa (pa (pr)))))))) hb1
  clear hb1 hc1 hf1 
  have b0 := B1'.cellAt 1 rfl
  have b1 := B1'.frozen 1
  have bl := B1'.lt
  go_wp2
  have P1 : Blk (w1.setCell ⟨w.heap.size + 1 + 1 + 1 + 1 + 1 + 1, 1, none⟩ (.int .i64 (G * t))) (w.heap.size) 23 #[.int .i64 0, .int .i64 t, .int .i64 1, .bool r] := P1'.far (by show w.heap.size ≠ w.heap.size + 1 + 1 + 1 + 1 + 1 + 1; omega)
  have R1 : Blk (w1.setCell ⟨w.heap.size + 1 + 1 + 1 + 1 + 1 + 1, 1, none⟩ (.int .i64 (G * t))) (w.heap.size + 1) 38 #[.int .i64 0, .int .i64 0, .int .i64 0, .int .i64 0, .int .i64 0, .int .i64 0, .int .i64 0, .int .i64 0, .int .i64 0] := R1'.far (by show w.heap.size + 1 ≠ w.heap.size + 1 + 1 + 1 + 1 + 1 + 1; omega)
  have F1 : Blk (w1.setCell ⟨w.heap.size + 1 + 1 + 1 + 1 + 1 + 1, 1, none⟩ (.int .i64 (G * t))) (w.heap.size + 1 + 1) 3 #[.int .i64 1, .int .i64 (-1), .int .i64 0] := F1'.far (by show w.heap.size + 1 + 1 ≠ w.heap.size + 1 + 1 + 1 + 1 + 1 + 1; omega)
  have U1 : Blk (w1.setCell ⟨w.heap.size + 1 + 1 + 1 + 1 + 1 + 1, 1, none⟩ (.int .i64 (G * t))) (w.heap.size + 1 + 1 + 1 + 1 + 1) 59 #[.slice (some ⟨w.heap.size + 1 + 1, 0, none⟩) 3 3, .slice (some ⟨w.heap.size + 1 + 1 + 1, 0, none⟩) 3 3, .slice (some ⟨w.heap.size + 1 + 1 + 1 + 1, 0, none⟩) 3 3] := U1'.far (by show w.heap.size + 1 + 1 + 1 + 1 + 1 ≠ w.heap.size + 1 + 1 + 1 + 1 + 1 + 1; omega)
  have B1 : Blk (w1.setCell ⟨w.heap.size + 1 + 1 + 1 + 1 + 1 + 1, 1, none⟩ (.int .i64 (G * t))) (w.heap.size + 1 + 1 + 1 + 1 + 1 + 1) 38 #[.int .i64 0, .int .i64 (G * t), .int .i64 0, .int .i64 0, .int .i64 0, .int .i64 0, .int .i64 0, .int .i64 0, .int .i64 0] := B1'.set_ 1 _
  have S1 : Below w.heap.size w (w1.setCell ⟨w.heap.size + 1 + 1 + 1 + 1 + 1 + 1, 1, none⟩ (.int .i64 (G * t))) := ps S1' (by show w.heap.size ≤ w.heap.size + 1 + 1 + 1 + 1 + 1 + 1; omega)
  generalize w1.setCell ⟨w.heap.size + 1 + 1 + 1 + 1 + 1 + 1, 1, none⟩ (.int .i64 (G * t)) = W1 at *
  clear b0 b1 bl P1' R1' F1' U1' B1' S1'
  have p0 := P1.cellAt 0 rfl
  have p1 := P1.cellAt 1 rfl
  have p2 := P1.cellAt 2 rfl
  have p3 := P1.cellAt 3 rfl
  have pl := P1.lt
  have u0 := U1.cellAt 0 rfl
  have ul := U1.lt
  have f0 := F1.cellAt 1 rfl
  have fl := F1.lt
  rw [rounds_succ]
  go_wp2
  refine region_below 24 follows_mixed (by kernel_rfl) ?_
  intro C hC
  simp only [List.take_succ_cons, List.take_zero, List.drop_succ_cons, List.drop_zero]
  repeat (first
    | ((with_reducible refine quiet_plain rfl (fun K hK => ?_)); (focus (apply quiet_val; (focus (intro w' hw; obtain ⟨hcq, hfq⟩ := bcell ((hC.out _).1 hw); go_simp; (first | done | rfl | (with_reducible exact call_below hC hw (hS _))))); (simp only [Act.put, List.setIfInBounds_toArray, List.set_cons_succ, List.set_cons_zero]); (with_reducible refine hK _ ?_); clear hK K)))
    | ((with_reducible refine quiet_skip ?_ ?_); (focus (first | (simp [Region.wanted, yielded]; done) | (simp [Region.wanted, yielded, undef]; done))); simp only [Act.put, List.setIfInBounds_toArray, List.set_cons_succ, List.set_cons_zero])
    | ((with_reducible refine quiet_go ?_ (fun K hK => ?_)); (focus (first | (simp [Region.wanted, yielded]; done) | (simp [Region.wanted, yielded, undef]; done))); (focus (apply quiet_val; (focus (intro w' hw; obtain ⟨hcq, hfq⟩ := bcell ((hC.out _).1 hw); go_simp; (first | done | rfl | (with_reducible exact call_below hC hw (hS _))))); (simp only [Act.put, List.setIfInBounds_toArray, List.set_cons_succ, List.set_cons_zero]); (with_reducible refine hK _ ?_); clear hK K))))
  refine wpQuiet_nil ?_
  intro w1 hb1
  replace hb1 := (hC.out _).1 hb1
  clear hC C
  obtain ⟨hc1, hf1⟩ := bcell hb1
  have P2' : Blk w1 (w.heap.size) 23 #[.int .i64 0, .int .i64 t, .int .i64 1, .bool r] := (P1).past hb1
  have R2' : Blk w1 (w.heap.size + 1) 38 #[.int .i64 0, .int .i64 0, .int .i64 0, .int .i64 0, .int .i64 0, .int .i64 0, .int .i64 0, .int .i64 0, .int .i64 0] := (R1).past hb1
  have F2' : Blk w1 (w.heap.size + 1 + 1) 3 #[.int .i64 1, .int .i64 (-1), .int .i64 0] := (F1).past hb1
  have U2' : Blk w1 (w.heap.size + 1 + 1 + 1 + 1 + 1) 59 #[.slice (some ⟨w.heap.size + 1 + 1, 0, none⟩) 3 3, .slice (some ⟨w.heap.size + 1 + 1 + 1, 0, none⟩) 3 3, .slice (some ⟨w.heap.size + 1 + 1 + 1 + 1, 0, none⟩) 3 3] := (U1).past hb1
  have B2' : Blk w1 (w.heap.size + 1 + 1 + 1 + 1 + 1 + 1) 38 #[.int .i64 0, .int .i64 (G * t), .int .i64 0, .int .i64 0, .int .i64 0, .int .i64 0, .int .i64 0, .int .i64 0, .int .i64 0] := (B1).past hb1
  have S2' := pt (S1) hb1
  clear hb1 hc1 hf1 P1 R1 F1 U1 B1 S1 p0 p1 p2 p3 pl u0 ul f0 fl
  have b0 := B2'.cellAt 2 rfl
  have b1 := B2'.frozen 2
  have bl := B2'.lt
  go_wp2
  have P2 : Blk (w1.setCell ⟨w.heap.size + 1 + 1 + 1 + 1 + 1 + 1, 2, none⟩ (.int .i64 (-(G * t)))) (w.heap.size) 23 #[.int .i64 0, .int .i64 t, .int .i64 1, .bool r] := P2'.far (by show w.heap.size ≠ w.heap.size + 1 + 1 + 1 + 1 + 1 + 1; omega)
  have R2 : Blk (w1.setCell ⟨w.heap.size + 1 + 1 + 1 + 1 + 1 + 1, 2, none⟩ (.int .i64 (-(G * t)))) (w.heap.size + 1) 38 #[.int .i64 0, .int .i64 0, .int .i64 0, .int .i64 0, .int .i64 0, .int .i64 0, .int .i64 0, .int .i64 0, .int .i64 0] := R2'.far (by show w.heap.size + 1 ≠ w.heap.size + 1 + 1 + 1 + 1 + 1 + 1; omega)
  have F2 : Blk (w1.setCell ⟨w.heap.size + 1 + 1 + 1 + 1 + 1 + 1, 2, none⟩ (.int .i64 (-(G * t)))) (w.heap.size + 1 + 1) 3 #[.int .i64 1, .int .i64 (-1), .int .i64 0] := F2'.far (by show w.heap.size + 1 + 1 ≠ w.heap.size + 1 + 1 + 1 + 1 + 1 + 1; omega)
  have U2 : Blk (w1.setCell ⟨w.heap.size + 1 + 1 + 1 + 1 + 1 + 1, 2, none⟩ (.int .i64 (-(G * t)))) (w.heap.size + 1 + 1 + 1 + 1 + 1) 59 #[.slice (some ⟨w.heap.size + 1 + 1, 0, none⟩) 3 3, .slice (some ⟨w.heap.size + 1 + 1 + 1, 0, none⟩) 3 3, .slice (some ⟨w.heap.size + 1 + 1 + 1 + 1, 0, none⟩) 3 3] := U2'.far (by show w.heap.size + 1 + 1 + 1 + 1 + 1 ≠ w.heap.size + 1 + 1 + 1 + 1 + 1 + 1; omega)
  have B2 : Blk (w1.setCell ⟨w.heap.size + 1 + 1 + 1 + 1 + 1 + 1, 2, none⟩ (.int .i64 (-(G * t)))) (w.heap.size + 1 + 1 + 1 + 1 + 1 + 1) 38 #[.int .i64 0, .int .i64 (G * t), .int .i64 (-(G * t)), .int .i64 0, .int .i64 0, .int .i64 0, .int .i64 0, .int .i64 0, .int .i64 0] := B2'.set_ 2 _
  have S2 : Below w.heap.size w (w1.setCell ⟨w.heap.size + 1 + 1 + 1 + 1 + 1 + 1, 2, none⟩ (.int .i64 (-(G * t)))) := ps S2' (by show w.heap.size ≤ w.heap.size + 1 + 1 + 1 + 1 + 1 + 1; omega)
  generalize w1.setCell ⟨w.heap.size + 1 + 1 + 1 + 1 + 1 + 1, 2, none⟩ (.int .i64 (-(G * t))) = W2 at *
  clear b0 b1 bl P2' R2' F2' U2' B2' S2'
  have p0 := P2.cellAt 0 rfl
  have p1 := P2.cellAt 1 rfl
  have p2 := P2.cellAt 2 rfl
  have p3 := P2.cellAt 3 rfl
  have pl := P2.lt
  have u0 := U2.cellAt 0 rfl
  have ul := U2.lt
  have f0 := F2.cellAt 2 rfl
  have fl := F2.lt
  rw [rounds_succ]
  go_wp2
  refine region_below 24 follows_mixed (by kernel_rfl) ?_
  intro C hC
  simp only [List.take_succ_cons, List.take_zero, List.drop_succ_cons, List.drop_zero]
  repeat (first
    | ((with_reducible refine quiet_plain rfl (fun K hK => ?_)); (focus (apply quiet_val; (focus (intro w' hw; obtain ⟨hcq, hfq⟩ := bcell ((hC.out _).1 hw); go_simp; (first | done | rfl | (with_reducible exact call_below hC hw (hS _))))); (simp only [Act.put, List.setIfInBounds_toArray, List.set_cons_succ, List.set_cons_zero]); (with_reducible refine hK _ ?_); clear hK K)))
    | ((with_reducible refine quiet_skip ?_ ?_); (focus (first | (simp [Region.wanted, yielded]; done) | (simp [Region.wanted, yielded, undef]; done))); simp only [Act.put, List.setIfInBounds_toArray, List.set_cons_succ, List.set_cons_zero])
    | ((with_reducible refine quiet_go ?_ (fun K hK => ?_)); (focus (first | (simp [Region.wanted, yielded]; done) | (simp [Region.wanted, yielded, undef]; done))); (focus (apply quiet_val; (focus (intro w' hw; obtain ⟨hcq, hfq⟩ := bcell ((hC.out _).1 hw); go_simp; (first | done | rfl | (with_reducible exact call_below hC hw (hS _))))); (simp only [Act.put, List.setIfInBounds_toArray, List.set_cons_succ, List.set_cons_zero]); (with_reducible refine hK _ ?_); clear hK K))))
  refine wpQuiet_nil ?_
  intro w1 hb1
  replace hb1 := (hC.out _).1 hb1
  clear hC C
  obtain ⟨hc1, hf1⟩ := bcell hb1
  have P3' : Blk w1 (w.heap.size) 23 #[.int .i64 0, .int .i64 t, .int .i64 1, .bool r] := (P2).past hb1
  have R3' : Blk w1 (w.heap.size + 1) 38 #[.int .i64 0, .int .i64 0, .int .i64 0, .int .i64 0, .int .i64 0, .int .i64 0, .int .i64 0, .int .i64 0, .int .i64 0] := (R2).past hb1
  have F3' : Blk w1 (w.heap.size + 1 + 1) 3 #[.int .i64 1, .int .i64 (-1), .int .i64 0] := (F2).past hb1
  have U3' : Blk w1 (w.heap.size + 1 + 1 + 1 + 1 + 1) 59 #[.slice (some ⟨w.heap.size + 1 + 1, 0, none⟩) 3 3, .slice (some ⟨w.heap.size + 1 + 1 + 1, 0, none⟩) 3 3, .slice (some ⟨w.heap.size + 1 + 1 + 1 + 1, 0, none⟩) 3 3] := (U2).past hb1
  have B3' : Blk w1 (w.heap.size + 1 + 1 + 1 + 1 + 1 + 1) 38 #[.int .i64 0, .int .i64 (G * t), .int .i64 (-(G * t)), .int .i64 0, .int .i64 0, .int .i64 0, .int .i64 0, .int .i64 0, .int .i64 0] := (B2).past hb1
  have S3' := pt (S2) hb1
  clear hb1 hc1 hf1 P2 R2 F2 U2 B2 S2 p0 p1 p2 p3 pl u0 ul f0 fl
  have b0 := B3'.cellAt 0 rfl
  have b1 := B3'.frozen 0
  have bl := B3'.lt
  go_wp2
  have P3 : Blk (w1.setCell ⟨w.heap.size + 1 + 1 + 1 + 1 + 1 + 1, 0, none⟩ (.int .i64 0)) (w.heap.size) 23 #[.int .i64 0, .int .i64 t, .int .i64 1, .bool r] := P3'.far (by show w.heap.size ≠ w.heap.size + 1 + 1 + 1 + 1 + 1 + 1; omega)
  have R3 : Blk (w1.setCell ⟨w.heap.size + 1 + 1 + 1 + 1 + 1 + 1, 0, none⟩ (.int .i64 0)) (w.heap.size + 1) 38 #[.int .i64 0, .int .i64 0, .int .i64 0, .int .i64 0, .int .i64 0, .int .i64 0, .int .i64 0, .int .i64 0, .int .i64 0] := R3'.far (by show w.heap.size + 1 ≠ w.heap.size + 1 + 1 + 1 + 1 + 1 + 1; omega)
  have F3 : Blk (w1.setCell ⟨w.heap.size + 1 + 1 + 1 + 1 + 1 + 1, 0, none⟩ (.int .i64 0)) (w.heap.size + 1 + 1) 3 #[.int .i64 1, .int .i64 (-1), .int .i64 0] := F3'.far (by show w.heap.size + 1 + 1 ≠ w.heap.size + 1 + 1 + 1 + 1 + 1 + 1; omega)
  have U3 : Blk (w1.setCell ⟨w.heap.size + 1 + 1 + 1 + 1 + 1 + 1, 0, none⟩ (.int .i64 0)) (w.heap.size + 1 + 1 + 1 + 1 + 1) 59 #[.slice (some ⟨w.heap.size + 1 + 1, 0, none⟩) 3 3, .slice (some ⟨w.heap.size + 1 + 1 + 1, 0, none⟩) 3 3, .slice (some ⟨w.heap.size + 1 + 1 + 1 + 1, 0, none⟩) 3 3] := U3'.far (by show w.heap.size + 1 + 1 + 1 + 1 + 1 ≠ w.heap.size + 1 + 1 + 1 + 1 + 1 + 1; omega)
  have B3 : Blk (w1.setCell ⟨w.heap.size + 1 + 1 + 1 + 1 + 1 + 1, 0, none⟩ (.int .i64 0)) (w.heap.size + 1 + 1 + 1 + 1 + 1 + 1) 38 #[.int .i64 0, .int .i64 (G * t), .int .i64 (-(G * t)), .int .i64 0, .int .i64 0, .int .i64 0, .int .i64 0, .int .i64 0, .int .i64 0] := B3'.set_ 0 _
  have S3 : Below w.heap.size w (w1.setCell ⟨w.heap.size + 1 + 1 + 1 + 1 + 1 + 1, 0, none⟩ (.int .i64 0)) := ps S3' (by show w.heap.size ≤ w.heap.size + 1 + 1 + 1 + 1 + 1 + 1; omega)
  generalize w1.setCell ⟨w.heap.size + 1 + 1 + 1 + 1 + 1 + 1, 0, none⟩ (.int .i64 0) = W3 at *
  clear b0 b1 bl P3' R3' F3' U3' B3' S3'
  have p0 := P3.cellAt 0 rfl
  have p1 := P3.cellAt 1 rfl
  have p2 := P3.cellAt 2 rfl
  have p3 := P3.cellAt 3 rfl
  have pl := P3.lt
  have u0 := U3.cellAt 0 rfl
  have ul := U3.lt
  have f0 := F3.cellAt 0 rfl
  have fl := F3.lt
  rw [rounds_succ]
  go_wp2
  rw [rounds_succ]
  go_wp2
  refine wp_loop_rounds 4 ?_
  rw [rounds_succ]
  go_wp2
  refine region_below 24 follows_mixed (by kernel_rfl) ?_
  intro C hC
  simp only [List.take_succ_cons, List.take_zero, List.drop_succ_cons, List.drop_zero]
  repeat (first
    | ((with_reducible refine quiet_plain rfl (fun K hK => ?_)); (focus (apply quiet_val; (focus (intro w' hw; obtain ⟨hcq, hfq⟩ := bcell ((hC.out _).1 hw); go_simp; (first | done | rfl | (with_reducible exact call_below hC hw (hS _))))); (simp only [Act.put, List.setIfInBounds_toArray, List.set_cons_succ, List.set_cons_zero]); (with_reducible refine hK _ ?_); clear hK K)))
    | ((with_reducible refine quiet_skip ?_ ?_); (focus (first | (simp [Region.wanted, yielded]; done) | (simp [Region.wanted, yielded, undef]; done))); simp only [Act.put, List.setIfInBounds_toArray, List.set_cons_succ, List.set_cons_zero])
    | ((with_reducible refine quiet_go ?_ (fun K hK => ?_)); (focus (first | (simp [Region.wanted, yielded]; done) | (simp [Region.wanted, yielded, undef]; done))); (focus (apply quiet_val; (focus (intro w' hw; obtain ⟨hcq, hfq⟩ := bcell ((hC.out _).1 hw); go_simp; (first | done | rfl | (with_reducible exact call_below hC hw (hS _))))); (simp only [Act.put, List.setIfInBounds_toArray, List.set_cons_succ, List.set_cons_zero]); (with_reducible refine hK _ ?_); clear hK K))))
  refine wpQuiet_nil ?_
  intro w1 hb1
  replace hb1 := (hC.out _).1 hb1
  clear hC C
  obtain ⟨hc1, hf1⟩ := bcell hb1
  have P4' : Blk w1 (w.heap.size) 23 #[.int .i64 0, .int .i64 t, .int .i64 1, .bool r] := (P3).past hb1
  have R4' : Blk w1 (w.heap.size + 1) 38 #[.int .i64 0, .int .i64 0, .int .i64 0, .int .i64 0, .int .i64 0, .int .i64 0, .int .i64 0, .int .i64 0, .int .i64 0] := (R3).past hb1
  have F4' : Blk w1 (w.heap.size + 1 + 1) 3 #[.int .i64 1, .int .i64 (-1), .int .i64 0] := (F3).past hb1
  have U4' : Blk w1 (w.heap.size + 1 + 1 + 1 + 1 + 1) 59 #[.slice (some ⟨w.heap.size + 1 + 1, 0, none⟩) 3 3, .slice (some ⟨w.heap.size + 1 + 1 + 1, 0, none⟩) 3 3, .slice (some ⟨w.heap.size + 1 + 1 + 1 + 1, 0, none⟩) 3 3] := (U3).past hb1
  have B4' : Blk w1 (w.heap.size + 1 + 1 + 1 + 1 + 1 + 1) 38 #[.int .i64 0, .int .i64 (G * t), .int .i64 (-(G * t)), .int .i64 0, .int .i64 0, .int .i64 0, .int .i64 0, .int .i64 0, .int .i64 0] := (B3).past hb1
  have S4' := pt (S3) hb1
  clear hb1 hc1 hf1 P3 R3 F3 U3 B3 S3 p0 p1 p2 p3 pl u0 ul f0 fl
  have b0 := B4'.cellAt 5 rfl
  have b1 := B4'.frozen 5
  have bl := B4'.lt
  go_wp2
  have P4 : Blk (w1.setCell ⟨w.heap.size + 1 + 1 + 1 + 1 + 1 + 1, 5, none⟩ (.int .i64 (G * t))) (w.heap.size) 23 #[.int .i64 0, .int .i64 t, .int .i64 1, .bool r] := P4'.far (by show w.heap.size ≠ w.heap.size + 1 + 1 + 1 + 1 + 1 + 1; omega)
  have R4 : Blk (w1.setCell ⟨w.heap.size + 1 + 1 + 1 + 1 + 1 + 1, 5, none⟩ (.int .i64 (G * t))) (w.heap.size + 1) 38 #[.int .i64 0, .int .i64 0, .int .i64 0, .int .i64 0, .int .i64 0, .int .i64 0, .int .i64 0, .int .i64 0, .int .i64 0] := R4'.far (by show w.heap.size + 1 ≠ w.heap.size + 1 + 1 + 1 + 1 + 1 + 1; omega)
  have F4 : Blk (w1.setCell ⟨w.heap.size + 1 + 1 + 1 + 1 + 1 + 1, 5, none⟩ (.int .i64 (G * t))) (w.heap.size + 1 + 1) 3 #[.int .i64 1, .int .i64 (-1), .int .i64 0] := F4'.far (by show w.heap.size + 1 + 1 ≠ w.heap.size + 1 + 1 + 1 + 1 + 1 + 1; omega)
  have U4 : Blk (w1.setCell ⟨w.heap.size + 1 + 1 + 1 + 1 + 1 + 1, 5, none⟩ (.int .i64 (G * t))) (w.heap.size + 1 + 1 + 1 + 1 + 1) 59 #[.slice (some ⟨w.heap.size + 1 + 1, 0, none⟩) 3 3, .slice (some ⟨w.heap.size + 1 + 1 + 1, 0, none⟩) 3 3, .slice (some ⟨w.heap.size + 1 + 1 + 1 + 1, 0, none⟩) 3 3] := U4'.far (by show w.heap.size + 1 + 1 + 1 + 1 + 1 ≠ w.heap.size + 1 + 1 + 1 + 1 + 1 + 1; omega)
  have B4 : Blk (w1.setCell ⟨w.heap.size + 1 + 1 + 1 + 1 + 1 + 1, 5, none⟩ (.int .i64 (G * t))) (w.heap.size + 1 + 1 + 1 + 1 + 1 + 1) 38 #[.int .i64 0, .int .i64 (G * t), .int .i64 (-(G * t)), .int .i64 0, .int .i64 0, .int .i64 (G * t), .int .i64 0, .int .i64 0, .int .i64 0] := B4'.set_ 5 _
  have S4 : Below w.heap.size w (w1.setCell ⟨w.heap.size + 1 + 1 + 1 + 1 + 1 + 1, 5, none⟩ (.int .i64 (G * t))) := ps S4' (by show w.heap.size ≤ w.heap.size + 1 + 1 + 1 + 1 + 1 + 1; omega)
  generalize w1.setCell ⟨w.heap.size + 1 + 1 + 1 + 1 + 1 + 1, 5, none⟩ (.int .i64 (G * t)) = W4 at *
  clear b0 b1 bl P4' R4' F4' U4' B4' S4'
  have p0 := P4.cellAt 0 rfl
  have p1 := P4.cellAt 1 rfl
  have p2 := P4.cellAt 2 rfl
  have p3 := P4.cellAt 3 rfl
  have pl := P4.lt
  have u0 := U4.cellAt 0 rfl
  have ul := U4.lt
  have f0 := F4.cellAt 1 rfl
  have fl := F4.lt
  rw [rounds_succ]
  go_wp2
  refine region_below 24 follows_mixed (by kernel_rfl) ?_
  intro C hC
  simp only [List.take_succ_cons, List.take_zero, List.drop_succ_cons, List.drop_zero]
  repeat (first
    | ((with_reducible refine quiet_plain rfl (fun K hK => ?_)); (focus (apply quiet_val; (focus (intro w' hw; obtain ⟨hcq, hfq⟩ := bcell ((hC.out _).1 hw); go_simp; (first | done | rfl | (with_reducible exact call_below hC hw (hS _))))); (simp only [Act.put, List.setIfInBounds_toArray, List.set_cons_succ, List.set_cons_zero]); (with_reducible refine hK _ ?_); clear hK K)))
    | ((with_reducible refine quiet_skip ?_ ?_); (focus (first | (simp [Region.wanted, yielded]; done) | (simp [Region.wanted, yielded, undef]; done))); simp only [Act.put, List.setIfInBounds_toArray, List.set_cons_succ, List.set_cons_zero])
    | ((with_reducible refine quiet_go ?_ (fun K hK => ?_)); (focus (first | (simp [Region.wanted, yielded]; done) | (simp [Region.wanted, yielded, undef]; done))); (focus (apply quiet_val; (focus (intro w' hw; obtain ⟨hcq, hfq⟩ := bcell ((hC.out _).1 hw); go_simp; (first | done | rfl | (with_reducible exact call_below hC hw (hS _))))); (simp only [Act.put, List.setIfInBounds_toArray, List.set_cons_succ, List.set_cons_zero]); (with_reducible refine hK _ ?_); clear hK K))))
  refine wpQuiet_nil ?_
  intro w1 hb1
  replace hb1 := (hC.out _).1 hb1
  clear hC C
  obtain ⟨hc1, hf1⟩ := bcell hb1
  have P5' : Blk w1 (w.heap.size) 23 #[.int .i64 0, .int .i64 t, .int .i64 1, .bool r] := (P4).past hb1
  have R5' : Blk w1 (w.heap.size + 1) 38 #[.int .i64 0, .int .i64 0, .int .i64 0, .int .i64 0, .int .i64 0, .int .i64 0, .int .i64 0, .int .i64 0, .int .i64 0] := (R4).past hb1
  have F5' : Blk w1 (w.heap.size + 1 + 1) 3 #[.int .i64 1, .int .i64 (-1), .int .i64 0] := (F4).past hb1
  have U5' : Blk w1 (w.heap.size + 1 + 1 + 1 + 1 + 1) 59 #[.slice (some ⟨w.heap.size + 1 + 1, 0, none⟩) 3 3, .slice (some ⟨w.heap.size + 1 + 1 + 1, 0, none⟩) 3 3, .slice (some ⟨w.heap.size + 1 + 1 + 1 + 1, 0, none⟩) 3 3] := (U4).past hb1
  have B5' : Blk w1 (w.heap.size + 1 + 1 + 1 + 1 + 1 + 1) 38 #[.int .i64 0, .int .i64 (G * t), .int .i64 (-(G * t)), .int .i64 0, .int .i64 0, .int .i64 (G * t), .int .i64 0, .int .i64 0, .int .i64 0] := (B4).past hb1
  have S5' := pt (S4) hb1
  clear hb1 hc1 hf1 P4 R4 F4 U4 B4 S4 p0 p1 p2 p3 pl u0 ul f0 fl
  have b0 := B5'.cellAt 3 rfl
  have b1 := B5'.frozen 3
  have bl := B5'.lt
  go_wp2
  have P5 : Blk (w1.setCell ⟨w.heap.size + 1 + 1 + 1 + 1 + 1 + 1, 3, none⟩ (.int .i64 (-(G * t)))) (w.heap.size) 23 #[.int .i64 0, .int .i64 t, .int .i64 1, .bool r] := P5'.far (by show w.heap.size ≠ w.heap.size + 1 + 1 + 1 + 1 + 1 + 1; omega)
  have R5 : Blk (w1.setCell ⟨w.heap.size + 1 + 1 + 1 + 1 + 1 + 1, 3, none⟩ (.int .i64 (-(G * t)))) (w.heap.size + 1) 38 #[.int .i64 0, .int .i64 0, .int .i64 0, .int .i64 0, .int .i64 0, .int .i64 0, .int .i64 0, .int .i64 0, .int .i64 0] := R5'.far (by show w.heap.size + 1 ≠ w.heap.size + 1 + 1 + 1 + 1 + 1 + 1; omega)
  have F5 : Blk (w1.setCell ⟨w.heap.size + 1 + 1 + 1 + 1 + 1 + 1, 3, none⟩ (.int .i64 (-(G * t)))) (w.heap.size + 1 + 1) 3 #[.int .i64 1, .int .i64 (-1), .int .i64 0] := F5'.far (by show w.heap.size + 1 + 1 ≠ w.heap.size + 1 + 1 + 1 + 1 + 1 + 1; omega)
  have U5 : Blk (w1.setCell ⟨w.heap.size + 1 + 1 + 1 + 1 + 1 + 1, 3, none⟩ (.int .i64 (-(G * t)))) (w.heap.size + 1 + 1 + 1 + 1 + 1) 59 #[.slice (some ⟨w.heap.size + 1 + 1, 0, none⟩) 3 3, .slice (some ⟨w.heap.size + 1 + 1 + 1, 0, none⟩) 3 3, .slice (some ⟨w.heap.size + 1 + 1 + 1 + 1, 0, none⟩) 3 3] := U5'.far (by show w.heap.size + 1 + 1 + 1 + 1 + 1 ≠ w.heap.size + 1 + 1 + 1 + 1 + 1 + 1; omega)
  have B5 : Blk (w1.setCell ⟨w.heap.size + 1 + 1 + 1 + 1 + 1 + 1, 3, none⟩ (.int .i64 (-(G * t)))) (w.heap.size + 1 + 1 + 1 + 1 + 1 + 1) 38 #[.int .i64 0, .int .i64 (G * t), .int .i64 (-(G * t)), .int .i64 (-(G * t)), .int .i64 0, .int .i64 (G * t), .int .i64 0, .int .i64 0, .int .i64 0] := B5'.set_ 3 _
  have S5 : Below w.heap.size w (w1.setCell ⟨w.heap.size + 1 + 1 + 1 + 1 + 1 + 1, 3, none⟩ (.int .i64 (-(G * t)))) := ps S5' (by show w.heap.size ≤ w.heap.size + 1 + 1 + 1 + 1 + 1 + 1; omega)
  generalize w1.setCell ⟨w.heap.size + 1 + 1 + 1 + 1 + 1 + 1, 3, none⟩ (.int .i64 (-(G * t))) = W5 at *
  clear b0 b1 bl P5' R5' F5' U5' B5' S5'
  have p0 := P5.cellAt 0 rfl
  have p1 := P5.cellAt 1 rfl
  have p2 := P5.cellAt 2 rfl
  have p3 := P5.cellAt 3 rfl
  have pl := P5.lt
  have u0 := U5.cellAt 0 rfl
  have ul := U5.lt
  have f0 := F5.cellAt 2 rfl
  have fl := F5.lt
  rw [rounds_succ]
  go_wp2
  refine region_below 24 follows_mixed (by kernel_rfl) ?_
  intro C hC
  simp only [List.take_succ_cons, List.take_zero, List.drop_succ_cons, List.drop_zero]
  repeat (first
    | ((with_reducible refine quiet_plain rfl (fun K hK => ?_)); (focus (apply quiet_val; (focus (intro w' hw; obtain ⟨hcq, hfq⟩ := bcell ((hC.out _).1 hw); go_simp; (first | done | rfl | (with_reducible exact call_below hC hw (hS _))))); (simp only [Act.put, List.setIfInBounds_toArray, List.set_cons_succ, List.set_cons_zero]); (with_reducible refine hK _ ?_); clear hK K)))
    | ((with_reducible refine quiet_skip ?_ ?_); (focus (first | (simp [Region.wanted, yielded]; done) | (simp [Region.wanted, yielded, undef]; done))); simp only [Act.put, List.setIfInBounds_toArray, List.set_cons_succ, List.set_cons_zero])
    | ((with_reducible refine quiet_go ?_ (fun K hK => ?_)); (focus (first | (simp [Region.wanted, yielded]; done) | (simp [Region.wanted, yielded, undef]; done))); (focus (apply quiet_val; (focus (intro w' hw; obtain ⟨hcq, hfq⟩ := bcell ((hC.out _).1 hw); go_simp; (first | done | rfl | (with_reducible exact call_below hC hw (hS _))))); (simp only [Act.put, List.setIfInBounds_toArray, List.set_cons_succ, List.set_cons_zero]); (with_reducible refine hK _ ?_); clear hK K))))
  refine wpQuiet_nil ?_
  intro w1 hb1
  replace hb1 := (hC.out _).1 hb1
  clear hC C
  obtain ⟨hc1, hf1⟩ := bcell hb1
  have P6' : Blk w1 (w.heap.size) 23 #[.int .i64 0, .int .i64 t, .int .i64 1, .bool r] := (P5).past hb1
  have R6' : Blk w1 (w.heap.size + 1) 38 #[.int .i64 0, .int .i64 0, .int .i64 0, .int .i64 0, .int .i64 0, .int .i64 0, .int .i64 0, .int .i64 0, .int .i64 0] := (R5).past hb1
  have F6' : Blk w1 (w.heap.size + 1 + 1) 3 #[.int .i64 1, .int .i64 (-1), .int .i64 0] := (F5).past hb1
  have U6' : Blk w1 (w.heap.size + 1 + 1 + 1 + 1 + 1) 59 #[.slice (some ⟨w.heap.size + 1 + 1, 0, none⟩) 3 3, .slice (some ⟨w.heap.size + 1 + 1 + 1, 0, none⟩) 3 3, .slice (some ⟨w.heap.size + 1 + 1 + 1 + 1, 0, none⟩) 3 3] := (U5).past hb1
  have B6' : Blk w1 (w.heap.size + 1 + 1 + 1 + 1 + 1 + 1) 38 #[.int .i64 0, .int .i64 (G * t), .int .i64 (-(G * t)), .int .i64 (-(G * t)), .int .i64 0, .int .i64 (G * t), .int .i64 0, .int .i64 0, .int .i64 0] := (B5).past hb1
  have S6' := pt (S5) hb1
  clear hb1 hc1 hf1 P5 R5 F5 U5 B5 S5 p0 p1 p2 p3 pl u0 ul f0 fl
  have b0 := B6'.cellAt 4 rfl
  have b1 := B6'.frozen 4
  have bl := B6'.lt
  go_wp2
  have P6 : Blk (w1.setCell ⟨w.heap.size + 1 + 1 + 1 + 1 + 1 + 1, 4, none⟩ (.int .i64 0)) (w.heap.size) 23 #[.int .i64 0, .int .i64 t, .int .i64 1, .bool r] := P6'.far (by show w.heap.size ≠ w.heap.size + 1 + 1 + 1 + 1 + 1 + 1; omega)
  have R6 : Blk (w1.setCell ⟨w.heap.size + 1 + 1 + 1 + 1 + 1 + 1, 4, none⟩ (.int .i64 0)) (w.heap.size + 1) 38 #[.int .i64 0, .int .i64 0, .int .i64 0, .int .i64 0, .int .i64 0, .int .i64 0, .int .i64 0, .int .i64 0, .int .i64 0] := R6'.far (by show w.heap.size + 1 ≠ w.heap.size + 1 + 1 + 1 + 1 + 1 + 1; omega)
  have F6 : Blk (w1.setCell ⟨w.heap.size + 1 + 1 + 1 + 1 + 1 + 1, 4, none⟩ (.int .i64 0)) (w.heap.size + 1 + 1) 3 #[.int .i64 1, .int .i64 (-1), .int .i64 0] := F6'.far (by show w.heap.size + 1 + 1 ≠ w.heap.size + 1 + 1 + 1 + 1 + 1 + 1; omega)
  have U6 : Blk (w1.setCell ⟨w.heap.size + 1 + 1 + 1 + 1 + 1 + 1, 4, none⟩ (.int .i64 0)) (w.heap.size + 1 + 1 + 1 + 1 + 1) 59 #[.slice (some ⟨w.heap.size + 1 + 1, 0, none⟩) 3 3, .slice (some ⟨w.heap.size + 1 + 1 + 1, 0, none⟩) 3 3, .slice (some ⟨w.heap.size + 1 + 1 + 1 + 1, 0, none⟩) 3 3] := U6'.far (by show w.heap.size + 1 + 1 + 1 + 1 + 1 ≠ w.heap.size + 1 + 1 + 1 + 1 + 1 + 1; omega)
  have B6 : Blk (w1.setCell ⟨w.heap.size + 1 + 1 + 1 + 1 + 1 + 1, 4, none⟩ (.int .i64 0)) (w.heap.size + 1 + 1 + 1 + 1 + 1 + 1) 38 #[.int .i64 0, .int .i64 (G * t), .int .i64 (-(G * t)), .int .i64 (-(G * t)), .int .i64 0, .int .i64 (G * t), .int .i64 0, .int .i64 0, .int .i64 0] := B6'.set_ 4 _
  have S6 : Below w.heap.size w (w1.setCell ⟨w.heap.size + 1 + 1 + 1 + 1 + 1 + 1, 4, none⟩ (.int .i64 0)) := ps S6' (by show w.heap.size ≤ w.heap.size + 1 + 1 + 1 + 1 + 1 + 1; omega)
  generalize w1.setCell ⟨w.heap.size + 1 + 1 + 1 + 1 + 1 + 1, 4, none⟩ (.int .i64 0) = W6 at *
  clear b0 b1 bl P6' R6' F6' U6' B6' S6'
  have p0 := P6.cellAt 0 rfl
  have p1 := P6.cellAt 1 rfl
  have p2 := P6.cellAt 2 rfl
  have p3 := P6.cellAt 3 rfl
  have pl := P6.lt
  have u0 := U6.cellAt 0 rfl
  have ul := U6.lt
  have f0 := F6.cellAt 0 rfl
  have fl := F6.lt
  rw [rounds_succ]
  go_wp2
  rw [rounds_succ]
  go_wp2
  refine wp_loop_rounds 4 ?_
  rw [rounds_succ]
  go_wp2
  refine region_below 24 follows_mixed (by kernel_rfl) ?_
  intro C hC
  simp only [List.take_succ_cons, List.take_zero, List.drop_succ_cons, List.drop_zero]
  repeat (first
    | ((with_reducible refine quiet_plain rfl (fun K hK => ?_)); (focus (apply quiet_val; (focus (intro w' hw; obtain ⟨hcq, hfq⟩ := bcell ((hC.out _).1 hw); go_simp; (first | done | rfl | (with_reducible exact call_below hC hw (hS _))))); (simp only [Act.put, List.setIfInBounds_toArray, List.set_cons_succ, List.set_cons_zero]); (with_reducible refine hK _ ?_); clear hK K)))
    | ((with_reducible refine quiet_skip ?_ ?_); (focus (first | (simp [Region.wanted, yielded]; done) | (simp [Region.wanted, yielded, undef]; done))); simp only [Act.put, List.setIfInBounds_toArray, List.set_cons_succ, List.set_cons_zero])
    | ((with_reducible refine quiet_go ?_ (fun K hK => ?_)); (focus (first | (simp [Region.wanted, yielded]; done) | (simp [Region.wanted, yielded, undef]; done))); (focus (apply quiet_val; (focus (intro w' hw; obtain ⟨hcq, hfq⟩ := bcell ((hC.out _).1 hw); go_simp; (first | done | rfl | (with_reducible exact call_below hC hw (hS _))))); (simp only [Act.put, List.setIfInBounds_toArray, List.set_cons_succ, List.set_cons_zero]); (with_reducible refine hK _ ?_); clear hK K))))
  refine wpQuiet_nil ?_
  intro w1 hb1
  replace hb1 := (hC.out _).1 hb1
  clear hC C
  obtain ⟨hc1, hf1⟩ := bcell hb1
  have P7' : Blk w1 (w.heap.size) 23 #[.int .i64 0, .int .i64 t, .int .i64 1, .bool r] := (P6).past hb1
  have R7' : Blk w1 (w.heap.size + 1) 38 #[.int .i64 0, .int .i64 0, .int .i64 0, .int .i64 0, .int .i64 0, .int .i64 0, .int .i64 0, .int .i64 0, .int .i64 0] := (R6).past hb1
  have F7' : Blk w1 (w.heap.size + 1 + 1) 3 #[.int .i64 1, .int .i64 (-1), .int .i64 0] := (F6).past hb1
  have U7' : Blk w1 (w.heap.size + 1 + 1 + 1 + 1 + 1) 59 #[.slice (some ⟨w.heap.size + 1 + 1, 0, none⟩) 3 3, .slice (some ⟨w.heap.size + 1 + 1 + 1, 0, none⟩) 3 3, .slice (some ⟨w.heap.size + 1 + 1 + 1 + 1, 0, none⟩) 3 3] := (U6).past hb1
  have B7' : Blk w1 (w.heap.size + 1 + 1 + 1 + 1 + 1 + 1) 38 #[.int .i64 0, .int .i64 (G * t), .int .i64 (-(G * t)), .int .i64 (-(G * t)), .int .i64 0, .int .i64 (G * t), .int .i64 0, .int .i64 0, .int .i64 0] := (B6).past hb1
  have S7' := pt (S6) hb1
  clear hb1 hc1 hf1 P6 R6 F6 U6 B6 S6 p0 p1 p2 p3 pl u0 ul f0 fl
  have b0 := B7'.cellAt 6 rfl
  have b1 := B7'.frozen 6
  have bl := B7'.lt
  go_wp2
  have P7 : Blk (w1.setCell ⟨w.heap.size + 1 + 1 + 1 + 1 + 1 + 1, 6, none⟩ (.int .i64 (G * t))) (w.heap.size) 23 #[.int .i64 0, .int .i64 t, .int .i64 1, .bool r] := P7'.far (by show w.heap.size ≠ w.heap.size + 1 + 1 + 1 + 1 + 1 + 1; omega)
  have R7 : Blk (w1.setCell ⟨w.heap.size + 1 + 1 + 1 + 1 + 1 + 1, 6, none⟩ (.int .i64 (G * t))) (w.heap.size + 1) 38 #[.int .i64 0, .int .i64 0, .int .i64 0, .int .i64 0, .int .i64 0, .int .i64 0, .int .i64 0, .int .i64 0, .int .i64 0] := R7'.far (by show w.heap.size + 1 ≠ w.heap.size + 1 + 1 + 1 + 1 + 1 + 1; omega)
  have F7 : Blk (w1.setCell ⟨w.heap.size + 1 + 1 + 1 + 1 + 1 + 1, 6, none⟩ (.int .i64 (G * t))) (w.heap.size + 1 + 1) 3 #[.int .i64 1, .int .i64 (-1), .int .i64 0] := F7'.far (by show w.heap.size + 1 + 1 ≠ w.heap.size + 1 + 1 + 1 + 1 + 1 + 1; omega)
  have U7 : Blk (w1.setCell ⟨w.heap.size + 1 + 1 + 1 + 1 + 1 + 1, 6, none⟩ (.int .i64 (G * t))) (w.heap.size + 1 + 1 + 1 + 1 + 1) 59 #[.slice (some ⟨w.heap.size + 1 + 1, 0, none⟩) 3 3, .slice (some ⟨w.heap.size + 1 + 1 + 1, 0, none⟩) 3 3, .slice (some ⟨w.heap.size + 1 + 1 + 1 + 1, 0, none⟩) 3 3] := U7'.far (by show w.heap.size + 1 + 1 + 1 + 1 + 1 ≠ w.heap.size + 1 + 1 + 1 + 1 + 1 + 1; omega)
  have B7 : Blk (w1.setCell ⟨w.heap.size + 1 + 1 + 1 + 1 + 1 + 1, 6, none⟩ (.int .i64 (G * t))) (w.heap.size + 1 + 1 + 1 + 1 + 1 + 1) 38 #[.int .i64 0, .int .i64 (G * t), .int .i64 (-(G * t)), .int .i64 (-(G * t)), .int .i64 0, .int .i64 (G * t), .int .i64 (G * t), .int .i64 0, .int .i64 0] := B7'.set_ 6 _
  have S7 : Below w.heap.size w (w1.setCell ⟨w.heap.size + 1 + 1 + 1 + 1 + 1 + 1, 6, none⟩ (.int .i64 (G * t))) := ps S7' (by show w.heap.size ≤ w.heap.size + 1 + 1 + 1 + 1 + 1 + 1; omega)
  generalize w1.setCell ⟨w.heap.size + 1 + 1 + 1 + 1 + 1 + 1, 6, none⟩ (.int .i64 (G * t)) = W7 at *
  clear b0 b1 bl P7' R7' F7' U7' B7' S7'
  have p0 := P7.cellAt 0 rfl
  have p1 := P7.cellAt 1 rfl
  have p2 := P7.cellAt 2 rfl
  have p3 := P7.cellAt 3 rfl
  have pl := P7.lt
  have u0 := U7.cellAt 0 rfl
  have ul := U7.lt
  have f0 := F7.cellAt 1 rfl
  have fl := F7.lt
  rw [rounds_succ]
  go_wp2
  refine region_below 24 follows_mixed (by kernel_rfl) ?_
  intro C hC
  simp only [List.take_succ_cons, List.take_zero, List.drop_succ_cons, List.drop_zero]
  repeat (first
    | ((with_reducible refine quiet_plain rfl (fun K hK => ?_)); (focus (apply quiet_val; (focus (intro w' hw; obtain ⟨hcq, hfq⟩ := bcell ((hC.out _).1 hw); go_simp; (first | done | rfl | (with_reducible exact call_below hC hw (hS _))))); (simp only [Act.put, List.setIfInBounds_toArray, List.set_cons_succ, List.set_cons_zero]); (with_reducible refine hK _ ?_); clear hK K)))
    | ((with_reducible refine quiet_skip ?_ ?_); (focus (first | (simp [Region.wanted, yielded]; done) | (simp [Region.wanted, yielded, undef]; done))); simp only [Act.put, List.setIfInBounds_toArray, List.set_cons_succ, List.set_cons_zero])
    | ((with_reducible refine quiet_go ?_ (fun K hK => ?_)); (focus (first | (simp [Region.wanted, yielded]; done) | (simp [Region.wanted, yielded, undef]; done))); (focus (apply quiet_val; (focus (intro w' hw; obtain ⟨hcq, hfq⟩ := bcell ((hC.out _).1 hw); go_simp; (first | done | rfl | (with_reducible exact call_below hC hw (hS _))))); (simp only [Act.put, List.setIfInBounds_toArray, List.set_cons_succ, List.set_cons_zero]); (with_reducible refine hK _ ?_); clear hK K))))
  refine wpQuiet_nil ?_
  intro w1 hb1
  replace hb1 := (hC.out _).1 hb1
  clear hC C
  obtain ⟨hc1, hf1⟩ := bcell hb1
  have P8' : Blk w1 (w.heap.size) 23 #[.int .i64 0, .int .i64 t, .int .i64 1, .bool r] := (P7).past hb1
  have R8' : Blk w1 (w.heap.size + 1) 38 #[.int .i64 0, .int .i64 0, .int .i64 0, .int .i64 0, .int .i64 0, .int .i64 0, .int .i64 0, .int .i64 0, .int .i64 0] := (R7).past hb1
  have F8' : Blk w1 (w.heap.size + 1 + 1) 3 #[.int .i64 1, .int .i64 (-1), .int .i64 0] := (F7).past hb1
  have U8' : Blk w1 (w.heap.size + 1 + 1 + 1 + 1 + 1) 59 #[.slice (some ⟨w.heap.size + 1 + 1, 0, none⟩) 3 3, .slice (some ⟨w.heap.size + 1 + 1 + 1, 0, none⟩) 3 3, .slice (some ⟨w.heap.size + 1 + 1 + 1 + 1, 0, none⟩) 3 3] := (U7).past hb1
  have B8' : Blk w1 (w.heap.size + 1 + 1 + 1 + 1 + 1 + 1) 38 #[.int .i64 0, .int .i64 (G * t), .int .i64 (-(G * t)), .int .i64 (-(G * t)), .int .i64 0, .int .i64 (G * t), .int .i64 (G * t), .int .i64 0, .int .i64 0] := (B7).past hb1
  have S8' := pt (S7) hb1
  clear hb1 hc1 hf1 P7 R7 F7 U7 B7 S7 p0 p1 p2 p3 pl u0 ul f0 fl
  have b0 := B8'.cellAt 7 rfl
  have b1 := B8'.frozen 7
  have bl := B8'.lt
  go_wp2
  have P8 : Blk (w1.setCell ⟨w.heap.size + 1 + 1 + 1 + 1 + 1 + 1, 7, none⟩ (.int .i64 (-(G * t)))) (w.heap.size) 23 #[.int .i64 0, .int .i64 t, .int .i64 1, .bool r] := P8'.far (by show w.heap.size ≠ w.heap.size + 1 + 1 + 1 + 1 + 1 + 1; omega)
  have R8 : Blk (w1.setCell ⟨w.heap.size + 1 + 1 + 1 + 1 + 1 + 1, 7, none⟩ (.int .i64 (-(G * t)))) (w.heap.size + 1) 38 #[.int .i64 0, .int .i64 0, .int .i64 0, .int .i64 0, .int .i64 0, .int .i64 0, .int .i64 0, .int .i64 0, .int .i64 0] := R8'.far (by show w.heap.size + 1 ≠ w.heap.size + 1 + 1 + 1 + 1 + 1 + 1; omega)
  have F8 : Blk (w1.setCell ⟨w.heap.size + 1 + 1 + 1 + 1 + 1 + 1, 7, none⟩ (.int .i64 (-(G * t)))) (w.heap.size + 1 + 1) 3 #[.int .i64 1, .int .i64 (-1), .int .i64 0] := F8'.far (by show w.heap.size + 1 + 1 ≠ w.heap.size + 1 + 1 + 1 + 1 + 1 + 1; omega)
  have U8 : Blk (w1.setCell ⟨w.heap.size + 1 + 1 + 1 + 1 + 1 + 1, 7, none⟩ (.int .i64 (-(G * t)))) (w.heap.size + 1 + 1 + 1 + 1 + 1) 59 #[.slice (some ⟨w.heap.size + 1 + 1, 0, none⟩) 3 3, .slice (some ⟨w.heap.size + 1 + 1 + 1, 0, none⟩) 3 3, .slice (some ⟨w.heap.size + 1 + 1 + 1 + 1, 0, none⟩) 3 3] := U8'.far (by show w.heap.size + 1 + 1 + 1 + 1 + 1 ≠ w.heap.size + 1 + 1 + 1 + 1 + 1 + 1; omega)
  have B8 : Blk (w1.setCell ⟨w.heap.size + 1 + 1 + 1 + 1 + 1 + 1, 7, none⟩ (.int .i64 (-(G * t)))) (w.heap.size + 1 + 1 + 1 + 1 + 1 + 1) 38 #[.int .i64 0, .int .i64 (G * t), .int .i64 (-(G * t)), .int .i64 (-(G * t)), .int .i64 0, .int .i64 (G * t), .int .i64 (G * t), .int .i64 (-(G * t)), .int .i64 0] := B8'.set_ 7 _
  have S8 : Below w.heap.size w (w1.setCell ⟨w.heap.size + 1 + 1 + 1 + 1 + 1 + 1, 7, none⟩ (.int .i64 (-(G * t)))) := ps S8' (by show w.heap.size ≤ w.heap.size + 1 + 1 + 1 + 1 + 1 + 1; omega)
  generalize w1.setCell ⟨w.heap.size + 1 + 1 + 1 + 1 + 1 + 1, 7, none⟩ (.int .i64 (-(G * t))) = W8 at *
  clear b0 b1 bl P8' R8' F8' U8' B8' S8'
  have p0 := P8.cellAt 0 rfl
  have p1 := P8.cellAt 1 rfl
  have p2 := P8.cellAt 2 rfl
  have p3 := P8.cellAt 3 rfl
  have pl := P8.lt
  have u0 := U8.cellAt 0 rfl
  have ul := U8.lt
  have f0 := F8.cellAt 2 rfl
  have fl := F8.lt
  rw [rounds_succ]
  go_wp2
  refine region_below 24 follows_mixed (by kernel_rfl) ?_
  intro C hC
  simp only [List.take_succ_cons, List.take_zero, List.drop_succ_cons, List.drop_zero]
  repeat (first
    | ((with_reducible refine quiet_plain rfl (fun K hK => ?_)); (focus (apply quiet_val; (focus (intro w' hw; obtain ⟨hcq, hfq⟩ := bcell ((hC.out _).1 hw); go_simp; (first | done | rfl | (with_reducible exact call_below hC hw (hS _))))); (simp only [Act.put, List.setIfInBounds_toArray, List.set_cons_succ, List.set_cons_zero]); (with_reducible refine hK _ ?_); clear hK K)))
    | ((with_reducible refine quiet_skip ?_ ?_); (focus (first | (simp [Region.wanted, yielded]; done) | (simp [Region.wanted, yielded, undef]; done))); simp only [Act.put, List.setIfInBounds_toArray, List.set_cons_succ, List.set_cons_zero])
    | ((with_reducible refine quiet_go ?_ (fun K hK => ?_)); (focus (first | (simp [Region.wanted, yielded]; done) | (simp [Region.wanted, yielded, undef]; done))); (focus (apply quiet_val; (focus (intro w' hw; obtain ⟨hcq, hfq⟩ := bcell ((hC.out _).1 hw); go_simp; (first | done | rfl | (with_reducible exact call_below hC hw (hS _))))); (simp only [Act.put, List.setIfInBounds_toArray, List.set_cons_succ, List.set_cons_zero]); (with_reducible refine hK _ ?_); clear hK K))))
  refine wpQuiet_nil ?_
  intro w1 hb1
  replace hb1 := (hC.out _).1 hb1
  clear hC C
  obtain ⟨hc1, hf1⟩ := bcell hb1
  have P9' : Blk w1 (w.heap.size) 23 #[.int .i64 0, .int .i64 t, .int .i64 1, .bool r] := (P8).past hb1
  have R9' : Blk w1 (w.heap.size + 1) 38 #[.int .i64 0, .int .i64 0, .int .i64 0, .int .i64 0, .int .i64 0, .int .i64 0, .int .i64 0, .int .i64 0, .int .i64 0] := (R8).past hb1
  have F9' : Blk w1 (w.heap.size + 1 + 1) 3 #[.int .i64 1, .int .i64 (-1), .int .i64 0] := (F8).past hb1
  have U9' : Blk w1 (w.heap.size + 1 + 1 + 1 + 1 + 1) 59 #[.slice (some ⟨w.heap.size + 1 + 1, 0, none⟩) 3 3, .slice (some ⟨w.heap.size + 1 + 1 + 1, 0, none⟩) 3 3, .slice (some ⟨w.heap.size + 1 + 1 + 1 + 1, 0, none⟩) 3 3] := (U8).past hb1
  have B9' : Blk w1 (w.heap.size + 1 + 1 + 1 + 1 + 1 + 1) 38 #[.int .i64 0, .int .i64 (G * t), .int .i64 (-(G * t)), .int .i64 (-(G * t)), .int .i64 0, .int .i64 (G * t), .int .i64 (G * t), .int .i64 (-(G * t)), .int .i64 0] := (B8).past hb1
  have S9' := pt (S8) hb1
  clear hb1 hc1 hf1 P8 R8 F8 U8 B8 S8 p0 p1 p2 p3 pl u0 ul f0 fl
  have b0 := B9'.cellAt 8 rfl
  have b1 := B9'.frozen 8
  have bl := B9'.lt
  go_wp2
  have P9 : Blk (w1.setCell ⟨w.heap.size + 1 + 1 + 1 + 1 + 1 + 1, 8, none⟩ (.int .i64 0)) (w.heap.size) 23 #[.int .i64 0, .int .i64 t, .int .i64 1, .bool r] := P9'.far (by show w.heap.size ≠ w.heap.size + 1 + 1 + 1 + 1 + 1 + 1; omega)
  have R9 : Blk (w1.setCell ⟨w.heap.size + 1 + 1 + 1 + 1 + 1 + 1, 8, none⟩ (.int .i64 0)) (w.heap.size + 1) 38 #[.int .i64 0, .int .i64 0, .int .i64 0, .int .i64 0, .int .i64 0, .int .i64 0, .int .i64 0, .int .i64 0, .int .i64 0] := R9'.far (by show w.heap.size + 1 ≠ w.heap.size + 1 + 1 + 1 + 1 + 1 + 1; omega)
  have F9 : Blk (w1.setCell ⟨w.heap.size + 1 + 1 + 1 + 1 + 1 + 1, 8, none⟩ (.int .i64 0)) (w.heap.size + 1 + 1) 3 #[.int .i64 1, .int .i64 (-1), .int .i64 0] := F9'.far (by show w.heap.size + 1 + 1 ≠ w.heap.size + 1 + 1 + 1 + 1 + 1 + 1; omega)
  have U9 : Blk (w1.setCell ⟨w.heap.size + 1 + 1 + 1 + 1 + 1 + 1, 8, none⟩ (.int .i64 0)) (w.heap.size + 1 + 1 + 1 + 1 + 1) 59 #[.slice (some ⟨w.heap.size + 1 + 1, 0, none⟩) 3 3, .slice (some ⟨w.heap.size + 1 + 1 + 1, 0, none⟩) 3 3, .slice (some ⟨w.heap.size + 1 + 1 + 1 + 1, 0, none⟩) 3 3] := U9'.far (by show w.heap.size + 1 + 1 + 1 + 1 + 1 ≠ w.heap.size + 1 + 1 + 1 + 1 + 1 + 1; omega)
  have B9 : Blk (w1.setCell ⟨w.heap.size + 1 + 1 + 1 + 1 + 1 + 1, 8, none⟩ (.int .i64 0)) (w.heap.size + 1 + 1 + 1 + 1 + 1 + 1) 38 #[.int .i64 0, .int .i64 (G * t), .int .i64 (-(G * t)), .int .i64 (-(G * t)), .int .i64 0, .int .i64 (G * t), .int .i64 (G * t), .int .i64 (-(G * t)), .int .i64 0] := B9'.set_ 8 _
  have S9 : Below w.heap.size w (w1.setCell ⟨w.heap.size + 1 + 1 + 1 + 1 + 1 + 1, 8, none⟩ (.int .i64 0)) := ps S9' (by show w.heap.size ≤ w.heap.size + 1 + 1 + 1 + 1 + 1 + 1; omega)
  generalize w1.setCell ⟨w.heap.size + 1 + 1 + 1 + 1 + 1 + 1, 8, none⟩ (.int .i64 0) = W9 at *
  clear b0 b1 bl P9' R9' F9' U9' B9' S9'
  rw [rounds_succ]
  go_wp2
  clear P9 U9 F9 hS hg za zb zc z0 z1 z2 z3 z4 z5 z6
  rw [rounds_succ]
  go_wp2_with (first
    | ((with_reducible refine load_blk (T := 38) (x := .tmp 4) B9 Tryd.underlying38 ?_ ?_ ?_ ?_); (focus rfl); (focus exact apiLines_size); (focus rfl))
    | ((with_reducible refine store_blk (T := 38) (x := .tmp 2) (y := .tmp 43) (vs := #[.int .i64 0, .int .i64 (G * t), .int .i64 (-(G * t)), .int .i64 (-(G * t)), .int .i64 0, .int .i64 (G * t), .int .i64 (G * t), .int .i64 (-(G * t)), .int .i64 0]) R9 ?_ ?_ ?_ ?_ ?_ ?_); (focus rfl); (focus exact apiLines_size); (focus (simp [Value.oneCell']; done)); (focus rfl); (focus rfl); intro WF RF PF))
  have g0 := RF.cellAt 0 rfl
  have g1 := RF.cellAt 1 rfl
  have g2 := RF.cellAt 2 rfl
  have g3 := RF.cellAt 3 rfl
  have g4 := RF.cellAt 4 rfl
  have g5 := RF.cellAt 5 rfl
  have g6 := RF.cellAt 6 rfl
  have g7 := RF.cellAt 7 rfl
  have g8 := RF.cellAt 8 rfl
  exact bodyPost_ret (v := .agg #[.int .i64 0, .int .i64 (G * t), .int .i64 (-(G * t)), .int .i64 (-(G * t)), .int .i64 0, .int .i64 (G * t), .int .i64 (G * t), .int .i64 (-(G * t)), .int .i64 0]) (by simp [results, Tryd.results20, go_sem, g0, g1, g2, g3, g4, g5, g6, g7, g8]) rfl ⟨rfl, pp S9 PF (by omega)⟩

set_option maxHeartbeats 8000000 in
set_option maxRecDepth 100000 in
theorem refLines_02 (t G : Int) (r : Bool) (w : World) (hg : Sm 2000 (G * t))
    (hS : ∀ w, Calls Tryd.prog 65 #[.agg #[.int .i64 0, .int .i64 t, .int .i64 2, .bool r]] w fun e w' => e = .returned (.int .i64 G) ∧ Below w.heap.size w w') :
    Calls Tryd.prog 20 #[.agg #[.int .i64 0, .int .i64 t, .int .i64 2, .bool r]] w fun e w' => e = .returned (.agg #[.int .i64 (-(G * t)), .int .i64 0, .int .i64 (G * t), .int .i64 (G * t), .int .i64 (-(G * t)), .int .i64 0, .int .i64 0, .int .i64 (G * t), .int .i64 (-(G * t))]) ∧ Below w.heap.size w w' := by
  unfold Sm at hg
  have z0 : IntKind.i64.wrap 0 = 0 := by decide
  have z1 : IntKind.i64.wrap 1 = 1 := by decide
  have z2 : IntKind.i64.wrap 2 = 2 := by decide
  have z3 : IntKind.i64.wrap 3 = 3 := by decide
  have z4 : IntKind.i64.wrap 4 = 4 := by decide
  have z5 : IntKind.i64.wrap 5 = 5 := by decide
  have z6 : IntKind.i64.wrap 6 = 6 := by decide
  have za : IntKind.i64.wrap (G * t) = G * t := IntWalk.i64_in _ (by omega)
  have zb : IntKind.i64.wrap (-(G * t)) = -(G * t) := IntWalk.i64_in _ (by omega)
  have zc : IntKind.i64.wrap (-(G * t * 2)) = -(G * t * 2) := IntWalk.i64_in _ (by omega)
  go_enter Tryd.func20, Tryd.ntmps20
  go_wp2
  refine wp_loop_rounds 4 ?_
  rw [rounds_succ]
  go_wp2
  refine wp_loop_rounds 4 ?_
  rw [rounds_succ]
  go_wp2
  refine region_below 24 follows_mixed (by kernel_rfl) ?_
  intro C hC
  simp only [List.take_succ_cons, List.take_zero, List.drop_succ_cons, List.drop_zero]
  repeat (first
    | ((with_reducible refine quiet_plain rfl (fun K hK => ?_)); (focus (apply quiet_val; (focus (intro w' hw; obtain ⟨hcq, hfq⟩ := bcell ((hC.out _).1 hw); go_simp; (first | done | rfl | (with_reducible exact call_below hC hw (hS _))))); (simp only [Act.put, List.setIfInBounds_toArray, List.set_cons_succ, List.set_cons_zero]); (with_reducible refine hK _ ?_); clear hK K)))
    | ((with_reducible refine quiet_skip ?_ ?_); (focus (first | (simp [Region.wanted, yielded]; done) | (simp [Region.wanted, yielded, undef]; done))); simp only [Act.put, List.setIfInBounds_toArray, List.set_cons_succ, List.set_cons_zero])
    | ((with_reducible refine quiet_go ?_ (fun K hK => ?_)); (focus (first | (simp [Region.wanted, yielded]; done) | (simp [Region.wanted, yielded, undef]; done))); (focus (apply quiet_val; (focus (intro w' hw; obtain ⟨hcq, hfq⟩ := bcell ((hC.out _).1 hw); go_simp; (first | done | rfl | (with_reducible exact call_below hC hw (hS _))))); (simp only [Act.put, List.setIfInBounds_toArray, List.set_cons_succ, List.set_cons_zero]); (with_reducible refine hK _ ?_); clear hK K))))
  refine wpQuiet_nil ?_
  intro w1 hb1
  replace hb1 := (hC.out _).1 hb1
  clear hC C
  obtain ⟨hc1, hf1⟩ := bcell hb1
  have P1' : Blk w1 (w.heap.size) 23 #[.int .i64 0, .int .i64 t, .int .i64 2, .bool r] := ((Blk.newAt rfl).alloc.alloc.alloc.alloc.alloc.alloc).past hb1
  have R1' : Blk w1 (w.heap.size + 1) 38 #[.int .i64 0, .int .i64 0, .int .i64 0, .int .i64 0, .int .i64 0, .int .i64 0, .int .i64 0, .int .i64 0, .int .i64 0] := ((Blk.newAt (by simp)).alloc.alloc.alloc.alloc.alloc).past hb1
  have F1' : Blk w1 (w.heap.size + 1 + 1) 3 #[.int .i64 1, .int .i64 (-1), .int .i64 0] := ((Blk.newAt (by simp)).alloc.alloc.alloc.alloc).past hb1
  have U1' : Blk w1 (w.heap.size + 1 + 1 + 1 + 1 + 1) 59 #[.slice (some ⟨w.heap.size + 1 + 1, 0, none⟩) 3 3, .slice (some ⟨w.heap.size + 1 + 1 + 1, 0, none⟩) 3 3, .slice (some ⟨w.heap.size + 1 + 1 + 1 + 1, 0, none⟩) 3 3] := ((Blk.newAt (by simp)).alloc).past hb1
  have B1' : Blk w1 (w.heap.size + 1 + 1 + 1 + 1 + 1 + 1) 38 #[.int .i64 0, .int .i64 0, .int .i64 0, .int .i64 0, .int .i64 0, .int .i64 0, .int .i64 0, .int .i64 0, .int .i64 0] := ((Blk.newAt (by simp))).past hb1
  have S1' := pt (pa (pa (pa (pa (pa (pa (pa (pr)))))))) hb1
  clear hb1 hc1 hf1 
  have b0 := B1'.cellAt 2 rfl
  have b1 := B1'.frozen 2
  have bl := B1'.lt
  go_wp2
  have P1 : Blk (w1.setCell ⟨w.heap.size + 1 + 1 + 1 + 1 + 1 + 1, 2, none⟩ (.int .i64 (G * t))) (w.heap.size) 23 #[.int .i64 0, .int .i64 t, .int .i64 2, .bool r] := P1'.far (by show w.heap.size ≠ w.heap.size + 1 + 1 + 1 + 1 + 1 + 1; omega)
  have R1 : Blk (w1.setCell ⟨w.heap.size + 1 + 1 + 1 + 1 + 1 + 1, 2, none⟩ (.int .i64 (G * t))) (w.heap.size + 1) 38 #[.int .i64 0, .int .i64 0, .int .i64 0, .int .i64 0, .int .i64 0, .int .i64 0, .int .i64 0, .int .i64 0, .int .i64 0] := R1'.far (by show w.heap.size + 1 ≠ w.heap.size + 1 + 1 + 1 + 1 + 1 + 1; omega)
  have F1 : Blk (w1.setCell ⟨w.heap.size + 1 + 1 + 1 + 1 + 1 + 1, 2, none⟩ (.int .i64 (G * t))) (w.heap.size + 1 + 1) 3 #[.int .i64 1, .int .i64 (-1), .int .i64 0] := F1'.far (by show w.heap.size + 1 + 1 ≠ w.heap.size + 1 + 1 + 1 + 1 + 1 + 1; omega)
  have U1 : Blk (w1.setCell ⟨w.heap.size + 1 + 1 + 1 + 1 + 1 + 1, 2, none⟩ (.int .i64 (G * t))) (w.heap.size + 1 + 1 + 1 + 1 + 1) 59 #[.slice (some ⟨w.heap.size + 1 + 1, 0, none⟩) 3 3, .slice (some ⟨w.heap.size + 1 + 1 + 1, 0, none⟩) 3 3, .slice (some ⟨w.heap.size + 1 + 1 + 1 + 1, 0, none⟩) 3 3] := U1'.far (by show w.heap.size + 1 + 1 + 1 + 1 + 1 ≠ w.heap.size + 1 + 1 + 1 + 1 + 1 + 1; omega)
  have B1 : Blk (w1.setCell ⟨w.heap.size + 1 + 1 + 1 + 1 + 1 + 1, 2, none⟩ (.int .i64 (G * t))) (w.heap.size + 1 + 1 + 1 + 1 + 1 + 1) 38 #[.int .i64 0, .int .i64 0, .int .i64 (G * t), .int .i64 0, .int .i64 0, .int .i64 0, .int .i64 0, .int .i64 0, .int .i64 0] := B1'.set_ 2 _
  have S1 : Below w.heap.size w (w1.setCell ⟨w.heap.size + 1 + 1 + 1 + 1 + 1 + 1, 2, none⟩ (.int .i64 (G * t))) := ps S1' (by show w.heap.size ≤ w.heap.size + 1 + 1 + 1 + 1 + 1 + 1; omega)
  generalize w1.setCell ⟨w.heap.size + 1 + 1 + 1 + 1 + 1 + 1, 2, none⟩ (.int .i64 (G * t)) = W1 at *
  clear b0 b1 bl P1' R1' F1' U1' B1' S1'
  have p0 := P1.cellAt 0 rfl
  have p1 := P1.cellAt 1 rfl
  have p2 := P1.cellAt 2 rfl
  have p3 := P1.cellAt 3 rfl
  have pl := P1.lt
  have u0 := U1.cellAt 0 rfl
  have ul := U1.lt
  have f0 := F1.cellAt 1 rfl
  have fl := F1.lt
  rw [rounds_succ]
  go_wp2
  refine region_below 24 follows_mixed (by kernel_rfl) ?_
  intro C hC
  simp only [List.take_succ_cons, List.take_zero, List.drop_succ_cons, List.drop_zero]
  repeat (first
    | ((with_reducible refine quiet_plain rfl (fun K hK => ?_)); (focus (apply quiet_val; (focus (intro w' hw; obtain ⟨hcq, hfq⟩ := bcell ((hC.out _).1 hw); go_simp; (first | done | rfl | (with_reducible exact call_below hC hw (hS _))))); (simp only [Act.put, List.setIfInBounds_toArray, List.set_cons_succ, List.set_cons_zero]); (with_reducible refine hK _ ?_); clear hK K)))
    | ((with_reducible refine quiet_skip ?_ ?_); (focus (first | (simp [Region.wanted, yielded]; done) | (simp [Region.wanted, yielded, undef]; done))); simp only [Act.put, List.setIfInBounds_toArray, List.set_cons_succ, List.set_cons_zero])
    | ((with_reducible refine quiet_go ?_ (fun K hK => ?_)); (focus (first | (simp [Region.wanted, yielded]; done) | (simp [Region.wanted, yielded, undef]; done))); (focus (apply quiet_val; (focus (intro w' hw; obtain ⟨hcq, hfq⟩ := bcell ((hC.out _).1 hw); go_simp; (first | done | rfl | (with_reducible exact call_below hC hw (hS _))))); (simp only [Act.put, List.setIfInBounds_toArray, List.set_cons_succ, List.set_cons_zero]); (with_reducible refine hK _ ?_); clear hK K))))
  refine wpQuiet_nil ?_
  intro w1 hb1
  replace hb1 := (hC.out _).1 hb1
  clear hC C
  obtain ⟨hc1, hf1⟩ := bcell hb1
  have P2' : Blk w1 (w.heap.size) 23 #[.int .i64 0, .int .i64 t, .int .i64 2, .bool r] := (P1).past hb1
  have R2' : Blk w1 (w.heap.size + 1) 38 #[.int .i64 0, .int .i64 0, .int .i64 0, .int .i64 0, .int .i64 0, .int .i64 0, .int .i64 0, .int .i64 0, .int .i64 0] := (R1).past hb1
  have F2' : Blk w1 (w.heap.size + 1 + 1) 3 #[.int .i64 1, .int .i64 (-1), .int .i64 0] := (F1).past hb1
  have U2' : Blk w1 (w.heap.size + 1 + 1 + 1 + 1 + 1) 59 #[.slice (some ⟨w.heap.size + 1 + 1, 0, none⟩) 3 3, .slice (some ⟨w.heap.size + 1 + 1 + 1, 0, none⟩) 3 3, .slice (some ⟨w.heap.size + 1 + 1 + 1 + 1, 0, none⟩) 3 3] := (U1).past hb1
  have B2' : Blk w1 (w.heap.size + 1 + 1 + 1 + 1 + 1 + 1) 38 #[.int .i64 0, .int .i64 0, .int .i64 (G * t), .int .i64 0, .int .i64 0, .int .i64 0, .int .i64 0, .int .i64 0, .int .i64 0] := (B1).past hb1
  have S2' := pt (S1) hb1
  clear hb1 hc1 hf1 P1 R1 F1 U1 B1 S1 p0 p1 p2 p3 pl u0 ul f0 fl
  have b0 := B2'.cellAt 0 rfl
  have b1 := B2'.frozen 0
  have bl := B2'.lt
  go_wp2
  have P2 : Blk (w1.setCell ⟨w.heap.size + 1 + 1 + 1 + 1 + 1 + 1, 0, none⟩ (.int .i64 (-(G * t)))) (w.heap.size) 23 #[.int .i64 0, .int .i64 t, .int .i64 2, .bool r] := P2'.far (by show w.heap.size ≠ w.heap.size + 1 + 1 + 1 + 1 + 1 + 1; omega)
  have R2 : Blk (w1.setCell ⟨w.heap.size + 1 + 1 + 1 + 1 + 1 + 1, 0, none⟩ (.int .i64 (-(G * t)))) (w.heap.size + 1) 38 #[.int .i64 0, .int .i64 0, .int .i64 0, .int .i64 0, .int .i64 0, .int .i64 0, .int .i64 0, .int .i64 0, .int .i64 0] := R2'.far (by show w.heap.size + 1 ≠ w.heap.size + 1 + 1 + 1 + 1 + 1 + 1; omega)
  have F2 : Blk (w1.setCell ⟨w.heap.size + 1 + 1 + 1 + 1 + 1 + 1, 0, none⟩ (.int .i64 (-(G * t)))) (w.heap.size + 1 + 1) 3 #[.int .i64 1, .int .i64 (-1), .int .i64 0] := F2'.far (by show w.heap.size + 1 + 1 ≠ w.heap.size + 1 + 1 + 1 + 1 + 1 + 1; omega)
  have U2 : Blk (w1.setCell ⟨w.heap.size + 1 + 1 + 1 + 1 + 1 + 1, 0, none⟩ (.int .i64 (-(G * t)))) (w.heap.size + 1 + 1 + 1 + 1 + 1) 59 #[.slice (some ⟨w.heap.size + 1 + 1, 0, none⟩) 3 3, .slice (some ⟨w.heap.size + 1 + 1 + 1, 0, none⟩) 3 3, .slice (some ⟨w.heap.size + 1 + 1 + 1 + 1, 0, none⟩) 3 3] := U2'.far (by show w.heap.size + 1 + 1 + 1 + 1 + 1 ≠ w.heap.size + 1 + 1 + 1 + 1 + 1 + 1; omega)
  have B2 : Blk (w1.setCell ⟨w.heap.size + 1 + 1 + 1 + 1 + 1 + 1, 0, none⟩ (.int .i64 (-(G * t)))) (w.heap.size + 1 + 1 + 1 + 1 + 1 + 1) 38 #[.int .i64 (-(G * t)), .int .i64 0, .int .i64 (G * t), .int .i64 0, .int .i64 0, .int .i64 0, .int .i64 0, .int .i64 0, .int .i64 0] := B2'.set_ 0 _
  have S2 : Below w.heap.size w (w1.setCell ⟨w.heap.size + 1 + 1 + 1 + 1 + 1 + 1, 0, none⟩ (.int .i64 (-(G * t)))) := ps S2' (by show w.heap.size ≤ w.heap.size + 1 + 1 + 1 + 1 + 1 + 1; omega)
  generalize w1.setCell ⟨w.heap.size + 1 + 1 + 1 + 1 + 1 + 1, 0, none⟩ (.int .i64 (-(G * t))) = W2 at *
  clear b0 b1 bl P2' R2' F2' U2' B2' S2'
  have p0 := P2.cellAt 0 rfl
  have p1 := P2.cellAt 1 rfl
  have p2 := P2.cellAt 2 rfl
  have p3 := P2.cellAt 3 rfl
  have pl := P2.lt
  have u0 := U2.cellAt 0 rfl
  have ul := U2.lt
  have f0 := F2.cellAt 2 rfl
  have fl := F2.lt
  rw [rounds_succ]
  go_wp2
  refine region_below 24 follows_mixed (by kernel_rfl) ?_
  intro C hC
  simp only [List.take_succ_cons, List.take_zero, List.drop_succ_cons, List.drop_zero]
  repeat (first
    | ((with_reducible refine quiet_plain rfl (fun K hK => ?_)); (focus (apply quiet_val; (focus (intro w' hw; obtain ⟨hcq, hfq⟩ := bcell ((hC.out _).1 hw); go_simp; (first | done | rfl | (with_reducible exact call_below hC hw (hS _))))); (simp only [Act.put, List.setIfInBounds_toArray, List.set_cons_succ, List.set_cons_zero]); (with_reducible refine hK _ ?_); clear hK K)))
    | ((with_reducible refine quiet_skip ?_ ?_); (focus (first | (simp [Region.wanted, yielded]; done) | (simp [Region.wanted, yielded, undef]; done))); simp only [Act.put, List.setIfInBounds_toArray, List.set_cons_succ, List.set_cons_zero])
    | ((with_reducible refine quiet_go ?_ (fun K hK => ?_)); (focus (first | (simp [Region.wanted, yielded]; done) | (simp [Region.wanted, yielded, undef]; done))); (focus (apply quiet_val; (focus (intro w' hw; obtain ⟨hcq, hfq⟩ := bcell ((hC.out _).1 hw); go_simp; (first | done | rfl | (with_reducible exact call_below hC hw (hS _))))); (simp only [Act.put, List.setIfInBounds_toArray, List.set_cons_succ, List.set_cons_zero]); (with_reducible refine hK _ ?_); clear hK K))))
  refine wpQuiet_nil ?_
  intro w1 hb1
  replace hb1 := (hC.out _).1 hb1
  clear hC C
  obtain ⟨hc1, hf1⟩ := bcell hb1
  have P3' : Blk w1 (w.heap.size) 23 #[.int .i64 0, .int .i64 t, .int .i64 2, .bool r] := (P2).past hb1
  have R3' : Blk w1 (w.heap.size + 1) 38 #[.int .i64 0, .int .i64 0, .int .i64 0, .int .i64 0, .int .i64 0, .int .i64 0, .int .i64 0, .int .i64 0, .int .i64 0] := (R2).past hb1
  have F3' : Blk w1 (w.heap.size + 1 + 1) 3 #[.int .i64 1, .int .i64 (-1), .int .i64 0] := (F2).past hb1
  have U3' : Blk w1 (w.heap.size + 1 + 1 + 1 + 1 + 1) 59 #[.slice (some ⟨w.heap.size + 1 + 1, 0, none⟩) 3 3, .slice (some ⟨w.heap.size + 1 + 1 + 1, 0, none⟩) 3 3, .slice (some ⟨w.heap.size + 1 + 1 + 1 + 1, 0, none⟩) 3 3] := (U2).past hb1
  have B3' : Blk w1 (w.heap.size + 1 + 1 + 1 + 1 + 1 + 1) 38 #[.int .i64 (-(G * t)), .int .i64 0, .int .i64 (G * t), .int .i64 0, .int .i64 0, .int .i64 0, .int .i64 0, .int .i64 0, .int .i64 0] := (B2).past hb1
  have S3' := pt (S2) hb1
  clear hb1 hc1 hf1 P2 R2 F2 U2 B2 S2 p0 p1 p2 p3 pl u0 ul f0 fl
  have b0 := B3'.cellAt 1 rfl
  have b1 := B3'.frozen 1
  have bl := B3'.lt
  go_wp2
  have P3 : Blk (w1.setCell ⟨w.heap.size + 1 + 1 + 1 + 1 + 1 + 1, 1, none⟩ (.int .i64 0)) (w.heap.size) 23 #[.int .i64 0, .int .i64 t, .int .i64 2, .bool r] := P3'.far (by show w.heap.size ≠ w.heap.size + 1 + 1 + 1 + 1 + 1 + 1; omega)
  have R3 : Blk (w1.setCell ⟨w.heap.size + 1 + 1 + 1 + 1 + 1 + 1, 1, none⟩ (.int .i64 0)) (w.heap.size + 1) 38 #[.int .i64 0, .int .i64 0, .int .i64 0, .int .i64 0, .int .i64 0, .int .i64 0, .int .i64 0, .int .i64 0, .int .i64 0] := R3'.far (by show w.heap.size + 1 ≠ w.heap.size + 1 + 1 + 1 + 1 + 1 + 1; omega)
  have F3 : Blk (w1.setCell ⟨w.heap.size + 1 + 1 + 1 + 1 + 1 + 1, 1, none⟩ (.int .i64 0)) (w.heap.size + 1 + 1) 3 #[.int .i64 1, .int .i64 (-1), .int .i64 0] := F3'.far (by show w.heap.size + 1 + 1 ≠ w.heap.size + 1 + 1 + 1 + 1 + 1 + 1; omega)
  have U3 : Blk (w1.setCell ⟨w.heap.size + 1 + 1 + 1 + 1 + 1 + 1, 1, none⟩ (.int .i64 0)) (w.heap.size + 1 + 1 + 1 + 1 + 1) 59 #[.slice (some ⟨w.heap.size + 1 + 1, 0, none⟩) 3 3, .slice (some ⟨w.heap.size + 1 + 1 + 1, 0, none⟩) 3 3, .slice (some ⟨w.heap.size + 1 + 1 + 1 + 1, 0, none⟩) 3 3] := U3'.far (by show w.heap.size + 1 + 1 + 1 + 1 + 1 ≠ w.heap.size + 1 + 1 + 1 + 1 + 1 + 1; omega)
  have B3 : Blk (w1.setCell ⟨w.heap.size + 1 + 1 + 1 + 1 + 1 + 1, 1, none⟩ (.int .i64 0)) (w.heap.size + 1 + 1 + 1 + 1 + 1 + 1) 38 #[.int .i64 (-(G * t)), .int .i64 0, .int .i64 (G * t), .int .i64 0, .int .i64 0, .int .i64 0, .int .i64 0, .int .i64 0, .int .i64 0] := B3'.set_ 1 _
  have S3 : Below w.heap.size w (w1.setCell ⟨w.heap.size + 1 + 1 + 1 + 1 + 1 + 1, 1, none⟩ (.int .i64 0)) := ps S3' (by show w.heap.size ≤ w.heap.size + 1 + 1 + 1 + 1 + 1 + 1; omega)
  generalize w1.setCell ⟨w.heap.size + 1 + 1 + 1 + 1 + 1 + 1, 1, none⟩ (.int .i64 0) = W3 at *
  clear b0 b1 bl P3' R3' F3' U3' B3' S3'
  have p0 := P3.cellAt 0 rfl
  have p1 := P3.cellAt 1 rfl
  have p2 := P3.cellAt 2 rfl
  have p3 := P3.cellAt 3 rfl
  have pl := P3.lt
  have u0 := U3.cellAt 0 rfl
  have ul := U3.lt
  have f0 := F3.cellAt 0 rfl
  have fl := F3.lt
  rw [rounds_succ]
  go_wp2
  rw [rounds_succ]
  go_wp2
  refine wp_loop_rounds 4 ?_
  rw [rounds_succ]
  go_wp2
  refine region_below 24 follows_mixed (by kernel_rfl) ?_
  intro C hC
  simp only [List.take_succ_cons, List.take_zero, List.drop_succ_cons, List.drop_zero]
  repeat (first
    | ((with_reducible refine quiet_plain rfl (fun K hK => ?_)); (focus (apply quiet_val; (focus (intro w' hw; obtain ⟨hcq, hfq⟩ := bcell ((hC.out _).1 hw); go_simp; (first | done | rfl | (with_reducible exact call_below hC hw (hS _))))); (simp only [Act.put, List.setIfInBounds_toArray, List.set_cons_succ, List.set_cons_zero]); (with_reducible refine hK _ ?_); clear hK K)))
    | ((with_reducible refine quiet_skip ?_ ?_); (focus (first | (simp [Region.wanted, yielded]; done) | (simp [Region.wanted, yielded, undef]; done))); simp only [Act.put, List.setIfInBounds_toArray, List.set_cons_succ, List.set_cons_zero])
    | ((with_reducible refine quiet_go ?_ (fun K hK => ?_)); (focus (first | (simp [Region.wanted, yielded]; done) | (simp [Region.wanted, yielded, undef]; done))); (focus (apply quiet_val; (focus (intro w' hw; obtain ⟨hcq, hfq⟩ := bcell ((hC.out _).1 hw); go_simp; (first | done | rfl | (with_reducible exact call_below hC hw (hS _))))); (simp only [Act.put, List.setIfInBounds_toArray, List.set_cons_succ, List.set_cons_zero]); (with_reducible refine hK _ ?_); clear hK K))))
  refine wpQuiet_nil ?_
  intro w1 hb1
  replace hb1 := (hC.out _).1 hb1
  clear hC C
  obtain ⟨hc1, hf1⟩ := bcell hb1
  have P4' : Blk w1 (w.heap.size) 23 #[.int .i64 0, .int .i64 t, .int .i64 2, .bool r] := (P3).past hb1
  have R4' : Blk w1 (w.heap.size + 1) 38 #[.int .i64 0, .int .i64 0, .int .i64 0, .int .i64 0, .int .i64 0, .int .i64 0, .int .i64 0, .int .i64 0, .int .i64 0] := (R3).past hb1
  have F4' : Blk w1 (w.heap.size + 1 + 1) 3 #[.int .i64 1, .int .i64 (-1), .int .i64 0] := (F3).past hb1
  have U4' : Blk w1 (w.heap.size + 1 + 1 + 1 + 1 + 1) 59 #[.slice (some ⟨w.heap.size + 1 + 1, 0, none⟩) 3 3, .slice (some ⟨w.heap.size + 1 + 1 + 1, 0, none⟩) 3 3, .slice (some ⟨w.heap.size + 1 + 1 + 1 + 1, 0, none⟩) 3 3] := (U3).past hb1
  have B4' : Blk w1 (w.heap.size + 1 + 1 + 1 + 1 + 1 + 1) 38 #[.int .i64 (-(G * t)), .int .i64 0, .int .i64 (G * t), .int .i64 0, .int .i64 0, .int .i64 0, .int .i64 0, .int .i64 0, .int .i64 0] := (B3).past hb1
  have S4' := pt (S3) hb1
  clear hb1 hc1 hf1 P3 R3 F3 U3 B3 S3 p0 p1 p2 p3 pl u0 ul f0 fl
  have b0 := B4'.cellAt 3 rfl
  have b1 := B4'.frozen 3
  have bl := B4'.lt
  go_wp2
  have P4 : Blk (w1.setCell ⟨w.heap.size + 1 + 1 + 1 + 1 + 1 + 1, 3, none⟩ (.int .i64 (G * t))) (w.heap.size) 23 #[.int .i64 0, .int .i64 t, .int .i64 2, .bool r] := P4'.far (by show w.heap.size ≠ w.heap.size + 1 + 1 + 1 + 1 + 1 + 1; omega)
  have R4 : Blk (w1.setCell ⟨w.heap.size + 1 + 1 + 1 + 1 + 1 + 1, 3, none⟩ (.int .i64 (G * t))) (w.heap.size + 1) 38 #[.int .i64 0, .int .i64 0, .int .i64 0, .int .i64 0, .int .i64 0, .int .i64 0, .int .i64 0, .int .i64 0, .int .i64 0] := R4'.far (by show w.heap.size + 1 ≠ w.heap.size + 1 + 1 + 1 + 1 + 1 + 1; omega)
  have F4 : Blk (w1.setCell ⟨w.heap.size + 1 + 1 + 1 + 1 + 1 + 1, 3, none⟩ (.int .i64 (G * t))) (w.heap.size + 1 + 1) 3 #[.int .i64 1, .int .i64 (-1), .int .i64 0] := F4'.far (by show w.heap.size + 1 + 1 ≠ w.heap.size + 1 + 1 + 1 + 1 + 1 + 1; omega)
  have U4 : Blk (w1.setCell ⟨w.heap.size + 1 + 1 + 1 + 1 + 1 + 1, 3, none⟩ (.int .i64 (G * t))) (w.heap.size + 1 + 1 + 1 + 1 + 1) 59 #[.slice (some ⟨w.heap.size + 1 + 1, 0, none⟩) 3 3, .slice (some ⟨w.heap.size + 1 + 1 + 1, 0, none⟩) 3 3, .slice (some ⟨w.heap.size + 1 + 1 + 1 + 1, 0, none⟩) 3 3] := U4'.far (by show w.heap.size + 1 + 1 + 1 + 1 + 1 ≠ w.heap.size + 1 + 1 + 1 + 1 + 1 + 1; omega)
  have B4 : Blk (w1.setCell ⟨w.heap.size + 1 + 1 + 1 + 1 + 1 + 1, 3, none⟩ (.int .i64 (G * t))) (w.heap.size + 1 + 1 + 1 + 1 + 1 + 1) 38 #[.int .i64 (-(G * t)), .int .i64 0, .int .i64 (G * t), .int .i64 (G * t), .int .i64 0, .int .i64 0, .int .i64 0, .int .i64 0, .int .i64 0] := B4'.set_ 3 _
  have S4 : Below w.heap.size w (w1.setCell ⟨w.heap.size + 1 + 1 + 1 + 1 + 1 + 1, 3, none⟩ (.int .i64 (G * t))) := ps S4' (by show w.heap.size ≤ w.heap.size + 1 + 1 + 1 + 1 + 1 + 1; omega)
  generalize w1.setCell ⟨w.heap.size + 1 + 1 + 1 + 1 + 1 + 1, 3, none⟩ (.int .i64 (G * t)) = W4 at *
  clear b0 b1 bl P4' R4' F4' U4' B4' S4'
  have p0 := P4.cellAt 0 rfl
  have p1 := P4.cellAt 1 rfl
  have p2 := P4.cellAt 2 rfl
  have p3 := P4.cellAt 3 rfl
  have pl := P4.lt
  have u0 := U4.cellAt 0 rfl
  have ul := U4.lt
  have f0 := F4.cellAt 1 rfl
  have fl := F4.lt
  rw [rounds_succ]
  go_wp2
  refine region_below 24 follows_mixed (by kernel_rfl) ?_
  intro C hC
  simp only [List.take_succ_cons, List.take_zero, List.drop_succ_cons, List.drop_zero]
  repeat (first
    | ((with_reducible refine quiet_plain rfl (fun K hK => ?_)); (focus (apply quiet_val; (focus (intro w' hw; obtain ⟨hcq, hfq⟩ := bcell ((hC.out _).1 hw); go_simp; (first | done | rfl | (with_reducible exact call_below hC hw (hS _))))); (simp only [Act.put, List.setIfInBounds_toArray, List.set_cons_succ, List.set_cons_zero]); (with_reducible refine hK _ ?_); clear hK K)))
    | ((with_reducible refine quiet_skip ?_ ?_); (focus (first | (simp [Region.wanted, yielded]; done) | (simp [Region.wanted, yielded, undef]; done))); simp only [Act.put, List.setIfInBounds_toArray, List.set_cons_succ, List.set_cons_zero])
    | ((with_reducible refine quiet_go ?_ (fun K hK => ?_)); (focus (first | (simp [Region.wanted, yielded]; done) | (simp [Region.wanted, yielded, undef]; done))); (focus (apply quiet_val; (focus (intro w' hw; obtain ⟨hcq, hfq⟩ := bcell ((hC.out _).1 hw); go_simp; (first | done | rfl | (with_reducible exact call_below hC hw (hS _))))); (simp only [Act.put, List.setIfInBounds_toArray, List.set_cons_succ, List.set_cons_zero]); (with_reducible refine hK _ ?_); clear hK K))))
  refine wpQuiet_nil ?_
  intro w1 hb1
  replace hb1 := (hC.out _).1 hb1
  clear hC C
  obtain ⟨hc1, hf1⟩ := bcell hb1
  have P5' : Blk w1 (w.heap.size) 23 #[.int .i64 0, .int .i64 t, .int .i64 2, .bool r] := (P4).past hb1
  have R5' : Blk w1 (w.heap.size + 1) 38 #[.int .i64 0, .int .i64 0, .int .i64 0, .int .i64 0, .int .i64 0, .int .i64 0, .int .i64 0, .int .i64 0, .int .i64 0] := (R4).past hb1
  have F5' : Blk w1 (w.heap.size + 1 + 1) 3 #[.int .i64 1, .int .i64 (-1), .int .i64 0] := (F4).past hb1
  have U5' : Blk w1 (w.heap.size + 1 + 1 + 1 + 1 + 1) 59 #[.slice (some ⟨w.heap.size + 1 + 1, 0, none⟩) 3 3, .slice (some ⟨w.heap.size + 1 + 1 + 1, 0, none⟩) 3 3, .slice (some ⟨w.heap.size + 1 + 1 + 1 + 1, 0, none⟩) 3 3] := (U4).past hb1
  have B5' : Blk w1 (w.heap.size + 1 + 1 + 1 + 1 + 1 + 1) 38 #[.int .i64 (-(G * t)), .int .i64 0, .int .i64 (G * t), .int .i64 (G * t), .int .i64 0, .int .i64 0, .int .i64 0, .int .i64 0, .int .i64 0] := (B4).past hb1
  have S5' := pt (S4) hb1
  clear hb1 hc1 hf1 P4 R4 F4 U4 B4 S4 p0 p1 p2 p3 pl u0 ul f0 fl
  have b0 := B5'.cellAt 4 rfl
  have b1 := B5'.frozen 4
  have bl := B5'.lt
  go_wp2
  have P5 : Blk (w1.setCell ⟨w.heap.size + 1 + 1 + 1 + 1 + 1 + 1, 4, none⟩ (.int .i64 (-(G * t)))) (w.heap.size) 23 #[.int .i64 0, .int .i64 t, .int .i64 2, .bool r] := P5'.far (by show w.heap.size ≠ w.heap.size + 1 + 1 + 1 + 1 + 1 + 1; omega)
  have R5 : Blk (w1.setCell ⟨w.heap.size + 1 + 1 + 1 + 1 + 1 + 1, 4, none⟩ (.int .i64 (-(G * t)))) (w.heap.size + 1) 38 #[.int .i64 0, .int .i64 0, .int .i64 0, .int .i64 0, .int .i64 0, .int .i64 0, .int .i64 0, .int .i64 0, .int .i64 0] := R5'.far (by show w.heap.size + 1 ≠ w.heap.size + 1 + 1 + 1 + 1 + 1 + 1; omega)
  have F5 : Blk (w1.setCell ⟨w.heap.size + 1 + 1 + 1 + 1 + 1 + 1, 4, none⟩ (.int .i64 (-(G * t)))) (w.heap.size + 1 + 1) 3 #[.int .i64 1, .int .i64 (-1), .int .i64 0] := F5'.far (by show w.heap.size + 1 + 1 ≠ w.heap.size + 1 + 1 + 1 + 1 + 1 + 1; omega)
  have U5 : Blk (w1.setCell ⟨w.heap.size + 1 + 1 + 1 + 1 + 1 + 1, 4, none⟩ (.int .i64 (-(G * t)))) (w.heap.size + 1 + 1 + 1 + 1 + 1) 59 #[.slice (some ⟨w.heap.size + 1 + 1, 0, none⟩) 3 3, .slice (some ⟨w.heap.size + 1 + 1 + 1, 0, none⟩) 3 3, .slice (some ⟨w.heap.size + 1 + 1 + 1 + 1, 0, none⟩) 3 3] := U5'.far (by show w.heap.size + 1 + 1 + 1 + 1 + 1 ≠ w.heap.size + 1 + 1 + 1 + 1 + 1 + 1; omega)
  have B5 : Blk (w1.setCell ⟨w.heap.size + 1 + 1 + 1 + 1 + 1 + 1, 4, none⟩ (.int .i64 (-(G * t)))) (w.heap.size + 1 + 1 + 1 + 1 + 1 + 1) 38 #[.int .i64 (-(G * t)), .int .i64 0, .int .i64 (G * t), .int .i64 (G * t), .int .i64 (-(G * t)), .int .i64 0, .int .i64 0, .int .i64 0, .int .i64 0] := B5'.set_ 4 _
  have S5 : Below w.heap.size w (w1.setCell ⟨w.heap.size + 1 + 1 + 1 + 1 + 1 + 1, 4, none⟩ (.int .i64 (-(G * t)))) := ps S5' (by show w.heap.size ≤ w.heap.size + 1 + 1 + 1 + 1 + 1 + 1; omega)
  generalize w1.setCell ⟨w.heap.size + 1 + 1 + 1 + 1 + 1 + 1, 4, none⟩ (.int .i64 (-(G * t))) = W5 at *
  clear b0 b1 bl P5' R5' F5' U5' B5' S5'
  have p0 := P5.cellAt 0 rfl
  have p1 := P5.cellAt 1 rfl
  have p2 := P5.cellAt 2 rfl
  have p3 := P5.cellAt 3 rfl
  have pl := P5.lt
  have u0 := U5.cellAt 0 rfl
  have ul := U5.lt
  have f0 := F5.cellAt 2 rfl
  have fl := F5.lt
  rw [rounds_succ]
  go_wp2
  refine region_below 24 follows_mixed (by kernel_rfl) ?_
  intro C hC
  simp only [List.take_succ_cons, List.take_zero, List.drop_succ_cons, List.drop_zero]
  repeat (first
    | ((with_reducible refine quiet_plain rfl (fun K hK => ?_)); (focus (apply quiet_val; (focus (intro w' hw; obtain ⟨hcq, hfq⟩ := bcell ((hC.out _).1 hw); go_simp; (first | done | rfl | (with_reducible exact call_below hC hw (hS _))))); (simp only [Act.put, List.setIfInBounds_toArray, List.set_cons_succ, List.set_cons_zero]); (with_reducible refine hK _ ?_); clear hK K)))
    | ((with_reducible refine quiet_skip ?_ ?_); (focus (first | (simp [Region.wanted, yielded]; done) | (simp [Region.wanted, yielded, undef]; done))); simp only [Act.put, List.setIfInBounds_toArray, List.set_cons_succ, List.set_cons_zero])
    | ((with_reducible refine quiet_go ?_ (fun K hK => ?_)); (focus (first | (simp [Region.wanted, yielded]; done) | (simp [Region.wanted, yielded, undef]; done))); (focus (apply quiet_val; (focus (intro w' hw; obtain ⟨hcq, hfq⟩ := bcell ((hC.out _).1 hw); go_simp; (first | done | rfl | (with_reducible exact call_below hC hw (hS _))))); (simp only [Act.put, List.setIfInBounds_toArray, List.set_cons_succ, List.set_cons_zero]); (with_reducible refine hK _ ?_); clear hK K))))
  refine wpQuiet_nil ?_
  intro w1 hb1
  replace hb1 := (hC.out _).1 hb1
  clear hC C
  obtain ⟨hc1, hf1⟩ := bcell hb1
  have P6' : Blk w1 (w.heap.size) 23 #[.int .i64 0, .int .i64 t, .int .i64 2, .bool r] := (P5).past hb1
  have R6' : Blk w1 (w.heap.size + 1) 38 #[.int .i64 0, .int .i64 0, .int .i64 0, .int .i64 0, .int .i64 0, .int .i64 0, .int .i64 0, .int .i64 0, .int .i64 0] := (R5).past hb1
  have F6' : Blk w1 (w.heap.size + 1 + 1) 3 #[.int .i64 1, .int .i64 (-1), .int .i64 0] := (F5).past hb1
  have U6' : Blk w1 (w.heap.size + 1 + 1 + 1 + 1 + 1) 59 #[.slice (some ⟨w.heap.size + 1 + 1, 0, none⟩) 3 3, .slice (some ⟨w.heap.size + 1 + 1 + 1, 0, none⟩) 3 3, .slice (some ⟨w.heap.size + 1 + 1 + 1 + 1, 0, none⟩) 3 3] := (U5).past hb1
  have B6' : Blk w1 (w.heap.size + 1 + 1 + 1 + 1 + 1 + 1) 38 #[.int .i64 (-(G * t)), .int .i64 0, .int .i64 (G * t), .int .i64 (G * t), .int .i64 (-(G * t)), .int .i64 0, .int .i64 0, .int .i64 0, .int .i64 0] := (B5).past hb1
  have S6' := pt (S5) hb1
  clear hb1 hc1 hf1 P5 R5 F5 U5 B5 S5 p0 p1 p2 p3 pl u0 ul f0 fl
  have b0 := B6'.cellAt 5 rfl
  have b1 := B6'.frozen 5
  have bl := B6'.lt
  go_wp2
  have P6 : Blk (w1.setCell ⟨w.heap.size + 1 + 1 + 1 + 1 + 1 + 1, 5, none⟩ (.int .i64 0)) (w.heap.size) 23 #[.int .i64 0, .int .i64 t, .int .i64 2, .bool r] := P6'.far (by show w.heap.size ≠ w.heap.size + 1 + 1 + 1 + 1 + 1 + 1; omega)
  have R6 : Blk (w1.setCell ⟨w.heap.size + 1 + 1 + 1 + 1 + 1 + 1, 5, none⟩ (.int .i64 0)) (w.heap.size + 1) 38 #[.int .i64 0, .int .i64 0, .int .i64 0, .int .i64 0, .int .i64 0, .int .i64 0, .int .i64 0, .int .i64 0, .int .i64 0] := R6'.far (by show w.heap.size + 1 ≠ w.heap.size + 1 + 1 + 1 + 1 + 1 + 1; omega)
  have F6 : Blk (w1.setCell ⟨w.heap.size + 1 + 1 + 1 + 1 + 1 + 1, 5, none⟩ (.int .i64 0)) (w.heap.size + 1 + 1) 3 #[.int .i64 1, .int .i64 (-1), .int .i64 0] := F6'.far (by show w.heap.size + 1 + 1 ≠ w.heap.size + 1 + 1 + 1 + 1 + 1 + 1; omega)
  have U6 : Blk (w1.setCell ⟨w.heap.size + 1 + 1 + 1 + 1 + 1 + 1, 5, none⟩ (.int .i64 0)) (w.heap.size + 1 + 1 + 1 + 1 + 1) 59 #[.slice (some ⟨w.heap.size + 1 + 1, 0, none⟩) 3 3, .slice (some ⟨w.heap.size + 1 + 1 + 1, 0, none⟩) 3 3, .slice (some ⟨w.heap.size + 1 + 1 + 1 + 1, 0, none⟩) 3 3] := U6'.far (by show w.heap.size + 1 + 1 + 1 + 1 + 1 ≠ w.heap.size + 1 + 1 + 1 + 1 + 1 + 1; omega)
  have B6 : Blk (w1.setCell ⟨w.heap.size + 1 + 1 + 1 + 1 + 1 + 1, 5, none⟩ (.int .i64 0)) (w.heap.size + 1 + 1 + 1 + 1 + 1 + 1) 38 #[.int .i64 (-(G * t)), .int .i64 0, .int .i64 (G * t), .int .i64 (G * t), .int .i64 (-(G * t)), .int .i64 0, .int .i64 0, .int .i64 0, .int .i64 0] := B6'.set_ 5 _
  have S6 : Below w.heap.size w (w1.setCell ⟨w.heap.size + 1 + 1 + 1 + 1 + 1 + 1, 5, none⟩ (.int .i64 0)) := ps S6' (by show w.heap.size ≤ w.heap.size + 1 + 1 + 1 + 1 + 1 + 1; omega)
  generalize w1.setCell ⟨w.heap.size + 1 + 1 + 1 + 1 + 1 + 1, 5, none⟩ (.int .i64 0) = W6 at *
  clear b0 b1 bl P6' R6' F6' U6' B6' S6'
  have p0 := P6.cellAt 0 rfl
  have p1 := P6.cellAt 1 rfl
  have p2 := P6.cellAt 2 rfl
  have p3 := P6.cellAt 3 rfl
  have pl := P6.lt
  have u0 := U6.cellAt 0 rfl
  have ul := U6.lt
  have f0 := F6.cellAt 0 rfl
  have fl := F6.lt
  rw [rounds_succ]
  go_wp2
  rw [rounds_succ]
  go_wp2
  refine wp_loop_rounds 4 ?_
  rw [rounds_succ]
  go_wp2
  refine region_below 24 follows_mixed (by kernel_rfl) ?_
  intro C hC
  simp only [List.take_succ_cons, List.take_zero, List.drop_succ_cons, List.drop_zero]
  repeat (first
    | ((with_reducible refine quiet_plain rfl (fun K hK => ?_)); (focus (apply quiet_val; (focus (intro w' hw; obtain ⟨hcq, hfq⟩ := bcell ((hC.out _).1 hw); go_simp; (first | done | rfl | (with_reducible exact call_below hC hw (hS _))))); (simp only [Act.put, List.setIfInBounds_toArray, List.set_cons_succ, List.set_cons_zero]); (with_reducible refine hK _ ?_); clear hK K)))
    | ((with_reducible refine quiet_skip ?_ ?_); (focus (first | (simp [Region.wanted, yielded]; done) | (simp [Region.wanted, yielded, undef]; done))); simp only [Act.put, List.setIfInBounds_toArray, List.set_cons_succ, List.set_cons_zero])
    | ((with_reducible refine quiet_go ?_ (fun K hK => ?_)); (focus (first | (simp [Region.wanted, yielded]; done) | (simp [Region.wanted, yielded, undef]; done))); (focus (apply quiet_val; (focus (intro w' hw; obtain ⟨hcq, hfq⟩ := bcell ((hC.out _).1 hw); go_simp; (first | done | rfl | (with_reducible exact call_below hC hw (hS _))))); (simp only [Act.put, List.setIfInBounds_toArray, List.set_cons_succ, List.set_cons_zero]); (with_reducible refine hK _ ?_); clear hK K))))
  refine wpQuiet_nil ?_
  intro w1 hb1
  replace hb1 := (hC.out _).1 hb1
  clear hC C
  obtain ⟨hc1, hf1⟩ := bcell hb1
  have P7' : Blk w1 (w.heap.size) 23 #[.int .i64 0, .int .i64 t, .int .i64 2, .bool r] := (P6).past hb1
  have R7' : Blk w1 (w.heap.size + 1) 38 #[.int .i64 0, .int .i64 0, .int .i64 0, .int .i64 0, .int .i64 0, .int .i64 0, .int .i64 0, .int .i64 0, .int .i64 0] := (R6).past hb1
  have F7' : Blk w1 (w.heap.size + 1 + 1) 3 #[.int .i64 1, .int .i64 (-1), .int .i64 0] := (F6).past hb1
  have U7' : Blk w1 (w.heap.size + 1 + 1 + 1 + 1 + 1) 59 #[.slice (some ⟨w.heap.size + 1 + 1, 0, none⟩) 3 3, .slice (some ⟨w.heap.size + 1 + 1 + 1, 0, none⟩) 3 3, .slice (some ⟨w.heap.size + 1 + 1 + 1 + 1, 0, none⟩) 3 3] := (U6).past hb1
  have B7' : Blk w1 (w.heap.size + 1 + 1 + 1 + 1 + 1 + 1) 38 #[.int .i64 (-(G * t)), .int .i64 0, .int .i64 (G * t), .int .i64 (G * t), .int .i64 (-(G * t)), .int .i64 0, .int .i64 0, .int .i64 0, .int .i64 0] := (B6).past hb1
  have S7' := pt (S6) hb1
  clear hb1 hc1 hf1 P6 R6 F6 U6 B6 S6 p0 p1 p2 p3 pl u0 ul f0 fl
  have b0 := B7'.cellAt 7 rfl
  have b1 := B7'.frozen 7
  have bl := B7'.lt
  go_wp2
  have P7 : Blk (w1.setCell ⟨w.heap.size + 1 + 1 + 1 + 1 + 1 + 1, 7, none⟩ (.int .i64 (G * t))) (w.heap.size) 23 #[.int .i64 0, .int .i64 t, .int .i64 2, .bool r] := P7'.far (by show w.heap.size ≠ w.heap.size + 1 + 1 + 1 + 1 + 1 + 1; omega)
  have R7 : Blk (w1.setCell ⟨w.heap.size + 1 + 1 + 1 + 1 + 1 + 1, 7, none⟩ (.int .i64 (G * t))) (w.heap.size + 1) 38 #[.int .i64 0, .int .i64 0, .int .i64 0, .int .i64 0, .int .i64 0, .int .i64 0, .int .i64 0, .int .i64 0, .int .i64 0] := R7'.far (by show w.heap.size + 1 ≠ w.heap.size + 1 + 1 + 1 + 1 + 1 + 1; omega)
  have F7 : Blk (w1.setCell ⟨w.heap.size + 1 + 1 + 1 + 1 + 1 + 1, 7, none⟩ (.int .i64 (G * t))) (w.heap.size + 1 + 1) 3 #[.int .i64 1, .int .i64 (-1), .int .i64 0] := F7'.far (by show w.heap.size + 1 + 1 ≠ w.heap.size + 1 + 1 + 1 + 1 + 1 + 1; omega)
  have U7 : Blk (w1.setCell ⟨w.heap.size + 1 + 1 + 1 + 1 + 1 + 1, 7, none⟩ (.int .i64 (G * t))) (w.heap.size + 1 + 1 + 1 + 1 + 1) 59 #[.slice (some ⟨w.heap.size + 1 + 1, 0, none⟩) 3 3, .slice (some ⟨w.heap.size + 1 + 1 + 1, 0, none⟩) 3 3, .slice (some ⟨w.heap.size + 1 + 1 + 1 + 1, 0, none⟩) 3 3] := U7'.far (by show w.heap.size + 1 + 1 + 1 + 1 + 1 ≠ w.heap.size + 1 + 1 + 1 + 1 + 1 + 1; omega)
  have B7 : Blk (w1.setCell ⟨w.heap.size + 1 + 1 + 1 + 1 + 1 + 1, 7, none⟩ (.int .i64 (G * t))) (w.heap.size + 1 + 1 + 1 + 1 + 1 + 1) 38 #[.int .i64 (-(G * t)), .int .i64 0, .int .i64 (G * t), .int .i64 (G * t), .int .i64 (-(G * t)), .int .i64 0, .int .i64 0, .int .i64 (G * t), .int .i64 0] := B7'.set_ 7 _
  have S7 : Below w.heap.size w (w1.setCell ⟨w.heap.size + 1 + 1 + 1 + 1 + 1 + 1, 7, none⟩ (.int .i64 (G * t))) := ps S7' (by show w.heap.size ≤ w.heap.size + 1 + 1 + 1 + 1 + 1 + 1; omega)
  generalize w1.setCell ⟨w.heap.size + 1 + 1 + 1 + 1 + 1 + 1, 7, none⟩ (.int .i64 (G * t)) = W7 at *
  clear b0 b1 bl P7' R7' F7' U7' B7' S7'
  have p0 := P7.cellAt 0 rfl
  have p1 := P7.cellAt 1 rfl
  have p2 := P7.cellAt 2 rfl
  have p3 := P7.cellAt 3 rfl
  have pl := P7.lt
  have u0 := U7.cellAt 0 rfl
  have ul := U7.lt
  have f0 := F7.cellAt 1 rfl
  have fl := F7.lt
  rw [rounds_succ]
  go_wp2
  refine region_below 24 follows_mixed (by kernel_rfl) ?_
  intro C hC
  simp only [List.take_succ_cons, List.take_zero, List.drop_succ_cons, List.drop_zero]
  repeat (first
    | ((with_reducible refine quiet_plain rfl (fun K hK => ?_)); (focus (apply quiet_val; (focus (intro w' hw; obtain ⟨hcq, hfq⟩ := bcell ((hC.out _).1 hw); go_simp; (first | done | rfl | (with_reducible exact call_below hC hw (hS _))))); (simp only [Act.put, List.setIfInBounds_toArray, List.set_cons_succ, List.set_cons_zero]); (with_reducible refine hK _ ?_); clear hK K)))
    | ((with_reducible refine quiet_skip ?_ ?_); (focus (first | (simp [Region.wanted, yielded]; done) | (simp [Region.wanted, yielded, undef]; done))); simp only [Act.put, List.setIfInBounds_toArray, List.set_cons_succ, List.set_cons_zero])
    | ((with_reducible refine quiet_go ?_ (fun K hK => ?_)); (focus (first | (simp [Region.wanted, yielded]; done) | (simp [Region.wanted, yielded, undef]; done))); (focus (apply quiet_val; (focus (intro w' hw; obtain ⟨hcq, hfq⟩ := bcell ((hC.out _).1 hw); go_simp; (first | done | rfl | (with_reducible exact call_below hC hw (hS _))))); (simp only [Act.put, List.setIfInBounds_toArray, List.set_cons_succ, List.set_cons_zero]); (with_reducible refine hK _ ?_); clear hK K))))
  refine wpQuiet_nil ?_
  intro w1 hb1
  replace hb1 := (hC.out _).1 hb1
  clear hC C
  obtain ⟨hc1, hf1⟩ := bcell hb1
  have P8' : Blk w1 (w.heap.size) 23 #[.int .i64 0, .int .i64 t, .int .i64 2, .bool r] := (P7).past hb1
  have R8' : Blk w1 (w.heap.size + 1) 38 #[.int .i64 0, .int .i64 0, .int .i64 0, .int .i64 0, .int .i64 0, .int .i64 0, .int .i64 0, .int .i64 0, .int .i64 0] := (R7).past hb1
  have F8' : Blk w1 (w.heap.size + 1 + 1) 3 #[.int .i64 1, .int .i64 (-1), .int .i64 0] := (F7).past hb1
  have U8' : Blk w1 (w.heap.size + 1 + 1 + 1 + 1 + 1) 59 #[.slice (some ⟨w.heap.size + 1 + 1, 0, none⟩) 3 3, .slice (some ⟨w.heap.size + 1 + 1 + 1, 0, none⟩) 3 3, .slice (some ⟨w.heap.size + 1 + 1 + 1 + 1, 0, none⟩) 3 3] := (U7).past hb1
  have B8' : Blk w1 (w.heap.size + 1 + 1 + 1 + 1 + 1 + 1) 38 #[.int .i64 (-(G * t)), .int .i64 0, .int .i64 (G * t), .int .i64 (G * t), .int .i64 (-(G * t)), .int .i64 0, .int .i64 0, .int .i64 (G * t), .int .i64 0] := (B7).past hb1
  have S8' := pt (S7) hb1
  clear hb1 hc1 hf1 P7 R7 F7 U7 B7 S7 p0 p1 p2 p3 pl u0 ul f0 fl
  have b0 := B8'.cellAt 8 rfl
  have b1 := B8'.frozen 8
  have bl := B8'.lt
  go_wp2
  have P8 : Blk (w1.setCell ⟨w.heap.size + 1 + 1 + 1 + 1 + 1 + 1, 8, none⟩ (.int .i64 (-(G * t)))) (w.heap.size) 23 #[.int .i64 0, .int .i64 t, .int .i64 2, .bool r] := P8'.far (by show w.heap.size ≠ w.heap.size + 1 + 1 + 1 + 1 + 1 + 1; omega)
  have R8 : Blk (w1.setCell ⟨w.heap.size + 1 + 1 + 1 + 1 + 1 + 1, 8, none⟩ (.int .i64 (-(G * t)))) (w.heap.size + 1) 38 #[.int .i64 0, .int .i64 0, .int .i64 0, .int .i64 0, .int .i64 0, .int .i64 0, .int .i64 0, .int .i64 0, .int .i64 0] := R8'.far (by show w.heap.size + 1 ≠ w.heap.size + 1 + 1 + 1 + 1 + 1 + 1; omega)
  have F8 : Blk (w1.setCell ⟨w.heap.size + 1 + 1 + 1 + 1 + 1 + 1, 8, none⟩ (.int .i64 (-(G * t)))) (w.heap.size + 1 + 1) 3 #[.int .i64 1, .int .i64 (-1), .int .i64 0] := F8'.far (by show w.heap.size + 1 + 1 ≠ w.heap.size + 1 + 1 + 1 + 1 + 1 + 1; omega)
  have U8 : Blk (w1.setCell ⟨w.heap.size + 1 + 1 + 1 + 1 + 1 + 1, 8, none⟩ (.int .i64 (-(G * t)))) (w.heap.size + 1 + 1 + 1 + 1 + 1) 59 #[.slice (some ⟨w.heap.size + 1 + 1, 0, none⟩) 3 3, .slice (some ⟨w.heap.size + 1 + 1 + 1, 0, none⟩) 3 3, .slice (some ⟨w.heap.size + 1 + 1 + 1 + 1, 0, none⟩) 3 3] := U8'.far (by show w.heap.size + 1 + 1 + 1 + 1 + 1 ≠ w.heap.size + 1 + 1 + 1 + 1 + 1 + 1; omega)
  have B8 : Blk (w1.setCell ⟨w.heap.size + 1 + 1 + 1 + 1 + 1 + 1, 8, none⟩ (.int .i64 (-(G * t)))) (w.heap.size + 1 + 1 + 1 + 1 + 1 + 1) 38 #[.int .i64 (-(G * t)), .int .i64 0, .int .i64 (G * t), .int .i64 (G * t), .int .i64 (-(G * t)), .int .i64 0, .int .i64 0, .int .i64 (G * t), .int .i64 (-(G * t))] := B8'.set_ 8 _
  have S8 : Below w.heap.size w (w1.setCell ⟨w.heap.size + 1 + 1 + 1 + 1 + 1 + 1, 8, none⟩ (.int .i64 (-(G * t)))) := ps S8' (by show w.heap.size ≤ w.heap.size + 1 + 1 + 1 + 1 + 1 + 1; omega)
  generalize w1.setCell ⟨w.heap.size + 1 + 1 + 1 + 1 + 1 + 1, 8, none⟩ (.int .i64 (-(G * t))) = W8 at *
  clear b0 b1 bl P8' R8' F8' U8' B8' S8'
  have p0 := P8.cellAt 0 rfl
  have p1 := P8.cellAt 1 rfl
  have p2 := P8.cellAt 2 rfl
  have p3 := P8.cellAt 3 rfl
  have pl := P8.lt
  have u0 := U8.cellAt 0 rfl
  have ul := U8.lt
  have f0 := F8.cellAt 2 rfl
  have fl := F8.lt
  rw [rounds_succ]
  go_wp2
  refine region_below 24 follows_mixed (by kernel_rfl) ?_
  intro C hC
  simp only [List.take_succ_cons, List.take_zero, List.drop_succ_cons, List.drop_zero]
  repeat (first
    | ((with_reducible refine quiet_plain rfl (fun K hK => ?_)); (focus (apply quiet_val; (focus (intro w' hw; obtain ⟨hcq, hfq⟩ := bcell ((hC.out _).1 hw); go_simp; (first | done | rfl | (with_reducible exact call_below hC hw (hS _))))); (simp only [Act.put, List.setIfInBounds_toArray, List.set_cons_succ, List.set_cons_zero]); (with_reducible refine hK _ ?_); clear hK K)))
    | ((with_reducible refine quiet_skip ?_ ?_); (focus (first | (simp [Region.wanted, yielded]; done) | (simp [Region.wanted, yielded, undef]; done))); simp only [Act.put, List.setIfInBounds_toArray, List.set_cons_succ, List.set_cons_zero])
    | ((with_reducible refine quiet_go ?_ (fun K hK => ?_)); (focus (first | (simp [Region.wanted, yielded]; done) | (simp [Region.wanted, yielded, undef]; done))); (focus (apply quiet_val; (focus (intro w' hw; obtain ⟨hcq, hfq⟩ := bcell ((hC.out _).1 hw); go_simp; (first | done | rfl | (with_reducible exact call_below hC hw (hS _))))); (simp only [Act.put, List.setIfInBounds_toArray, List.set_cons_succ, List.set_cons_zero]); (with_reducible refine hK _ ?_); clear hK K))))
  refine wpQuiet_nil ?_
  intro w1 hb1
  replace hb1 := (hC.out _).1 hb1
  clear hC C
  obtain ⟨hc1, hf1⟩ := bcell hb1
  have P9' : Blk w1 (w.heap.size) 23 #[.int .i64 0, .int .i64 t, .int .i64 2, .bool r] := (P8).past hb1
  have R9' : Blk w1 (w.heap.size + 1) 38 #[.int .i64 0, .int .i64 0, .int .i64 0, .int .i64 0, .int .i64 0, .int .i64 0, .int .i64 0, .int .i64 0, .int .i64 0] := (R8).past hb1
  have F9' : Blk w1 (w.heap.size + 1 + 1) 3 #[.int .i64 1, .int .i64 (-1), .int .i64 0] := (F8).past hb1
  have U9' : Blk w1 (w.heap.size + 1 + 1 + 1 + 1 + 1) 59 #[.slice (some ⟨w.heap.size + 1 + 1, 0, none⟩) 3 3, .slice (some ⟨w.heap.size + 1 + 1 + 1, 0, none⟩) 3 3, .slice (some ⟨w.heap.size + 1 + 1 + 1 + 1, 0, none⟩) 3 3] := (U8).past hb1
  have B9' : Blk w1 (w.heap.size + 1 + 1 + 1 + 1 + 1 + 1) 38 #[.int .i64 (-(G * t)), .int .i64 0, .int .i64 (G * t), .int .i64 (G * t), .int .i64 (-(G * t)), .int .i64 0, .int .i64 0, .int .i64 (G * t), .int .i64 (-(G * t))] := (B8).past hb1
  have S9' := pt (S8) hb1
  clear hb1 hc1 hf1 P8 R8 F8 U8 B8 S8 p0 p1 p2 p3 pl u0 ul f0 fl
  have b0 := B9'.cellAt 6 rfl
  have b1 := B9'.frozen 6
  have bl := B9'.lt
  go_wp2
  have P9 : Blk (w1.setCell ⟨w.heap.size + 1 + 1 + 1 + 1 + 1 + 1, 6, none⟩ (.int .i64 0)) (w.heap.size) 23 #[.int .i64 0, .int .i64 t, .int .i64 2, .bool r] := P9'.far (by show w.heap.size ≠ w.heap.size + 1 + 1 + 1 + 1 + 1 + 1; omega)
  have R9 : Blk (w1.setCell ⟨w.heap.size + 1 + 1 + 1 + 1 + 1 + 1, 6, none⟩ (.int .i64 0)) (w.heap.size + 1) 38 #[.int .i64 0, .int .i64 0, .int .i64 0, .int .i64 0, .int .i64 0, .int .i64 0, .int .i64 0, .int .i64 0, .int .i64 0] := R9'.far (by show w.heap.size + 1 ≠ w.heap.size + 1 + 1 + 1 + 1 + 1 + 1; omega)
  have F9 : Blk (w1.setCell ⟨w.heap.size + 1 + 1 + 1 + 1 + 1 + 1, 6, none⟩ (.int .i64 0)) (w.heap.size + 1 + 1) 3 #[.int .i64 1, .int .i64 (-1), .int .i64 0] := F9'.far (by show w.heap.size + 1 + 1 ≠ w.heap.size + 1 + 1 + 1 + 1 + 1 + 1; omega)
  have U9 : Blk (w1.setCell ⟨w.heap.size + 1 + 1 + 1 + 1 + 1 + 1, 6, none⟩ (.int .i64 0)) (w.heap.size + 1 + 1 + 1 + 1 + 1) 59 #[.slice (some ⟨w.heap.size + 1 + 1, 0, none⟩) 3 3, .slice (some ⟨w.heap.size + 1 + 1 + 1, 0, none⟩) 3 3, .slice (some ⟨w.heap.size + 1 + 1 + 1 + 1, 0, none⟩) 3 3] := U9'.far (by show w.heap.size + 1 + 1 + 1 + 1 + 1 ≠ w.heap.size + 1 + 1 + 1 + 1 + 1 + 1; omega)
  have B9 : Blk (w1.setCell ⟨w.heap.size + 1 + 1 + 1 + 1 + 1 + 1, 6, none⟩ (.int .i64 0)) (w.heap.size + 1 + 1 + 1 + 1 + 1 + 1) 38 #[.int .i64 (-(G * t)), .int .i64 0, .int .i64 (G * t), .int .i64 (G * t), .int .i64 (-(G * t)), .int .i64 0, .int .i64 0, .int .i64 (G * t), .int .i64 (-(G * t))] := B9'.set_ 6 _
  have S9 : Below w.heap.size w (w1.setCell ⟨w.heap.size + 1 + 1 + 1 + 1 + 1 + 1, 6, none⟩ (.int .i64 0)) := ps S9' (by show w.heap.size ≤ w.heap.size + 1 + 1 + 1 + 1 + 1 + 1; omega)
  generalize w1.setCell ⟨w.heap.size + 1 + 1 + 1 + 1 + 1 + 1, 6, none⟩ (.int .i64 0) = W9 at *
  clear b0 b1 bl P9' R9' F9' U9' B9' S9'
  rw [rounds_succ]
  go_wp2
  clear P9 U9 F9 hS hg za zb zc z0 z1 z2 z3 z4 z5 z6
  rw [rounds_succ]
  go_wp2_with (first
    | ((with_reducible refine load_blk (T := 38) (x := .tmp 4) B9 Tryd.underlying38 ?_ ?_ ?_ ?_); (focus rfl); (focus exact apiLines_size); (focus rfl))
    | ((with_reducible refine store_blk (T := 38) (x := .tmp 2) (y := .tmp 43) (vs := #[.int .i64 (-(G * t)), .int .i64 0, .int .i64 (G * t), .int .i64 (G * t), .int .i64 (-(G * t)), .int .i64 0, .int .i64 0, .int .i64 (G * t), .int .i64 (-(G * t))]) R9 ?_ ?_ ?_ ?_ ?_ ?_); (focus rfl); (focus exact apiLines_size); (focus (simp [Value.oneCell']; done)); (focus rfl); (focus rfl); intro WF RF PF))
  have g0 := RF.cellAt 0 rfl
  have g1 := RF.cellAt 1 rfl
  have g2 := RF.cellAt 2 rfl
  have g3 := RF.cellAt 3 rfl
  have g4 := RF.cellAt 4 rfl
  have g5 := RF.cellAt 5 rfl
  have g6 := RF.cellAt 6 rfl
  have g7 := RF.cellAt 7 rfl
  have g8 := RF.cellAt 8 rfl
  exact bodyPost_ret (v := .agg #[.int .i64 (-(G * t)), .int .i64 0, .int .i64 (G * t), .int .i64 (G * t), .int .i64 (-(G * t)), .int .i64 0, .int .i64 0, .int .i64 (G * t), .int .i64 (-(G * t))]) (by simp [results, Tryd.results20, go_sem, g0, g1, g2, g3, g4, g5, g6, g7, g8]) rfl ⟨rfl, pp S9 PF (by omega)⟩

end Go.Proofs.YtnhcamokcggnkaaDoor
