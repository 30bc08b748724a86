/- Contracts: the currents of the document's example (two sources of 12 volts, impedances 1 and 2, a load of 3).
Contract: the error of sources and a load, for any sources. -/
import Derived.Test.YtpdkbhjcpddnpaaGreatDoorOc4
import Derived.Test.YtpdkbhjcpddnpaaGreatDoorOc5

section
namespace Go.Proofs.YtpdkbhjcpddnpaaGreatDoor
open Go.RowKit
attribute [local go_sem ↓] Go.wp_at_zero Go.wp_at_succ

def srcC : Array Value := #[.int .i64 12, .int .i64 0, .int .i64 1, .int .i64 1, .int .i64 12, .int .i64 0, .int .i64 2, .int .i64 1]

theorem wi_1 (w : World) : Calls Tryz.prog 82 #[.int .i64 1, .int .i64 1, .int .i64 100] w fun r w' => r = .returned (.bool true) ∧ w = w' := by
  have h := within_any 1 1 100 w
  rwa [show withinB 1 1 100 = true by decide] at h
theorem il_1 (w : World) : Calls Tryz.prog 85 #[.agg #[.int .i64 1, .int .i64 1]] w fun r w' => r = .returned (.bool true) ∧ Below w.heap.size w w' := by
  have h := isLowest_any 1 1 ⟨by decide, by decide⟩ ⟨by decide, by decide⟩ w
  rwa [show lowestB 1 1 = true by decide] at h
theorem wi_2 (w : World) : Calls Tryz.prog 82 #[.int .i64 2, .int .i64 1, .int .i64 100] w fun r w' => r = .returned (.bool true) ∧ w = w' := by
  have h := within_any 2 1 100 w
  rwa [show withinB 2 1 100 = true by decide] at h
theorem il_2 (w : World) : Calls Tryz.prog 85 #[.agg #[.int .i64 2, .int .i64 1]] w fun r w' => r = .returned (.bool true) ∧ Below w.heap.size w w' := by
  have h := isLowest_any 2 1 ⟨by decide, by decide⟩ ⟨by decide, by decide⟩ w
  rwa [show lowestB 2 1 = true by decide] at h
theorem pe_s (w : World) : Calls Tryz.prog 84 #[.agg #[.int .i64 12, .int .i64 0]] w fun r w' => r = .returned (.int .i64 0) ∧ Below w.heap.size w w' := by
  have h := phasorErr_any 12 0 w
  rwa [show phE 12 0 = 0 by decide] at h
theorem pe_l (w : World) : Calls Tryz.prog 84 #[.agg #[.int .i64 3, .int .i64 0]] w fun r w' => r = .returned (.int .i64 0) ∧ Below w.heap.size w w' := by
  have h := phasorErr_any 3 0 w
  rwa [show phE 3 0 = 0 by decide] at h
theorem un_t (e : Int) (w : World) : Calls Tryz.prog 46 #[.bool true, .int .i64 e] w fun r w' => r = .returned (.int .i64 0) ∧ w = w' := unless_any true e w

set_option maxHeartbeats 4000000 in
set_option maxRecDepth 100000 in
theorem sourcesErr_c (b c : Nat) (w : World) (hB : Blk w b 87 #[.int .i64 12, .int .i64 0, .int .i64 1, .int .i64 1, .int .i64 12, .int .i64 0, .int .i64 2, .int .i64 1]) :
    Calls Tryz.prog 40 #[.slice (some ⟨b, 0, none⟩) 2 c, .agg #[.int .i64 3, .int .i64 0]] w fun r w' => r = .returned (.int .i64 0) ∧ Below w.heap.size w w' := by
  have hlt := hB.lt
  have a0 := hB.cellAt 0 rfl
  have a1 := hB.cellAt 1 rfl
  have a2 := hB.cellAt 2 rfl
  have a3 := hB.cellAt 3 rfl
  go_enter Tryz.func40, Tryz.ntmps40
  go_wp2_with (first
    | (go_at_call 46; refine (un_t _ _).mono ?_; rintro e w' ⟨rfl, rfl⟩)
    | (go_at_call 45; refine (gfirst2 _ _ _ _ _ (by first | (go_simp; done) | (go_simp; rfl)) (by first | (go_simp; done) | (go_simp; rfl)) 0 rfl).mono ?_; rintro e w' ⟨rfl, rfl⟩))
  refine wp_loop_rounds 3 ?_
  rw [rounds_succ]
  go_wp2
  refine region_below 15 follows_mixed (by kernel_rfl) ?_
  intro C hC
  simp only [List.take_succ_cons, List.take_zero, List.drop_succ_cons, List.drop_zero]
  repeat (first
    | ((with_reducible refine quiet_plain rfl (fun K hK => ?_)); (focus (apply quiet_val; (focus (intro w' hw; obtain ⟨hcq, hfq⟩ := bcell ((hC.out _).1 hw); go_simp; (first | done | rfl | (with_reducible exact call_below hC hw (pe_s _)) | (with_reducible exact call_below hC hw (il_1 _)) | (with_reducible exact call_below hC hw (il_2 _)) | (with_reducible exact call_same hw (un_t _ _)) | (with_reducible exact call_same hw (wi_1 _)) | (with_reducible exact call_same hw (wi_2 _))))); (simp only [Act.put, List.setIfInBounds_toArray, List.set_cons_succ, List.set_cons_zero]); (with_reducible refine hK _ ?_); clear hK K)))
    | ((with_reducible refine quiet_skip ?_ ?_); (focus (first | (simp [Region.wanted, yielded]; done) | (simp [Region.wanted, yielded, undef]; done))); simp only [Act.put, List.setIfInBounds_toArray, List.set_cons_succ, List.set_cons_zero])
    | ((with_reducible refine quiet_go ?_ (fun K hK => ?_)); (focus (first | (simp [Region.wanted, yielded]; done) | (simp [Region.wanted, yielded, undef]; done))); (focus (apply quiet_val; (focus (intro w' hw; obtain ⟨hcq, hfq⟩ := bcell ((hC.out _).1 hw); go_simp; (first | done | rfl | (with_reducible exact call_below hC hw (pe_s _)) | (with_reducible exact call_below hC hw (il_1 _)) | (with_reducible exact call_below hC hw (il_2 _)) | (with_reducible exact call_same hw (un_t _ _)) | (with_reducible exact call_same hw (wi_1 _)) | (with_reducible exact call_same hw (wi_2 _))))); (simp only [Act.put, List.setIfInBounds_toArray, List.set_cons_succ, List.set_cons_zero]); (with_reducible refine hK _ ?_); clear hK K))))
  refine wpQuiet_nil ?_
  intro w1 hb1
  replace hb1 := (hC.out _).1 hb1
  clear hC C
  obtain ⟨hc1, hf1⟩ := bcell hb1
  have B1 := hB.alloc.alloc.alloc.alloc.past hb1
  have L1 : Blk w1 w.heap.size 24 #[.int .i64 3, .int .i64 0] := (Blk.newAt rfl).alloc.alloc.alloc.past hb1
  have S1 := pt (pa (pa (pa (pa pr)))) hb1
  clear hb1 hc1 hf1 a0 a1 a2 a3
  have a4 := B1.cellAt 4 rfl
  have a5 := B1.cellAt 5 rfl
  have a6 := B1.cellAt 6 rfl
  have a7 := B1.cellAt 7 rfl
  have hl1 := B1.lt
  have hl2 := L1.lt
  go_wp2_with (go_at_call 45; refine (gfirst3 _ _ _ _ _ _ (by first | (go_simp; done) | (go_simp; rfl)) (by first | (go_simp; done) | (go_simp; rfl)) (by first | (go_simp; done) | (go_simp; rfl)) 0 rfl).mono ?_; rintro e w' ⟨rfl, rfl⟩)
  rw [rounds_succ]
  go_wp2
  refine region_below 15 follows_mixed (by kernel_rfl) ?_
  intro C hC
  simp only [List.take_succ_cons, List.take_zero, List.drop_succ_cons, List.drop_zero]
  repeat (first
    | ((with_reducible refine quiet_plain rfl (fun K hK => ?_)); (focus (apply quiet_val; (focus (intro w' hw; obtain ⟨hcq, hfq⟩ := bcell ((hC.out _).1 hw); go_simp; (first | done | rfl | (with_reducible exact call_below hC hw (pe_s _)) | (with_reducible exact call_below hC hw (il_1 _)) | (with_reducible exact call_below hC hw (il_2 _)) | (with_reducible exact call_same hw (un_t _ _)) | (with_reducible exact call_same hw (wi_1 _)) | (with_reducible exact call_same hw (wi_2 _))))); (simp only [Act.put, List.setIfInBounds_toArray, List.set_cons_succ, List.set_cons_zero]); (with_reducible refine hK _ ?_); clear hK K)))
    | ((with_reducible refine quiet_skip ?_ ?_); (focus (first | (simp [Region.wanted, yielded]; done) | (simp [Region.wanted, yielded, undef]; done))); simp only [Act.put, List.setIfInBounds_toArray, List.set_cons_succ, List.set_cons_zero])
    | ((with_reducible refine quiet_go ?_ (fun K hK => ?_)); (focus (first | (simp [Region.wanted, yielded]; done) | (simp [Region.wanted, yielded, undef]; done))); (focus (apply quiet_val; (focus (intro w' hw; obtain ⟨hcq, hfq⟩ := bcell ((hC.out _).1 hw); go_simp; (first | done | rfl | (with_reducible exact call_below hC hw (pe_s _)) | (with_reducible exact call_below hC hw (il_1 _)) | (with_reducible exact call_below hC hw (il_2 _)) | (with_reducible exact call_same hw (un_t _ _)) | (with_reducible exact call_same hw (wi_1 _)) | (with_reducible exact call_same hw (wi_2 _))))); (simp only [Act.put, List.setIfInBounds_toArray, List.set_cons_succ, List.set_cons_zero]); (with_reducible refine hK _ ?_); clear hK K))))
  refine wpQuiet_nil ?_
  intro w1 hb1
  replace hb1 := (hC.out _).1 hb1
  clear hC C
  obtain ⟨hc1, hf1⟩ := bcell hb1
  have L2 := L1.alloc.alloc.alloc.past hb1
  have S2 := pt (pa (pa (pa S1))) hb1
  clear hb1 hc1 hf1 a4 a5 a6 a7
  have b0 := L2.cellAt 0 rfl
  have b1 := L2.cellAt 1 rfl
  have hl3 := L2.lt
  go_wp2_with (go_at_call 45; refine (gfirst3 _ _ _ _ _ _ (by first | (go_simp; done) | (go_simp; rfl)) (by first | (go_simp; done) | (go_simp; rfl)) (by first | (go_simp; done) | (go_simp; rfl)) 0 rfl).mono ?_; rintro e w' ⟨rfl, rfl⟩)
  rw [rounds_succ]
  go_wp2_with (go_at_call 84; refine (pe_l _).mono ?_; rintro e w2 ⟨rfl, hb2⟩)
  go_ret
  exact ⟨rfl, pt (pa S2) hb2⟩

theorem bus_size : (Tryz.prog.info? 112).map (·.size) = some 2 := by kernel_rfl
set_option maxHeartbeats 8000000 in
set_option maxRecDepth 100000 in
theorem busOf_P (b c : Nat) (w : World) (hB : Blk w b 87 #[.int .i64 12, .int .i64 0, .int .i64 1, .int .i64 1, .int .i64 12, .int .i64 0, .int .i64 2, .int .i64 1]) :
    Calls Tryz.prog 42 #[.slice (some ⟨b, 0, none⟩) 2 c, .int .i64 3, .agg #[.func (.func 86) #[] #[], .func (.func 87) #[] #[]]] w fun r w' => r = .returned (.agg #[.int .i64 30, .int .i64 3]) ∧ Below w.heap.size w w' := by
  have hlt := hB.lt
  have hlt1 : b < w.heap.size + 1 := by omega
  have hlt2 : b < w.heap.size + 1 + 1 := by omega
  have hlt3 : b < w.heap.size + 1 + 1 + 1 := by omega
  have hlt4 : b < w.heap.size + 1 + 1 + 1 + 1 := by omega
  have hlt5 : b < w.heap.size + 1 + 1 + 1 + 1 + 1 := by omega
  have hlt6 : b < w.heap.size + 1 + 1 + 1 + 1 + 1 + 1 := by omega
  have a0 := hB.cellAt 0 rfl
  have a1 := hB.cellAt 1 rfl
  have a2 := hB.cellAt 2 rfl
  have a3 := hB.cellAt 3 rfl
  have a4 := hB.cellAt 4 rfl
  have a5 := hB.cellAt 5 rfl
  have a6 := hB.cellAt 6 rfl
  have a7 := hB.cellAt 7 rfl
  have z1 : IntKind.i64.wrap 1 = 1 := by decide
  have z2 : IntKind.i64.wrap 2 = 2 := by decide
  have z0 : IntKind.i64.wrap 0 = 0 := by decide
  have z12 : IntKind.i64.wrap 12 = 12 := by decide
  have z24 : IntKind.i64.wrap 24 = 24 := by decide
  have z18 : IntKind.i64.wrap 18 = 18 := by decide
  have z30 : IntKind.i64.wrap 30 = 30 := by decide
  go_enter Tryz.func42, Tryz.ntmps42
  go_wp2
  refine wp_loop_rounds 3 ?_
  rw [rounds_succ]
  go_wp2
  rw [rounds_succ]
  go_wp2
  rw [rounds_succ]
  go_wp2
  refine wp_loop_rounds 3 ?_
  rw [rounds_succ]
  go_wp2
  refine region_below 9 follows_mixed (by kernel_rfl) ?_
  intro C hC
  simp only [List.take_succ_cons, List.take_zero, List.drop_succ_cons, List.drop_zero]
  repeat (first
    | ((with_reducible refine quiet_plain rfl (fun K hK => ?_)); (focus (apply quiet_val; (focus (intro w' hw; obtain ⟨hcq, hfq⟩ := bcell ((hC.out _).1 hw); go_simp; (first | done | rfl))); (simp only [Act.put, List.setIfInBounds_toArray, List.set_cons_succ, List.set_cons_zero]); (with_reducible refine hK _ ?_); clear hK K)))
    | ((with_reducible refine quiet_skip ?_ ?_); (focus (first | (simp [Region.wanted, yielded]; done) | (simp [Region.wanted, yielded, undef]; done))); simp only [Act.put, List.setIfInBounds_toArray, List.set_cons_succ, List.set_cons_zero])
    | ((with_reducible refine quiet_go ?_ (fun K hK => ?_)); (focus (first | (simp [Region.wanted, yielded]; done) | (simp [Region.wanted, yielded, undef]; done))); (focus (apply quiet_val; (focus (intro w' hw; obtain ⟨hcq, hfq⟩ := bcell ((hC.out _).1 hw); go_simp; (first | done | rfl))); (simp only [Act.put, List.setIfInBounds_toArray, List.set_cons_succ, List.set_cons_zero]); (with_reducible refine hK _ ?_); clear hK K))))
  refine wpQuiet_nil ?_
  intro w1 hb1
  replace hb1 := (hC.out _).1 hb1
  clear hC C
  obtain ⟨hc1, hf1⟩ := bcell hb1
  have B1 := hB.alloc.alloc.alloc.alloc.alloc.alloc.past hb1
  have P1 : Blk w1 w.heap.size 108 #[.func (.func 86) #[] #[], .func (.func 87) #[] #[]] := (Blk.newAt rfl).alloc.alloc.alloc.alloc.alloc.past hb1
  have R1 : Blk w1 (w.heap.size + 1) 112 #[.int .i64 0, .int .i64 0] := (Blk.newAt (by simp)).alloc.alloc.alloc.alloc.past hb1
  have K1 : Blk w1 (w.heap.size + 1 + 1 + 1 + 1) 112 #[.int .i64 (-6), .int .i64 0] := (Blk.newAt (by simp)).alloc.past hb1
  have Q1 : Blk w1 (w.heap.size + 1 + 1 + 1 + 1 + 1) 87 #[.int .i64 12, .int .i64 0, .int .i64 1, .int .i64 1] := (Blk.newAt (by simp)).past hb1
  have S1 := pt (pa (pa (pa (pa (pa (pa pr)))))) hb1
  clear hb1 hc1 hf1 a0 a1 a2 a3 a4 a5 a6 a7
  have p0 := P1.cellAt 0 rfl
  have pl := P1.lt
  have k0 := K1.cellAt 0 rfl
  have k1 := K1.cellAt 1 rfl
  have kl := K1.lt
  have q0 := Q1.cellAt 0 rfl
  have q1 := Q1.cellAt 1 rfl
  have ql := Q1.lt
  go_wp2
  refine region_below 11 follows_mixed (by kernel_rfl) ?_
  intro C hC
  simp only [List.take_succ_cons, List.take_zero, List.drop_succ_cons, List.drop_zero]
  repeat (first
    | ((with_reducible refine quiet_plain rfl (fun K hK => ?_)); (focus (apply quiet_val; (focus (intro w' hw; obtain ⟨hcq, hfq⟩ := bcell ((hC.out _).1 hw); go_simp; (first | done | rfl | (with_reducible exact call_below hC hw (part_1 _ _ _))))); (simp only [Act.put, List.setIfInBounds_toArray, List.set_cons_succ, List.set_cons_zero]); (with_reducible refine hK _ ?_); clear hK K)))
    | ((with_reducible refine quiet_skip ?_ ?_); (focus (first | (simp [Region.wanted, yielded]; done) | (simp [Region.wanted, yielded, undef]; done))); simp only [Act.put, List.setIfInBounds_toArray, List.set_cons_succ, List.set_cons_zero])
    | ((with_reducible refine quiet_go ?_ (fun K hK => ?_)); (focus (first | (simp [Region.wanted, yielded]; done) | (simp [Region.wanted, yielded, undef]; done))); (focus (apply quiet_val; (focus (intro w' hw; obtain ⟨hcq, hfq⟩ := bcell ((hC.out _).1 hw); go_simp; (first | done | rfl | (with_reducible exact call_below hC hw (part_1 _ _ _))))); (simp only [Act.put, List.setIfInBounds_toArray, List.set_cons_succ, List.set_cons_zero]); (with_reducible refine hK _ ?_); clear hK K))))
  refine wpQuiet_nil ?_
  intro w1 hb1
  replace hb1 := (hC.out _).1 hb1
  clear hC C
  obtain ⟨hc1, hf1⟩ := bcell hb1
  have B1b := B1.past hb1
  have P1b := P1.past hb1
  have R1b := R1.past hb1
  have K1b := K1.past hb1
  have S1b := pt S1 hb1
  clear hb1 hc1 hf1 p0 pl k0 k1 kl q0 q1 ql B1 P1 R1 K1 Q1 S1
  have k0 := K1b.cellAt 0 rfl
  have k1 := K1b.cellAt 1 rfl
  have f0 := K1b.frozen 0
  have f1 := K1b.frozen 1
  have kl := K1b.lt
  go_wp2
  have B1c : Blk ((w1.setCell ⟨w.heap.size + 1 + 1 + 1 + 1, 0, none⟩ (.int .i64 18)).setCell ⟨w.heap.size + 1 + 1 + 1 + 1, 1, none⟩ (.int .i64 2)) b 87 #[.int .i64 12, .int .i64 0, .int .i64 1, .int .i64 1, .int .i64 12, .int .i64 0, .int .i64 2, .int .i64 1] := (B1b.far (by show b ≠ w.heap.size + 1 + 1 + 1 + 1; omega)).far (by show b ≠ w.heap.size + 1 + 1 + 1 + 1; omega)
  have P1c : Blk ((w1.setCell ⟨w.heap.size + 1 + 1 + 1 + 1, 0, none⟩ (.int .i64 18)).setCell ⟨w.heap.size + 1 + 1 + 1 + 1, 1, none⟩ (.int .i64 2)) w.heap.size 108 #[.func (.func 86) #[] #[], .func (.func 87) #[] #[]] := (P1b.far (by show w.heap.size ≠ w.heap.size + 1 + 1 + 1 + 1; omega)).far (by show w.heap.size ≠ w.heap.size + 1 + 1 + 1 + 1; omega)
  have R1c : Blk ((w1.setCell ⟨w.heap.size + 1 + 1 + 1 + 1, 0, none⟩ (.int .i64 18)).setCell ⟨w.heap.size + 1 + 1 + 1 + 1, 1, none⟩ (.int .i64 2)) (w.heap.size + 1) 112 #[.int .i64 0, .int .i64 0] := (R1b.far (by show w.heap.size + 1 ≠ w.heap.size + 1 + 1 + 1 + 1; omega)).far (by show w.heap.size + 1 ≠ w.heap.size + 1 + 1 + 1 + 1; omega)
  have K1c : Blk ((w1.setCell ⟨w.heap.size + 1 + 1 + 1 + 1, 0, none⟩ (.int .i64 18)).setCell ⟨w.heap.size + 1 + 1 + 1 + 1, 1, none⟩ (.int .i64 2)) (w.heap.size + 1 + 1 + 1 + 1) 112 #[.int .i64 18, .int .i64 2] := (K1b.set_ 0 _).set_ 1 _
  have S1c : Below w.heap.size w ((w1.setCell ⟨w.heap.size + 1 + 1 + 1 + 1, 0, none⟩ (.int .i64 18)).setCell ⟨w.heap.size + 1 + 1 + 1 + 1, 1, none⟩ (.int .i64 2)) := ps (ps S1b (by show w.heap.size ≤ w.heap.size + 1 + 1 + 1 + 1; omega)) (by show w.heap.size ≤ w.heap.size + 1 + 1 + 1 + 1; omega)
  generalize (w1.setCell ⟨w.heap.size + 1 + 1 + 1 + 1, 0, none⟩ (.int .i64 18)).setCell ⟨w.heap.size + 1 + 1 + 1 + 1, 1, none⟩ (.int .i64 2) = v1 at *
  clear k0 k1 f0 f1 kl B1b P1b R1b K1b S1b
  rw [rounds_succ]
  have a4 := B1c.cellAt 4 rfl
  have a5 := B1c.cellAt 5 rfl
  have a6 := B1c.cellAt 6 rfl
  have a7 := B1c.cellAt 7 rfl
  have bl := B1c.lt
  go_wp2
  refine region_below 9 follows_mixed (by kernel_rfl) ?_
  intro C hC
  simp only [List.take_succ_cons, List.take_zero, List.drop_succ_cons, List.drop_zero]
  repeat (first
    | ((with_reducible refine quiet_plain rfl (fun K hK => ?_)); (focus (apply quiet_val; (focus (intro w' hw; obtain ⟨hcq, hfq⟩ := bcell ((hC.out _).1 hw); go_simp; (first | done | rfl))); (simp only [Act.put, List.setIfInBounds_toArray, List.set_cons_succ, List.set_cons_zero]); (with_reducible refine hK _ ?_); clear hK K)))
    | ((with_reducible refine quiet_skip ?_ ?_); (focus (first | (simp [Region.wanted, yielded]; done) | (simp [Region.wanted, yielded, undef]; done))); simp only [Act.put, List.setIfInBounds_toArray, List.set_cons_succ, List.set_cons_zero])
    | ((with_reducible refine quiet_go ?_ (fun K hK => ?_)); (focus (first | (simp [Region.wanted, yielded]; done) | (simp [Region.wanted, yielded, undef]; done))); (focus (apply quiet_val; (focus (intro w' hw; obtain ⟨hcq, hfq⟩ := bcell ((hC.out _).1 hw); go_simp; (first | done | rfl))); (simp only [Act.put, List.setIfInBounds_toArray, List.set_cons_succ, List.set_cons_zero]); (with_reducible refine hK _ ?_); clear hK K))))
  refine wpQuiet_nil ?_
  intro w1 hb1
  replace hb1 := (hC.out _).1 hb1
  clear hC C
  obtain ⟨hc1, hf1⟩ := bcell hb1
  have B2 := B1c.alloc.past hb1
  have P2 := P1c.alloc.past hb1
  have R2 := R1c.alloc.past hb1
  have K2 := K1c.alloc.past hb1
  have Q2 := (Blk.new v1 87 #[.int .i64 12, .int .i64 0, .int .i64 2, .int .i64 1]).past hb1
  have S2 := pt (pa S1c) hb1
  clear hb1 hc1 hf1 a4 a5 a6 a7 bl B1c P1c R1c K1c S1c
  have p0 := P2.cellAt 0 rfl
  have pl := P2.lt
  have k0 := K2.cellAt 0 rfl
  have k1 := K2.cellAt 1 rfl
  have kl := K2.lt
  have q0 := Q2.cellAt 0 rfl
  have q1 := Q2.cellAt 1 rfl
  have ql := Q2.lt
  go_wp2
  refine region_below 11 follows_mixed (by kernel_rfl) ?_
  intro C hC
  simp only [List.take_succ_cons, List.take_zero, List.drop_succ_cons, List.drop_zero]
  repeat (first
    | ((with_reducible refine quiet_plain rfl (fun K hK => ?_)); (focus (apply quiet_val; (focus (intro w' hw; obtain ⟨hcq, hfq⟩ := bcell ((hC.out _).1 hw); go_simp; (first | done | rfl | (with_reducible exact call_below hC hw (part_1 _ _ _))))); (simp only [Act.put, List.setIfInBounds_toArray, List.set_cons_succ, List.set_cons_zero]); (with_reducible refine hK _ ?_); clear hK K)))
    | ((with_reducible refine quiet_skip ?_ ?_); (focus (first | (simp [Region.wanted, yielded]; done) | (simp [Region.wanted, yielded, undef]; done))); simp only [Act.put, List.setIfInBounds_toArray, List.set_cons_succ, List.set_cons_zero])
    | ((with_reducible refine quiet_go ?_ (fun K hK => ?_)); (focus (first | (simp [Region.wanted, yielded]; done) | (simp [Region.wanted, yielded, undef]; done))); (focus (apply quiet_val; (focus (intro w' hw; obtain ⟨hcq, hfq⟩ := bcell ((hC.out _).1 hw); go_simp; (first | done | rfl | (with_reducible exact call_below hC hw (part_1 _ _ _))))); (simp only [Act.put, List.setIfInBounds_toArray, List.set_cons_succ, List.set_cons_zero]); (with_reducible refine hK _ ?_); clear hK K))))
  refine wpQuiet_nil ?_
  intro w1 hb1
  replace hb1 := (hC.out _).1 hb1
  clear hC C
  obtain ⟨hc1, hf1⟩ := bcell hb1
  have B2b := B2.past hb1
  have P2b := P2.past hb1
  have R2b := R2.past hb1
  have K2b := K2.past hb1
  have S2b := pt S2 hb1
  clear hb1 hc1 hf1 p0 pl k0 k1 kl q0 q1 ql B2 P2 R2 K2 Q2 S2
  have k0 := K2b.cellAt 0 rfl
  have k1 := K2b.cellAt 1 rfl
  have f0 := K2b.frozen 0
  have f1 := K2b.frozen 1
  have kl := K2b.lt
  go_wp2
  have B2c : Blk ((w1.setCell ⟨w.heap.size + 1 + 1 + 1 + 1, 0, none⟩ (.int .i64 30)).setCell ⟨w.heap.size + 1 + 1 + 1 + 1, 1, none⟩ (.int .i64 3)) b 87 #[.int .i64 12, .int .i64 0, .int .i64 1, .int .i64 1, .int .i64 12, .int .i64 0, .int .i64 2, .int .i64 1] := (B2b.far (by show b ≠ w.heap.size + 1 + 1 + 1 + 1; omega)).far (by show b ≠ w.heap.size + 1 + 1 + 1 + 1; omega)
  have P2c : Blk ((w1.setCell ⟨w.heap.size + 1 + 1 + 1 + 1, 0, none⟩ (.int .i64 30)).setCell ⟨w.heap.size + 1 + 1 + 1 + 1, 1, none⟩ (.int .i64 3)) w.heap.size 108 #[.func (.func 86) #[] #[], .func (.func 87) #[] #[]] := (P2b.far (by show w.heap.size ≠ w.heap.size + 1 + 1 + 1 + 1; omega)).far (by show w.heap.size ≠ w.heap.size + 1 + 1 + 1 + 1; omega)
  have R2c : Blk ((w1.setCell ⟨w.heap.size + 1 + 1 + 1 + 1, 0, none⟩ (.int .i64 30)).setCell ⟨w.heap.size + 1 + 1 + 1 + 1, 1, none⟩ (.int .i64 3)) (w.heap.size + 1) 112 #[.int .i64 0, .int .i64 0] := (R2b.far (by show w.heap.size + 1 ≠ w.heap.size + 1 + 1 + 1 + 1; omega)).far (by show w.heap.size + 1 ≠ w.heap.size + 1 + 1 + 1 + 1; omega)
  have K2c : Blk ((w1.setCell ⟨w.heap.size + 1 + 1 + 1 + 1, 0, none⟩ (.int .i64 30)).setCell ⟨w.heap.size + 1 + 1 + 1 + 1, 1, none⟩ (.int .i64 3)) (w.heap.size + 1 + 1 + 1 + 1) 112 #[.int .i64 30, .int .i64 3] := (K2b.set_ 0 _).set_ 1 _
  have S2c : Below w.heap.size w ((w1.setCell ⟨w.heap.size + 1 + 1 + 1 + 1, 0, none⟩ (.int .i64 30)).setCell ⟨w.heap.size + 1 + 1 + 1 + 1, 1, none⟩ (.int .i64 3)) := ps (ps S2b (by show w.heap.size ≤ w.heap.size + 1 + 1 + 1 + 1; omega)) (by show w.heap.size ≤ w.heap.size + 1 + 1 + 1 + 1; omega)
  generalize (w1.setCell ⟨w.heap.size + 1 + 1 + 1 + 1, 0, none⟩ (.int .i64 30)).setCell ⟨w.heap.size + 1 + 1 + 1 + 1, 1, none⟩ (.int .i64 3) = v2 at *
  clear k0 k1 f0 f1 kl B2b P2b R2b K2b S2b
  rw [rounds_succ]
  have k0 := K2c.cellAt 0 rfl
  have k1 := K2c.cellAt 1 rfl
  have kl := K2c.lt
  go_wp2_with ((with_reducible refine store_blk (T := 112) (x := .tmp 6) (y := .tmp 63) (vs := #[.int .i64 30, .int .i64 3]) R2c ?_ ?_ ?_ ?_ ?_ ?_); (focus rfl); (focus exact bus_size); (focus (simp [Value.oneCell']; done)); (focus rfl); (focus rfl); intro WF RF PF)
  have g0 := RF.cellAt 0 rfl
  have g1 := RF.cellAt 1 rfl
  exact bodyPost_ret (v := .agg #[.int .i64 30, .int .i64 3]) (by simp [results, Tryz.results42, go_sem, g0, g1]) rfl ⟨rfl, pp S2c PF (by omega)⟩
set_option maxHeartbeats 8000000 in
set_option maxRecDepth 100000 in
theorem busOf_Q (b c : Nat) (w : World) (hB : Blk w b 87 #[.int .i64 12, .int .i64 0, .int .i64 1, .int .i64 1, .int .i64 12, .int .i64 0, .int .i64 2, .int .i64 1]) :
    Calls Tryz.prog 42 #[.slice (some ⟨b, 0, none⟩) 2 c, .int .i64 0, .agg #[.func (.func 88) #[] #[], .func (.func 89) #[] #[]]] w fun r w' => r = .returned (.agg #[.int .i64 0, .int .i64 3]) ∧ Below w.heap.size w w' := by
  have hlt := hB.lt
  have hlt1 : b < w.heap.size + 1 := by omega
  have hlt2 : b < w.heap.size + 1 + 1 := by omega
  have hlt3 : b < w.heap.size + 1 + 1 + 1 := by omega
  have hlt4 : b < w.heap.size + 1 + 1 + 1 + 1 := by omega
  have hlt5 : b < w.heap.size + 1 + 1 + 1 + 1 + 1 := by omega
  have hlt6 : b < w.heap.size + 1 + 1 + 1 + 1 + 1 + 1 := by omega
  have a0 := hB.cellAt 0 rfl
  have a1 := hB.cellAt 1 rfl
  have a2 := hB.cellAt 2 rfl
  have a3 := hB.cellAt 3 rfl
  have a4 := hB.cellAt 4 rfl
  have a5 := hB.cellAt 5 rfl
  have a6 := hB.cellAt 6 rfl
  have a7 := hB.cellAt 7 rfl
  have z1 : IntKind.i64.wrap 1 = 1 := by decide
  have z2 : IntKind.i64.wrap 2 = 2 := by decide
  have z0 : IntKind.i64.wrap 0 = 0 := by decide
  have z12 : IntKind.i64.wrap 12 = 12 := by decide
  have z24 : IntKind.i64.wrap 24 = 24 := by decide
  have z18 : IntKind.i64.wrap 18 = 18 := by decide
  have z30 : IntKind.i64.wrap 30 = 30 := by decide
  go_enter Tryz.func42, Tryz.ntmps42
  go_wp2
  refine wp_loop_rounds 3 ?_
  rw [rounds_succ]
  go_wp2
  rw [rounds_succ]
  go_wp2
  rw [rounds_succ]
  go_wp2
  refine wp_loop_rounds 3 ?_
  rw [rounds_succ]
  go_wp2
  refine region_below 9 follows_mixed (by kernel_rfl) ?_
  intro C hC
  simp only [List.take_succ_cons, List.take_zero, List.drop_succ_cons, List.drop_zero]
  repeat (first
    | ((with_reducible refine quiet_plain rfl (fun K hK => ?_)); (focus (apply quiet_val; (focus (intro w' hw; obtain ⟨hcq, hfq⟩ := bcell ((hC.out _).1 hw); go_simp; (first | done | rfl))); (simp only [Act.put, List.setIfInBounds_toArray, List.set_cons_succ, List.set_cons_zero]); (with_reducible refine hK _ ?_); clear hK K)))
    | ((with_reducible refine quiet_skip ?_ ?_); (focus (first | (simp [Region.wanted, yielded]; done) | (simp [Region.wanted, yielded, undef]; done))); simp only [Act.put, List.setIfInBounds_toArray, List.set_cons_succ, List.set_cons_zero])
    | ((with_reducible refine quiet_go ?_ (fun K hK => ?_)); (focus (first | (simp [Region.wanted, yielded]; done) | (simp [Region.wanted, yielded, undef]; done))); (focus (apply quiet_val; (focus (intro w' hw; obtain ⟨hcq, hfq⟩ := bcell ((hC.out _).1 hw); go_simp; (first | done | rfl))); (simp only [Act.put, List.setIfInBounds_toArray, List.set_cons_succ, List.set_cons_zero]); (with_reducible refine hK _ ?_); clear hK K))))
  refine wpQuiet_nil ?_
  intro w1 hb1
  replace hb1 := (hC.out _).1 hb1
  clear hC C
  obtain ⟨hc1, hf1⟩ := bcell hb1
  have B1 := hB.alloc.alloc.alloc.alloc.alloc.alloc.past hb1
  have P1 : Blk w1 w.heap.size 108 #[.func (.func 88) #[] #[], .func (.func 89) #[] #[]] := (Blk.newAt rfl).alloc.alloc.alloc.alloc.alloc.past hb1
  have R1 : Blk w1 (w.heap.size + 1) 112 #[.int .i64 0, .int .i64 0] := (Blk.newAt (by simp)).alloc.alloc.alloc.alloc.past hb1
  have K1 : Blk w1 (w.heap.size + 1 + 1 + 1 + 1) 112 #[.int .i64 0, .int .i64 0] := (Blk.newAt (by simp)).alloc.past hb1
  have Q1 : Blk w1 (w.heap.size + 1 + 1 + 1 + 1 + 1) 87 #[.int .i64 12, .int .i64 0, .int .i64 1, .int .i64 1] := (Blk.newAt (by simp)).past hb1
  have S1 := pt (pa (pa (pa (pa (pa (pa pr)))))) hb1
  clear hb1 hc1 hf1 a0 a1 a2 a3 a4 a5 a6 a7
  have p0 := P1.cellAt 0 rfl
  have pl := P1.lt
  have k0 := K1.cellAt 0 rfl
  have k1 := K1.cellAt 1 rfl
  have kl := K1.lt
  have q0 := Q1.cellAt 0 rfl
  have q1 := Q1.cellAt 1 rfl
  have ql := Q1.lt
  go_wp2
  refine region_below 11 follows_mixed (by kernel_rfl) ?_
  intro C hC
  simp only [List.take_succ_cons, List.take_zero, List.drop_succ_cons, List.drop_zero]
  repeat (first
    | ((with_reducible refine quiet_plain rfl (fun K hK => ?_)); (focus (apply quiet_val; (focus (intro w' hw; obtain ⟨hcq, hfq⟩ := bcell ((hC.out _).1 hw); go_simp; (first | done | rfl | (with_reducible exact call_below hC hw (part_3 _ _ _))))); (simp only [Act.put, List.setIfInBounds_toArray, List.set_cons_succ, List.set_cons_zero]); (with_reducible refine hK _ ?_); clear hK K)))
    | ((with_reducible refine quiet_skip ?_ ?_); (focus (first | (simp [Region.wanted, yielded]; done) | (simp [Region.wanted, yielded, undef]; done))); simp only [Act.put, List.setIfInBounds_toArray, List.set_cons_succ, List.set_cons_zero])
    | ((with_reducible refine quiet_go ?_ (fun K hK => ?_)); (focus (first | (simp [Region.wanted, yielded]; done) | (simp [Region.wanted, yielded, undef]; done))); (focus (apply quiet_val; (focus (intro w' hw; obtain ⟨hcq, hfq⟩ := bcell ((hC.out _).1 hw); go_simp; (first | done | rfl | (with_reducible exact call_below hC hw (part_3 _ _ _))))); (simp only [Act.put, List.setIfInBounds_toArray, List.set_cons_succ, List.set_cons_zero]); (with_reducible refine hK _ ?_); clear hK K))))
  refine wpQuiet_nil ?_
  intro w1 hb1
  replace hb1 := (hC.out _).1 hb1
  clear hC C
  obtain ⟨hc1, hf1⟩ := bcell hb1
  have B1b := B1.past hb1
  have P1b := P1.past hb1
  have R1b := R1.past hb1
  have K1b := K1.past hb1
  have S1b := pt S1 hb1
  clear hb1 hc1 hf1 p0 pl k0 k1 kl q0 q1 ql B1 P1 R1 K1 Q1 S1
  have k0 := K1b.cellAt 0 rfl
  have k1 := K1b.cellAt 1 rfl
  have f0 := K1b.frozen 0
  have f1 := K1b.frozen 1
  have kl := K1b.lt
  go_wp2
  have B1c : Blk ((w1.setCell ⟨w.heap.size + 1 + 1 + 1 + 1, 0, none⟩ (.int .i64 0)).setCell ⟨w.heap.size + 1 + 1 + 1 + 1, 1, none⟩ (.int .i64 2)) b 87 #[.int .i64 12, .int .i64 0, .int .i64 1, .int .i64 1, .int .i64 12, .int .i64 0, .int .i64 2, .int .i64 1] := (B1b.far (by show b ≠ w.heap.size + 1 + 1 + 1 + 1; omega)).far (by show b ≠ w.heap.size + 1 + 1 + 1 + 1; omega)
  have P1c : Blk ((w1.setCell ⟨w.heap.size + 1 + 1 + 1 + 1, 0, none⟩ (.int .i64 0)).setCell ⟨w.heap.size + 1 + 1 + 1 + 1, 1, none⟩ (.int .i64 2)) w.heap.size 108 #[.func (.func 88) #[] #[], .func (.func 89) #[] #[]] := (P1b.far (by show w.heap.size ≠ w.heap.size + 1 + 1 + 1 + 1; omega)).far (by show w.heap.size ≠ w.heap.size + 1 + 1 + 1 + 1; omega)
  have R1c : Blk ((w1.setCell ⟨w.heap.size + 1 + 1 + 1 + 1, 0, none⟩ (.int .i64 0)).setCell ⟨w.heap.size + 1 + 1 + 1 + 1, 1, none⟩ (.int .i64 2)) (w.heap.size + 1) 112 #[.int .i64 0, .int .i64 0] := (R1b.far (by show w.heap.size + 1 ≠ w.heap.size + 1 + 1 + 1 + 1; omega)).far (by show w.heap.size + 1 ≠ w.heap.size + 1 + 1 + 1 + 1; omega)
  have K1c : Blk ((w1.setCell ⟨w.heap.size + 1 + 1 + 1 + 1, 0, none⟩ (.int .i64 0)).setCell ⟨w.heap.size + 1 + 1 + 1 + 1, 1, none⟩ (.int .i64 2)) (w.heap.size + 1 + 1 + 1 + 1) 112 #[.int .i64 0, .int .i64 2] := (K1b.set_ 0 _).set_ 1 _
  have S1c : Below w.heap.size w ((w1.setCell ⟨w.heap.size + 1 + 1 + 1 + 1, 0, none⟩ (.int .i64 0)).setCell ⟨w.heap.size + 1 + 1 + 1 + 1, 1, none⟩ (.int .i64 2)) := ps (ps S1b (by show w.heap.size ≤ w.heap.size + 1 + 1 + 1 + 1; omega)) (by show w.heap.size ≤ w.heap.size + 1 + 1 + 1 + 1; omega)
  generalize (w1.setCell ⟨w.heap.size + 1 + 1 + 1 + 1, 0, none⟩ (.int .i64 0)).setCell ⟨w.heap.size + 1 + 1 + 1 + 1, 1, none⟩ (.int .i64 2) = v1 at *
  clear k0 k1 f0 f1 kl B1b P1b R1b K1b S1b
  rw [rounds_succ]
  have a4 := B1c.cellAt 4 rfl
  have a5 := B1c.cellAt 5 rfl
  have a6 := B1c.cellAt 6 rfl
  have a7 := B1c.cellAt 7 rfl
  have bl := B1c.lt
  go_wp2
  refine region_below 9 follows_mixed (by kernel_rfl) ?_
  intro C hC
  simp only [List.take_succ_cons, List.take_zero, List.drop_succ_cons, List.drop_zero]
  repeat (first
    | ((with_reducible refine quiet_plain rfl (fun K hK => ?_)); (focus (apply quiet_val; (focus (intro w' hw; obtain ⟨hcq, hfq⟩ := bcell ((hC.out _).1 hw); go_simp; (first | done | rfl))); (simp only [Act.put, List.setIfInBounds_toArray, List.set_cons_succ, List.set_cons_zero]); (with_reducible refine hK _ ?_); clear hK K)))
    | ((with_reducible refine quiet_skip ?_ ?_); (focus (first | (simp [Region.wanted, yielded]; done) | (simp [Region.wanted, yielded, undef]; done))); simp only [Act.put, List.setIfInBounds_toArray, List.set_cons_succ, List.set_cons_zero])
    | ((with_reducible refine quiet_go ?_ (fun K hK => ?_)); (focus (first | (simp [Region.wanted, yielded]; done) | (simp [Region.wanted, yielded, undef]; done))); (focus (apply quiet_val; (focus (intro w' hw; obtain ⟨hcq, hfq⟩ := bcell ((hC.out _).1 hw); go_simp; (first | done | rfl))); (simp only [Act.put, List.setIfInBounds_toArray, List.set_cons_succ, List.set_cons_zero]); (with_reducible refine hK _ ?_); clear hK K))))
  refine wpQuiet_nil ?_
  intro w1 hb1
  replace hb1 := (hC.out _).1 hb1
  clear hC C
  obtain ⟨hc1, hf1⟩ := bcell hb1
  have B2 := B1c.alloc.past hb1
  have P2 := P1c.alloc.past hb1
  have R2 := R1c.alloc.past hb1
  have K2 := K1c.alloc.past hb1
  have Q2 := (Blk.new v1 87 #[.int .i64 12, .int .i64 0, .int .i64 2, .int .i64 1]).past hb1
  have S2 := pt (pa S1c) hb1
  clear hb1 hc1 hf1 a4 a5 a6 a7 bl B1c P1c R1c K1c S1c
  have p0 := P2.cellAt 0 rfl
  have pl := P2.lt
  have k0 := K2.cellAt 0 rfl
  have k1 := K2.cellAt 1 rfl
  have kl := K2.lt
  have q0 := Q2.cellAt 0 rfl
  have q1 := Q2.cellAt 1 rfl
  have ql := Q2.lt
  go_wp2
  refine region_below 11 follows_mixed (by kernel_rfl) ?_
  intro C hC
  simp only [List.take_succ_cons, List.take_zero, List.drop_succ_cons, List.drop_zero]
  repeat (first
    | ((with_reducible refine quiet_plain rfl (fun K hK => ?_)); (focus (apply quiet_val; (focus (intro w' hw; obtain ⟨hcq, hfq⟩ := bcell ((hC.out _).1 hw); go_simp; (first | done | rfl | (with_reducible exact call_below hC hw (part_3 _ _ _))))); (simp only [Act.put, List.setIfInBounds_toArray, List.set_cons_succ, List.set_cons_zero]); (with_reducible refine hK _ ?_); clear hK K)))
    | ((with_reducible refine quiet_skip ?_ ?_); (focus (first | (simp [Region.wanted, yielded]; done) | (simp [Region.wanted, yielded, undef]; done))); simp only [Act.put, List.setIfInBounds_toArray, List.set_cons_succ, List.set_cons_zero])
    | ((with_reducible refine quiet_go ?_ (fun K hK => ?_)); (focus (first | (simp [Region.wanted, yielded]; done) | (simp [Region.wanted, yielded, undef]; done))); (focus (apply quiet_val; (focus (intro w' hw; obtain ⟨hcq, hfq⟩ := bcell ((hC.out _).1 hw); go_simp; (first | done | rfl | (with_reducible exact call_below hC hw (part_3 _ _ _))))); (simp only [Act.put, List.setIfInBounds_toArray, List.set_cons_succ, List.set_cons_zero]); (with_reducible refine hK _ ?_); clear hK K))))
  refine wpQuiet_nil ?_
  intro w1 hb1
  replace hb1 := (hC.out _).1 hb1
  clear hC C
  obtain ⟨hc1, hf1⟩ := bcell hb1
  have B2b := B2.past hb1
  have P2b := P2.past hb1
  have R2b := R2.past hb1
  have K2b := K2.past hb1
  have S2b := pt S2 hb1
  clear hb1 hc1 hf1 p0 pl k0 k1 kl q0 q1 ql B2 P2 R2 K2 Q2 S2
  have k0 := K2b.cellAt 0 rfl
  have k1 := K2b.cellAt 1 rfl
  have f0 := K2b.frozen 0
  have f1 := K2b.frozen 1
  have kl := K2b.lt
  go_wp2
  have B2c : Blk ((w1.setCell ⟨w.heap.size + 1 + 1 + 1 + 1, 0, none⟩ (.int .i64 0)).setCell ⟨w.heap.size + 1 + 1 + 1 + 1, 1, none⟩ (.int .i64 3)) b 87 #[.int .i64 12, .int .i64 0, .int .i64 1, .int .i64 1, .int .i64 12, .int .i64 0, .int .i64 2, .int .i64 1] := (B2b.far (by show b ≠ w.heap.size + 1 + 1 + 1 + 1; omega)).far (by show b ≠ w.heap.size + 1 + 1 + 1 + 1; omega)
  have P2c : Blk ((w1.setCell ⟨w.heap.size + 1 + 1 + 1 + 1, 0, none⟩ (.int .i64 0)).setCell ⟨w.heap.size + 1 + 1 + 1 + 1, 1, none⟩ (.int .i64 3)) w.heap.size 108 #[.func (.func 88) #[] #[], .func (.func 89) #[] #[]] := (P2b.far (by show w.heap.size ≠ w.heap.size + 1 + 1 + 1 + 1; omega)).far (by show w.heap.size ≠ w.heap.size + 1 + 1 + 1 + 1; omega)
  have R2c : Blk ((w1.setCell ⟨w.heap.size + 1 + 1 + 1 + 1, 0, none⟩ (.int .i64 0)).setCell ⟨w.heap.size + 1 + 1 + 1 + 1, 1, none⟩ (.int .i64 3)) (w.heap.size + 1) 112 #[.int .i64 0, .int .i64 0] := (R2b.far (by show w.heap.size + 1 ≠ w.heap.size + 1 + 1 + 1 + 1; omega)).far (by show w.heap.size + 1 ≠ w.heap.size + 1 + 1 + 1 + 1; omega)
  have K2c : Blk ((w1.setCell ⟨w.heap.size + 1 + 1 + 1 + 1, 0, none⟩ (.int .i64 0)).setCell ⟨w.heap.size + 1 + 1 + 1 + 1, 1, none⟩ (.int .i64 3)) (w.heap.size + 1 + 1 + 1 + 1) 112 #[.int .i64 0, .int .i64 3] := (K2b.set_ 0 _).set_ 1 _
  have S2c : Below w.heap.size w ((w1.setCell ⟨w.heap.size + 1 + 1 + 1 + 1, 0, none⟩ (.int .i64 0)).setCell ⟨w.heap.size + 1 + 1 + 1 + 1, 1, none⟩ (.int .i64 3)) := ps (ps S2b (by show w.heap.size ≤ w.heap.size + 1 + 1 + 1 + 1; omega)) (by show w.heap.size ≤ w.heap.size + 1 + 1 + 1 + 1; omega)
  generalize (w1.setCell ⟨w.heap.size + 1 + 1 + 1 + 1, 0, none⟩ (.int .i64 0)).setCell ⟨w.heap.size + 1 + 1 + 1 + 1, 1, none⟩ (.int .i64 3) = v2 at *
  clear k0 k1 f0 f1 kl B2b P2b R2b K2b S2b
  rw [rounds_succ]
  have k0 := K2c.cellAt 0 rfl
  have k1 := K2c.cellAt 1 rfl
  have kl := K2c.lt
  go_wp2_with ((with_reducible refine store_blk (T := 112) (x := .tmp 6) (y := .tmp 63) (vs := #[.int .i64 0, .int .i64 3]) R2c ?_ ?_ ?_ ?_ ?_ ?_); (focus rfl); (focus exact bus_size); (focus (simp [Value.oneCell']; done)); (focus rfl); (focus rfl); intro WF RF PF)
  have g0 := RF.cellAt 0 rfl
  have g1 := RF.cellAt 1 rfl
  exact bodyPost_ret (v := .agg #[.int .i64 0, .int .i64 3]) (by simp [results, Tryz.results42, go_sem, g0, g1]) rfl ⟨rfl, pp S2c PF (by omega)⟩

end Go.Proofs.YtpdkbhjcpddnpaaGreatDoor
end

section
namespace Go.Proofs.YtpdkbhjcpddnpaaGreatDoor
open Go.RowKit
attribute [local go_sem ↓] Go.wp_at_zero Go.wp_at_succ

theorem un_f (e : Int) (w : World) : Calls Tryz.prog 46 #[.bool false, .int .i64 e] w fun r w' => r = .returned (.int .i64 e) ∧ w = w' := unless_any false e w
def SrcE3 (s : Src) : Prop := ∀ p q n d, s = ⟨p, q, n, d⟩ → srcE ⟨p, q, n, d⟩ = firstV [phE p q, unlessV (lowestB n d) 3, unlessV (withinB n 1 100 && decide (d ≤ 100)) 2]
theorem srcE3_of (s : Src) : SrcE3 s := fun _ _ _ _ _ => rfl
set_option maxHeartbeats 8000000 in
set_option maxRecDepth 100000 in
theorem srcErr_none (B : Nat) (ls : List Src) (A : Option Addr) (c : Nat) (p q : Int) (w : World) (_hr : SrcsIn B w A ls) (_hB : B ≤ w.heap.size) (_h64 : ∀ s ∈ ls, Src64 s) (h0 : ls.length = 0) :
    Calls Tryz.prog 40 #[.slice A ls.length c, .agg #[.int .i64 p, .int .i64 q]] w fun r w' => r = .returned (.int .i64 10) ∧ Below w.heap.size w w' := by
  clear _hr _h64
  generalize ls.length = n at *
  subst h0
  go_enter Tryz.func40, Tryz.ntmps40
  go_wp2_with (first
    | (go_at_call 46; (with_reducible refine (un_t _ _).mono ?_); rintro e w' ⟨rfl, rfl⟩)
    | (go_at_call 46; (with_reducible refine (un_f _ _).mono ?_); rintro e w' ⟨rfl, rfl⟩)
    | (go_at_call 45; refine (gfirst2 _ _ _ _ _ (by first | (go_simp; done) | (go_simp; rfl)) (by first | (go_simp; done) | (go_simp; rfl)) 10 rfl).mono ?_; rintro e w' ⟨rfl, rfl⟩))
  go_ret
  exact ⟨rfl, by repeat (first | exact pr | refine pa ?_)⟩

set_option maxHeartbeats 8000000 in
set_option maxRecDepth 100000 in
theorem srcErr_many (B : Nat) (ls : List Src) (A : Option Addr) (c : Nat) (p q : Int) (w : World) (_hr : SrcsIn B w A ls) (_hB : B ≤ w.heap.size) (_h64 : ∀ s ∈ ls, Src64 s) (h0 : 4 < ls.length) :
    Calls Tryz.prog 40 #[.slice A ls.length c, .agg #[.int .i64 p, .int .i64 q]] w fun r w' => r = .returned (.int .i64 8) ∧ Below w.heap.size w w' := by
  clear _hr _h64
  generalize ls.length = n at *
  have e1 : (0 : Int) < (n : Int) := by omega
  have e2 : ¬ (n : Int) ≤ 4 := by omega
  have e3 : 0 < n := by omega
  have e4 : ¬ n ≤ 4 := by omega
  clear h0
  go_enter Tryz.func40, Tryz.ntmps40
  go_wp2_with (first
    | (go_at_call 46; (with_reducible refine (unless_any _ _ _).mono ?_); rintro e w' ⟨rfl, rfl⟩)
    | (go_at_call 45; refine (gfirst2 _ _ _ _ _ (by first | (go_simp; done) | (go_simp; rfl)) (by first | (go_simp; done) | (go_simp; rfl)) 8 (by first | rfl | (simp [firstV, unlessV]; done) | (simp [firstV, unlessV]; omega))).mono ?_; rintro e w' ⟨rfl, rfl⟩))
  go_ret
  exact ⟨rfl, by repeat (first | exact pr | refine pa ?_)⟩

set_option maxHeartbeats 8000000 in
set_option maxRecDepth 100000 in
theorem srcErr_some (B : Nat) (ls : List Src) (A : Option Addr) (c : Nat) (p q : Int) (w : World) (hr : SrcsIn B w A ls) (hB : B ≤ w.heap.size) (h64 : ∀ s ∈ ls, Src64 s) (h0 : 0 < ls.length) (h4 : ls.length ≤ 4) :
    Calls Tryz.prog 40 #[.slice A ls.length c, .agg #[.int .i64 p, .int .i64 q]] w fun r w' => r = .returned (.int .i64 (if srcsE ls = 0 then phE p q else srcsE ls)) ∧ Below w.heap.size w w' := by
  have e1 : (0 : Int) < (ls.length : Int) := by omega
  have e2 : (ls.length : Int) ≤ 4 := by omega
  have e3 := h4
  have HX := Lib.hid (fun W (hb : Below w.heap.size w W) => ((hr.more hB).below hb).more hb.size)
  have HPh := Lib.hid (fun w' => phasorErr_any p q w')
  have H64 := Lib.hid h64
  clear hr h64 hB h4
  generalize hRv : (if srcsE ls = 0 then phE p q else srcsE ls) = R
  have HRv := Lib.hid hRv
  clear hRv
  go_enter Tryz.func40, Tryz.ntmps40
  go_wp2_with (first
    | (go_at_call 46; (with_reducible refine (un_t _ _).mono ?_); rintro e w' ⟨rfl, rfl⟩)
    | (go_at_call 45; refine (gfirst2 _ _ _ _ _ (by first | (go_simp; done) | (go_simp; rfl)) (by first | (go_simp; done) | (go_simp; rfl)) 0 rfl).mono ?_; rintro e w' ⟨rfl, rfl⟩))
  go_loopw [25] (fun iv wr => ∃ i : Nat, iv = .int .i64 (i : Int) ∧ i ≤ ls.length ∧ srcsE ls = srcsE (ls.drop i) ∧ Blk wr w.heap.size 24 #[.int .i64 p, .int .i64 q] ∧ Below w.heap.size w wr) (fun iv _ => ls.length - (intOf iv).toNat)
  case atStart => exact ⟨0, rfl, Nat.zero_le _, rfl, (Blk.newAt rfl).alloc, by repeat (first | exact pr | refine pa ?_)⟩
  case round =>
    as_aux_lemma =>
    obtain ⟨i, rfl, hi, hs, hL, hq⟩ := hrel
    have HQ := Lib.hid hq
    have HS := Lib.hid hs
    have HL := Lib.hid hL
    have i0 := src_cast i
    clear hq hs hL
    by_cases hlt : i < ls.length
    · have i1 := src_lt hlt
      obtain ⟨b, off, hA, hb, hct⟩ := (HX.out _ HQ.out).at_ hlt
      subst hA
      obtain ⟨u0, u1, u2, u3⟩ := hct i hlt
      have hs64 := H64.out (ls.getD i default) (by rw [List.getD_eq_getElem?_getD, List.getElem?_eq_getElem hlt]; exact List.getElem_mem _)
      have HN := Lib.hid (srcsE_at hlt)
      have hn3 : SrcE3 (ls.getD i default) := srcE3_of _
      clear hct
      generalize ls.getD i default = s at *
      obtain ⟨sp, sq, sn, sd⟩ := s
      have u0 : wr.cell? ⟨b, off + i * 4, none⟩ = some (.int .i64 sp) := u0
      have u1 : wr.cell? ⟨b, off + i * 4 + 1, none⟩ = some (.int .i64 sq) := u1
      have u2 : wr.cell? ⟨b, off + i * 4 + 2, none⟩ = some (.int .i64 sn) := u2
      have u3 : wr.cell? ⟨b, off + i * 4 + 3, none⟩ = some (.int .i64 sd) := u3
      have HP := Lib.hid (fun w' => phasorErr_any sp sq w')
      have HI := Lib.hid (fun w' => isLowest_all sn sd hs64.2.2.1 hs64.2.2.2 w')
      have HW := Lib.hid (fun w' => within_any sn 1 100 w')
      have hn3 := hn3 sp sq sn sd rfl
      clear hs64
      generalize srcE ⟨sp, sq, sn, sd⟩ = E at *
      generalize phE sp sq = E1 at *
      generalize lowestB sn sd = E2 at *
      generalize withinB sn 1 100 = E3 at *
      have HN3 := Lib.hid hn3
      clear hn3
      cases E2 with
      | false =>
        cases E3 with
        | false =>
          have hn3 : E = firstV [E1, 3, 2] := HN3.out
          have HV := Lib.hid (show firstV [E1, 3, 2] = E from hn3.symm)
          clear hn3
          go_wp2
          refine region_below 15 follows_mixed (by kernel_rfl) ?_
          intro C hC
          simp only [List.take_succ_cons, List.take_zero, List.drop_succ_cons, List.drop_zero]
          repeat (first
            | ((with_reducible refine quiet_plain rfl (fun K hK => ?_)); (focus (apply quiet_val; (focus (intro w' hw; obtain ⟨hcq, hfq⟩ := bcell ((hC.out _).1 hw); go_simp; (first | done | rfl | (with_reducible exact call_below hC hw (HP.out _)) | (with_reducible exact call_below hC hw (HI.out _)) | (with_reducible exact call_same hw (un_f _ _)) | (with_reducible exact call_same hw (HW.out _))))); (simp only [Act.put, List.setIfInBounds_toArray, List.set_cons_succ, List.set_cons_zero]); (with_reducible refine hK _ ?_); clear hK K)))
            | ((with_reducible refine quiet_skip ?_ ?_); (focus (first | (simp [Region.wanted, yielded]; done) | (simp [Region.wanted, yielded, undef]; done))); simp only [Act.put, List.setIfInBounds_toArray, List.set_cons_succ, List.set_cons_zero])
            | ((with_reducible refine quiet_go ?_ (fun K hK => ?_)); (focus (first | (simp [Region.wanted, yielded]; done) | (simp [Region.wanted, yielded, undef]; done))); (focus (apply quiet_val; (focus (intro w' hw; obtain ⟨hcq, hfq⟩ := bcell ((hC.out _).1 hw); go_simp; (first | done | rfl | (with_reducible exact call_below hC hw (HP.out _)) | (with_reducible exact call_below hC hw (HI.out _)) | (with_reducible exact call_same hw (un_f _ _)) | (with_reducible exact call_same hw (HW.out _))))); (simp only [Act.put, List.setIfInBounds_toArray, List.set_cons_succ, List.set_cons_zero]); (with_reducible refine hK _ ?_); clear hK K))))
          refine wpQuiet_nil ?_
          intro w1 hb1
          replace hb1 := (hC.out _).1 hb1
          clear hC C
          obtain ⟨hc1, hf1⟩ := bcell hb1
          have HL1 := Lib.hid ((HL.out.alloc.alloc).past hb1)
          have HQ1 := Lib.hid (pt (pa (pa HQ.out)) hb1)
          clear hb1 hc1 hf1 u0 u1 u2 u3
          by_cases hE : E = 0
          · subst hE
            have HN := Lib.hid (show srcsE (ls.drop i) = srcsE (ls.drop (i + 1)) by rw [HN.out, if_pos rfl])
            go_wp2_with (go_at_call 45; refine (gfirst3 _ _ _ _ _ _ (by first | (go_simp; done) | (go_simp; rfl)) (by first | (go_simp; done) | (go_simp; rfl)) (by first | (go_simp; done) | (go_simp; rfl)) 0 HV.out).mono ?_; rintro e w' ⟨rfl, rfl⟩)
            go_roundw
            case rel => exact ⟨i + 1, src_succ _, Nat.succ_le_of_lt hlt, HS.out.trans HN.out, HL1.out.alloc, pa HQ1.out⟩
            case measure => exact src_meas hlt
          · have hEb : (E != 0) = true := by simpa using hE
            have HN := Lib.hid (show R = E by rw [← HRv.out, HS.out, HN.out, if_neg hE, if_neg hE])
            go_wp2_with (go_at_call 45; refine (gfirst3 _ _ _ _ _ _ (by first | (go_simp; done) | (go_simp; rfl)) (by first | (go_simp; done) | (go_simp; rfl)) (by first | (go_simp; done) | (go_simp; rfl)) E HV.out).mono ?_; rintro e w' ⟨rfl, rfl⟩)
            go_ret
            exact ⟨by first | (rw [HN.out]; done) | (rw [HN.out]; rfl), pa HQ1.out⟩
        | true =>
          by_cases hd : sd ≤ 100
          · have hd2 : decide (sd ≤ 100) = true := decide_eq_true hd
            have hn3 : E = firstV [E1, 3, 0] := by have h := HN3.out; rw [hd2] at h; exact h
            have HV := Lib.hid (show firstV [E1, 3, 0] = E from hn3.symm)
            clear hn3
            go_wp2
            refine region_below 15 follows_mixed (by kernel_rfl) ?_
            intro C hC
            simp only [List.take_succ_cons, List.take_zero, List.drop_succ_cons, List.drop_zero]
            repeat (first
              | ((with_reducible refine quiet_plain rfl (fun K hK => ?_)); (focus (apply quiet_val; (focus (intro w' hw; obtain ⟨hcq, hfq⟩ := bcell ((hC.out _).1 hw); go_simp; (first | done | rfl | (with_reducible exact call_below hC hw (HP.out _)) | (with_reducible exact call_below hC hw (HI.out _)) | (with_reducible exact call_same hw (un_f _ _)) | (with_reducible exact call_same hw (un_t _ _)) | (with_reducible exact call_same hw (HW.out _))))); (simp only [Act.put, List.setIfInBounds_toArray, List.set_cons_succ, List.set_cons_zero]); (with_reducible refine hK _ ?_); clear hK K)))
              | ((with_reducible refine quiet_skip ?_ ?_); (focus (first | (simp [Region.wanted, yielded]; done) | (simp [Region.wanted, yielded, undef]; done))); simp only [Act.put, List.setIfInBounds_toArray, List.set_cons_succ, List.set_cons_zero])
              | ((with_reducible refine quiet_go ?_ (fun K hK => ?_)); (focus (first | (simp [Region.wanted, yielded]; done) | (simp [Region.wanted, yielded, undef]; done))); (focus (apply quiet_val; (focus (intro w' hw; obtain ⟨hcq, hfq⟩ := bcell ((hC.out _).1 hw); go_simp; (first | done | rfl | (with_reducible exact call_below hC hw (HP.out _)) | (with_reducible exact call_below hC hw (HI.out _)) | (with_reducible exact call_same hw (un_f _ _)) | (with_reducible exact call_same hw (un_t _ _)) | (with_reducible exact call_same hw (HW.out _))))); (simp only [Act.put, List.setIfInBounds_toArray, List.set_cons_succ, List.set_cons_zero]); (with_reducible refine hK _ ?_); clear hK K))))
            refine wpQuiet_nil ?_
            intro w1 hb1
            replace hb1 := (hC.out _).1 hb1
            clear hC C
            obtain ⟨hc1, hf1⟩ := bcell hb1
            have HL1 := Lib.hid ((HL.out.alloc.alloc).past hb1)
            have HQ1 := Lib.hid (pt (pa (pa HQ.out)) hb1)
            clear hb1 hc1 hf1 u0 u1 u2 u3
            by_cases hE : E = 0
            · subst hE
              have HN := Lib.hid (show srcsE (ls.drop i) = srcsE (ls.drop (i + 1)) by rw [HN.out, if_pos rfl])
              go_wp2_with (go_at_call 45; refine (gfirst3 _ _ _ _ _ _ (by first | (go_simp; done) | (go_simp; rfl)) (by first | (go_simp; done) | (go_simp; rfl)) (by first | (go_simp; done) | (go_simp; rfl)) 0 HV.out).mono ?_; rintro e w' ⟨rfl, rfl⟩)
              go_roundw
              case rel => exact ⟨i + 1, src_succ _, Nat.succ_le_of_lt hlt, HS.out.trans HN.out, HL1.out.alloc, pa HQ1.out⟩
              case measure => exact src_meas hlt
            · have hEb : (E != 0) = true := by simpa using hE
              have HN := Lib.hid (show R = E by rw [← HRv.out, HS.out, HN.out, if_neg hE, if_neg hE])
              go_wp2_with (go_at_call 45; refine (gfirst3 _ _ _ _ _ _ (by first | (go_simp; done) | (go_simp; rfl)) (by first | (go_simp; done) | (go_simp; rfl)) (by first | (go_simp; done) | (go_simp; rfl)) E HV.out).mono ?_; rintro e w' ⟨rfl, rfl⟩)
              go_ret
              exact ⟨by first | (rw [HN.out]; done) | (rw [HN.out]; rfl), pa HQ1.out⟩
          · have hd2 : decide (sd ≤ 100) = false := decide_eq_false hd
            have hd3 : 100 < sd := Int.not_le.1 hd
            have hn3 : E = firstV [E1, 3, 2] := by have h := HN3.out; rw [hd2] at h; exact h
            have HV := Lib.hid (show firstV [E1, 3, 2] = E from hn3.symm)
            clear hn3
            go_wp2
            refine region_below 15 follows_mixed (by kernel_rfl) ?_
            intro C hC
            simp only [List.take_succ_cons, List.take_zero, List.drop_succ_cons, List.drop_zero]
            repeat (first
              | ((with_reducible refine quiet_plain rfl (fun K hK => ?_)); (focus (apply quiet_val; (focus (intro w' hw; obtain ⟨hcq, hfq⟩ := bcell ((hC.out _).1 hw); go_simp; (first | done | rfl | (with_reducible exact call_below hC hw (HP.out _)) | (with_reducible exact call_below hC hw (HI.out _)) | (with_reducible exact call_same hw (un_f _ _)) | (with_reducible exact call_same hw (HW.out _))))); (simp only [Act.put, List.setIfInBounds_toArray, List.set_cons_succ, List.set_cons_zero]); (with_reducible refine hK _ ?_); clear hK K)))
              | ((with_reducible refine quiet_skip ?_ ?_); (focus (first | (simp [Region.wanted, yielded]; done) | (simp [Region.wanted, yielded, undef]; done))); simp only [Act.put, List.setIfInBounds_toArray, List.set_cons_succ, List.set_cons_zero])
              | ((with_reducible refine quiet_go ?_ (fun K hK => ?_)); (focus (first | (simp [Region.wanted, yielded]; done) | (simp [Region.wanted, yielded, undef]; done))); (focus (apply quiet_val; (focus (intro w' hw; obtain ⟨hcq, hfq⟩ := bcell ((hC.out _).1 hw); go_simp; (first | done | rfl | (with_reducible exact call_below hC hw (HP.out _)) | (with_reducible exact call_below hC hw (HI.out _)) | (with_reducible exact call_same hw (un_f _ _)) | (with_reducible exact call_same hw (HW.out _))))); (simp only [Act.put, List.setIfInBounds_toArray, List.set_cons_succ, List.set_cons_zero]); (with_reducible refine hK _ ?_); clear hK K))))
            refine wpQuiet_nil ?_
            intro w1 hb1
            replace hb1 := (hC.out _).1 hb1
            clear hC C
            obtain ⟨hc1, hf1⟩ := bcell hb1
            have HL1 := Lib.hid ((HL.out.alloc.alloc).past hb1)
            have HQ1 := Lib.hid (pt (pa (pa HQ.out)) hb1)
            clear hb1 hc1 hf1 u0 u1 u2 u3
            by_cases hE : E = 0
            · subst hE
              have HN := Lib.hid (show srcsE (ls.drop i) = srcsE (ls.drop (i + 1)) by rw [HN.out, if_pos rfl])
              go_wp2_with (go_at_call 45; refine (gfirst3 _ _ _ _ _ _ (by first | (go_simp; done) | (go_simp; rfl)) (by first | (go_simp; done) | (go_simp; rfl)) (by first | (go_simp; done) | (go_simp; rfl)) 0 HV.out).mono ?_; rintro e w' ⟨rfl, rfl⟩)
              go_roundw
              case rel => exact ⟨i + 1, src_succ _, Nat.succ_le_of_lt hlt, HS.out.trans HN.out, HL1.out.alloc, pa HQ1.out⟩
              case measure => exact src_meas hlt
            · have hEb : (E != 0) = true := by simpa using hE
              have HN := Lib.hid (show R = E by rw [← HRv.out, HS.out, HN.out, if_neg hE, if_neg hE])
              go_wp2_with (go_at_call 45; refine (gfirst3 _ _ _ _ _ _ (by first | (go_simp; done) | (go_simp; rfl)) (by first | (go_simp; done) | (go_simp; rfl)) (by first | (go_simp; done) | (go_simp; rfl)) E HV.out).mono ?_; rintro e w' ⟨rfl, rfl⟩)
              go_ret
              exact ⟨by first | (rw [HN.out]; done) | (rw [HN.out]; rfl), pa HQ1.out⟩
      | true =>
        cases E3 with
        | false =>
          have hn3 : E = firstV [E1, 0, 2] := HN3.out
          have HV := Lib.hid (show firstV [E1, 0, 2] = E from hn3.symm)
          clear hn3
          go_wp2
          refine region_below 15 follows_mixed (by kernel_rfl) ?_
          intro C hC
          simp only [List.take_succ_cons, List.take_zero, List.drop_succ_cons, List.drop_zero]
          repeat (first
            | ((with_reducible refine quiet_plain rfl (fun K hK => ?_)); (focus (apply quiet_val; (focus (intro w' hw; obtain ⟨hcq, hfq⟩ := bcell ((hC.out _).1 hw); go_simp; (first | done | rfl | (with_reducible exact call_below hC hw (HP.out _)) | (with_reducible exact call_below hC hw (HI.out _)) | (with_reducible exact call_same hw (un_t _ _)) | (with_reducible exact call_same hw (un_f _ _)) | (with_reducible exact call_same hw (HW.out _))))); (simp only [Act.put, List.setIfInBounds_toArray, List.set_cons_succ, List.set_cons_zero]); (with_reducible refine hK _ ?_); clear hK K)))
            | ((with_reducible refine quiet_skip ?_ ?_); (focus (first | (simp [Region.wanted, yielded]; done) | (simp [Region.wanted, yielded, undef]; done))); simp only [Act.put, List.setIfInBounds_toArray, List.set_cons_succ, List.set_cons_zero])
            | ((with_reducible refine quiet_go ?_ (fun K hK => ?_)); (focus (first | (simp [Region.wanted, yielded]; done) | (simp [Region.wanted, yielded, undef]; done))); (focus (apply quiet_val; (focus (intro w' hw; obtain ⟨hcq, hfq⟩ := bcell ((hC.out _).1 hw); go_simp; (first | done | rfl | (with_reducible exact call_below hC hw (HP.out _)) | (with_reducible exact call_below hC hw (HI.out _)) | (with_reducible exact call_same hw (un_t _ _)) | (with_reducible exact call_same hw (un_f _ _)) | (with_reducible exact call_same hw (HW.out _))))); (simp only [Act.put, List.setIfInBounds_toArray, List.set_cons_succ, List.set_cons_zero]); (with_reducible refine hK _ ?_); clear hK K))))
          refine wpQuiet_nil ?_
          intro w1 hb1
          replace hb1 := (hC.out _).1 hb1
          clear hC C
          obtain ⟨hc1, hf1⟩ := bcell hb1
          have HL1 := Lib.hid ((HL.out.alloc.alloc).past hb1)
          have HQ1 := Lib.hid (pt (pa (pa HQ.out)) hb1)
          clear hb1 hc1 hf1 u0 u1 u2 u3
          by_cases hE : E = 0
          · subst hE
            have HN := Lib.hid (show srcsE (ls.drop i) = srcsE (ls.drop (i + 1)) by rw [HN.out, if_pos rfl])
            go_wp2_with (go_at_call 45; refine (gfirst3 _ _ _ _ _ _ (by first | (go_simp; done) | (go_simp; rfl)) (by first | (go_simp; done) | (go_simp; rfl)) (by first | (go_simp; done) | (go_simp; rfl)) 0 HV.out).mono ?_; rintro e w' ⟨rfl, rfl⟩)
            go_roundw
            case rel => exact ⟨i + 1, src_succ _, Nat.succ_le_of_lt hlt, HS.out.trans HN.out, HL1.out.alloc, pa HQ1.out⟩
            case measure => exact src_meas hlt
          · have hEb : (E != 0) = true := by simpa using hE
            have HN := Lib.hid (show R = E by rw [← HRv.out, HS.out, HN.out, if_neg hE, if_neg hE])
            go_wp2_with (go_at_call 45; refine (gfirst3 _ _ _ _ _ _ (by first | (go_simp; done) | (go_simp; rfl)) (by first | (go_simp; done) | (go_simp; rfl)) (by first | (go_simp; done) | (go_simp; rfl)) E HV.out).mono ?_; rintro e w' ⟨rfl, rfl⟩)
            go_ret
            exact ⟨by first | (rw [HN.out]; done) | (rw [HN.out]; rfl), pa HQ1.out⟩
        | true =>
          by_cases hd : sd ≤ 100
          · have hd2 : decide (sd ≤ 100) = true := decide_eq_true hd
            have hn3 : E = firstV [E1, 0, 0] := by have h := HN3.out; rw [hd2] at h; exact h
            have HV := Lib.hid (show firstV [E1, 0, 0] = E from hn3.symm)
            clear hn3
            go_wp2
            refine region_below 15 follows_mixed (by kernel_rfl) ?_
            intro C hC
            simp only [List.take_succ_cons, List.take_zero, List.drop_succ_cons, List.drop_zero]
            repeat (first
              | ((with_reducible refine quiet_plain rfl (fun K hK => ?_)); (focus (apply quiet_val; (focus (intro w' hw; obtain ⟨hcq, hfq⟩ := bcell ((hC.out _).1 hw); go_simp; (first | done | rfl | (with_reducible exact call_below hC hw (HP.out _)) | (with_reducible exact call_below hC hw (HI.out _)) | (with_reducible exact call_same hw (un_t _ _)) | (with_reducible exact call_same hw (HW.out _))))); (simp only [Act.put, List.setIfInBounds_toArray, List.set_cons_succ, List.set_cons_zero]); (with_reducible refine hK _ ?_); clear hK K)))
              | ((with_reducible refine quiet_skip ?_ ?_); (focus (first | (simp [Region.wanted, yielded]; done) | (simp [Region.wanted, yielded, undef]; done))); simp only [Act.put, List.setIfInBounds_toArray, List.set_cons_succ, List.set_cons_zero])
              | ((with_reducible refine quiet_go ?_ (fun K hK => ?_)); (focus (first | (simp [Region.wanted, yielded]; done) | (simp [Region.wanted, yielded, undef]; done))); (focus (apply quiet_val; (focus (intro w' hw; obtain ⟨hcq, hfq⟩ := bcell ((hC.out _).1 hw); go_simp; (first | done | rfl | (with_reducible exact call_below hC hw (HP.out _)) | (with_reducible exact call_below hC hw (HI.out _)) | (with_reducible exact call_same hw (un_t _ _)) | (with_reducible exact call_same hw (HW.out _))))); (simp only [Act.put, List.setIfInBounds_toArray, List.set_cons_succ, List.set_cons_zero]); (with_reducible refine hK _ ?_); clear hK K))))
            refine wpQuiet_nil ?_
            intro w1 hb1
            replace hb1 := (hC.out _).1 hb1
            clear hC C
            obtain ⟨hc1, hf1⟩ := bcell hb1
            have HL1 := Lib.hid ((HL.out.alloc.alloc).past hb1)
            have HQ1 := Lib.hid (pt (pa (pa HQ.out)) hb1)
            clear hb1 hc1 hf1 u0 u1 u2 u3
            by_cases hE : E = 0
            · subst hE
              have HN := Lib.hid (show srcsE (ls.drop i) = srcsE (ls.drop (i + 1)) by rw [HN.out, if_pos rfl])
              go_wp2_with (go_at_call 45; refine (gfirst3 _ _ _ _ _ _ (by first | (go_simp; done) | (go_simp; rfl)) (by first | (go_simp; done) | (go_simp; rfl)) (by first | (go_simp; done) | (go_simp; rfl)) 0 HV.out).mono ?_; rintro e w' ⟨rfl, rfl⟩)
              go_roundw
              case rel => exact ⟨i + 1, src_succ _, Nat.succ_le_of_lt hlt, HS.out.trans HN.out, HL1.out.alloc, pa HQ1.out⟩
              case measure => exact src_meas hlt
            · have hEb : (E != 0) = true := by simpa using hE
              have HN := Lib.hid (show R = E by rw [← HRv.out, HS.out, HN.out, if_neg hE, if_neg hE])
              go_wp2_with (go_at_call 45; refine (gfirst3 _ _ _ _ _ _ (by first | (go_simp; done) | (go_simp; rfl)) (by first | (go_simp; done) | (go_simp; rfl)) (by first | (go_simp; done) | (go_simp; rfl)) E HV.out).mono ?_; rintro e w' ⟨rfl, rfl⟩)
              go_ret
              exact ⟨by first | (rw [HN.out]; done) | (rw [HN.out]; rfl), pa HQ1.out⟩
          · have hd2 : decide (sd ≤ 100) = false := decide_eq_false hd
            have hd3 : 100 < sd := Int.not_le.1 hd
            have hn3 : E = firstV [E1, 0, 2] := by have h := HN3.out; rw [hd2] at h; exact h
            have HV := Lib.hid (show firstV [E1, 0, 2] = E from hn3.symm)
            clear hn3
            go_wp2
            refine region_below 15 follows_mixed (by kernel_rfl) ?_
            intro C hC
            simp only [List.take_succ_cons, List.take_zero, List.drop_succ_cons, List.drop_zero]
            repeat (first
              | ((with_reducible refine quiet_plain rfl (fun K hK => ?_)); (focus (apply quiet_val; (focus (intro w' hw; obtain ⟨hcq, hfq⟩ := bcell ((hC.out _).1 hw); go_simp; (first | done | rfl | (with_reducible exact call_below hC hw (HP.out _)) | (with_reducible exact call_below hC hw (HI.out _)) | (with_reducible exact call_same hw (un_t _ _)) | (with_reducible exact call_same hw (un_f _ _)) | (with_reducible exact call_same hw (HW.out _))))); (simp only [Act.put, List.setIfInBounds_toArray, List.set_cons_succ, List.set_cons_zero]); (with_reducible refine hK _ ?_); clear hK K)))
              | ((with_reducible refine quiet_skip ?_ ?_); (focus (first | (simp [Region.wanted, yielded]; done) | (simp [Region.wanted, yielded, undef]; done))); simp only [Act.put, List.setIfInBounds_toArray, List.set_cons_succ, List.set_cons_zero])
              | ((with_reducible refine quiet_go ?_ (fun K hK => ?_)); (focus (first | (simp [Region.wanted, yielded]; done) | (simp [Region.wanted, yielded, undef]; done))); (focus (apply quiet_val; (focus (intro w' hw; obtain ⟨hcq, hfq⟩ := bcell ((hC.out _).1 hw); go_simp; (first | done | rfl | (with_reducible exact call_below hC hw (HP.out _)) | (with_reducible exact call_below hC hw (HI.out _)) | (with_reducible exact call_same hw (un_t _ _)) | (with_reducible exact call_same hw (un_f _ _)) | (with_reducible exact call_same hw (HW.out _))))); (simp only [Act.put, List.setIfInBounds_toArray, List.set_cons_succ, List.set_cons_zero]); (with_reducible refine hK _ ?_); clear hK K))))
            refine wpQuiet_nil ?_
            intro w1 hb1
            replace hb1 := (hC.out _).1 hb1
            clear hC C
            obtain ⟨hc1, hf1⟩ := bcell hb1
            have HL1 := Lib.hid ((HL.out.alloc.alloc).past hb1)
            have HQ1 := Lib.hid (pt (pa (pa HQ.out)) hb1)
            clear hb1 hc1 hf1 u0 u1 u2 u3
            by_cases hE : E = 0
            · subst hE
              have HN := Lib.hid (show srcsE (ls.drop i) = srcsE (ls.drop (i + 1)) by rw [HN.out, if_pos rfl])
              go_wp2_with (go_at_call 45; refine (gfirst3 _ _ _ _ _ _ (by first | (go_simp; done) | (go_simp; rfl)) (by first | (go_simp; done) | (go_simp; rfl)) (by first | (go_simp; done) | (go_simp; rfl)) 0 HV.out).mono ?_; rintro e w' ⟨rfl, rfl⟩)
              go_roundw
              case rel => exact ⟨i + 1, src_succ _, Nat.succ_le_of_lt hlt, HS.out.trans HN.out, HL1.out.alloc, pa HQ1.out⟩
              case measure => exact src_meas hlt
            · have hEb : (E != 0) = true := by simpa using hE
              have HN := Lib.hid (show R = E by rw [← HRv.out, HS.out, HN.out, if_neg hE, if_neg hE])
              go_wp2_with (go_at_call 45; refine (gfirst3 _ _ _ _ _ _ (by first | (go_simp; done) | (go_simp; rfl)) (by first | (go_simp; done) | (go_simp; rfl)) (by first | (go_simp; done) | (go_simp; rfl)) E HV.out).mono ?_; rintro e w' ⟨rfl, rfl⟩)
              go_ret
              exact ⟨by first | (rw [HN.out]; done) | (rw [HN.out]; rfl), pa HQ1.out⟩
    · obtain rfl : i = ls.length := Nat.le_antisymm hi (Nat.le_of_not_lt hlt)
      have hz : srcsE ls = 0 := by rw [HS.out, List.drop_length]; rfl
      have b0 := HL.out.cellAt 0 rfl
      have b1 := HL.out.cellAt 1 rfl
      have bl := HL.out.lt
      go_wp2_with (go_at_call 84; (with_reducible refine (HPh.out _).mono ?_); rintro e w2 ⟨rfl, hb2⟩)
      go_ret
      exact ⟨by first | (rw [← HRv.out, if_pos hz]; done) | (rw [← HRv.out, if_pos hz]; rfl), pt HQ.out hb2⟩

theorem sourcesErr_any (B : Nat) (ls : List Src) (A : Option Addr) (c : Nat) (p q : Int) (w : World) (hr : SrcsIn B w A ls) (hB : B ≤ w.heap.size) (h64 : ∀ s ∈ ls, Src64 s) :
    Calls Tryz.prog 40 #[.slice A ls.length c, .agg #[.int .i64 p, .int .i64 q]] w fun r w' => r = .returned (.int .i64 (loadE ls p q)) ∧ Below w.heap.size w w' := by
  by_cases h0 : ls.length = 0
  · have e : loadE ls p q = 10 := by
      have : ls = [] := List.eq_nil_of_length_eq_zero h0
      subst this; rfl
    rw [e]
    exact srcErr_none B ls A c p q w hr hB h64 h0
  · by_cases h4 : 4 < ls.length
    · have e : countE ls.length = 8 := by
        unfold countE
        rw [decide_eq_true (show 0 < ls.length by omega), decide_eq_false (show ¬ ls.length ≤ 4 by omega)]
        rfl
      have e2 : loadE ls p q = 8 := by
        unfold loadE sourcesE
        rw [e]
        rfl
      rw [e2]
      exact srcErr_many B ls A c p q w hr hB h64 h4
    · have e : sourcesE ls = srcsE ls := by
        unfold sourcesE
        rw [if_pos (countE_ok.2 ⟨by omega, by omega⟩)]
      unfold loadE
      rw [e]
      exact srcErr_some B ls A c p q w hr hB h64 (by omega) (by omega)

end Go.Proofs.YtpdkbhjcpddnpaaGreatDoor
end
