/- Contract: the currents of the document's example. The loops are unrolled. Printed by a program (gen_cur.py). -/
import Derived.Test.YtpdkbhjcpddnpaaGreatDoorOd1
import Derived.Test.YtpdkbhjcpddnpaaGreatDoorOd2

section
namespace Go.Proofs.YtpdkbhjcpddnpaaGreatDoor
open Go.RowKit
attribute [local go_sem ↓] Go.wp_at_zero Go.wp_at_succ

theorem lo_63 (w : World) : Calls Tryz.prog 43 #[.int .i64 6, .int .i64 3] w fun r w' => r = .returned (.agg #[.int .i64 2, .int .i64 1]) ∧ Below w.heap.size w w' :=
  lowest_any 6 3 ⟨by decide, by decide⟩ ⟨by decide, by decide⟩ (by decide) w
theorem lo_66 (w : World) : Calls Tryz.prog 43 #[.int .i64 6, .int .i64 6] w fun r w' => r = .returned (.agg #[.int .i64 1, .int .i64 1]) ∧ Below w.heap.size w w' :=
  lowest_any 6 6 ⟨by decide, by decide⟩ ⟨by decide, by decide⟩ (by decide) w
theorem lo_03 (w : World) : Calls Tryz.prog 43 #[.int .i64 0, .int .i64 3] w fun r w' => r = .returned (.agg #[.int .i64 0, .int .i64 1]) ∧ Below w.heap.size w w' :=
  lowest_any 0 3 ⟨by decide, by decide⟩ ⟨by decide, by decide⟩ (by decide) w
theorem lo_06 (w : World) : Calls Tryz.prog 43 #[.int .i64 0, .int .i64 6] w fun r w' => r = .returned (.agg #[.int .i64 0, .int .i64 1]) ∧ Below w.heap.size w w' :=
  lowest_any 0 6 ⟨by decide, by decide⟩ ⟨by decide, by decide⟩ (by decide) w
theorem sm_2 (w : World) : Calls Tryz.prog 44 #[.int .i64 2, .int .i64 1000000000] w fun r w' => r = .returned (.bool true) ∧ w = w' := by
  have h := small_any 2 1000000000 (by decide) (by decide) w
  rwa [show withinB 2 (-1000000000) 1000000000 = true by decide] at h
theorem sm_1 (w : World) : Calls Tryz.prog 44 #[.int .i64 1, .int .i64 1000000000] w fun r w' => r = .returned (.bool true) ∧ w = w' := by
  have h := small_any 1 1000000000 (by decide) (by decide) w
  rwa [show withinB 1 (-1000000000) 1000000000 = true by decide] at h
theorem sm_0 (w : World) : Calls Tryz.prog 44 #[.int .i64 0, .int .i64 1000000000] w fun r w' => r = .returned (.bool true) ∧ w = w' := by
  have h := small_any 0 1000000000 (by decide) (by decide) w
  rwa [show withinB 0 (-1000000000) 1000000000 = true by decide] at h
theorem mk2 (W : World) : Sem.run Tryz.prog (Instr.makeSlice 27 (.int .i64 2) (.int .i64 2)) W = .ok (.slice (some ⟨W.heap.size, 0, none⟩) 2 2) (W.alloc (.cells #[.int .i64 0, .int .i64 0, .int .i64 0, .int .i64 0, .int .i64 0, .int .i64 0, .int .i64 0, .int .i64 0] 90)) := by kernel_rfl
attribute [local go_sem] mk2

theorem pp_at0 (W : World) : Sem.run Tryz.prog (Instr.index 109 (.agg #[.func (.func 86) #[] #[], .func (.func 87) #[] #[], .func (.func 88) #[] #[], .func (.func 89) #[] #[]]) (.int .i64 0)) W = .ok (.agg #[.func (.func 86) #[] #[], .func (.func 87) #[] #[]]) W := by kernel_rfl
theorem pp_at1 (W : World) : Sem.run Tryz.prog (Instr.index 109 (.agg #[.func (.func 86) #[] #[], .func (.func 87) #[] #[], .func (.func 88) #[] #[], .func (.func 89) #[] #[]]) (.int .i64 1)) W = .ok (.agg #[.func (.func 88) #[] #[], .func (.func 89) #[] #[]]) W := by kernel_rfl
attribute [local go_sem] pp_at0 pp_at1

set_option maxHeartbeats 16000000 in
set_option maxRecDepth 100000 in
theorem CurrentsOf_c (b c : Nat) (w : World) (hB : Blk w b 87 #[.int .i64 12, .int .i64 0, .int .i64 1, .int .i64 1, .int .i64 12, .int .i64 0, .int .i64 2, .int .i64 1]) :
    Calls Tryz.prog 7 #[.slice (some ⟨b, 0, none⟩) 2 c, .agg #[.int .i64 3, .int .i64 0]] w fun r w' => ∃ o, r = .returned (.tuple #[.slice (some ⟨o, 0, none⟩) 2 2, .int .i64 0]) ∧ Below w.heap.size w w' ∧ w.heap.size ≤ o ∧ Blk w' o 90 #[.int .i64 2, .int .i64 1, .int .i64 0, .int .i64 1, .int .i64 1, .int .i64 1, .int .i64 0, .int .i64 1] := by
  have hlt := hB.lt
  have z0 : IntKind.i64.wrap 0 = 0 := by decide
  have z1 : IntKind.i64.wrap 1 = 1 := by decide
  have z2 : IntKind.i64.wrap 2 = 2 := by decide
  have z3 : IntKind.i64.wrap 3 = 3 := by decide
  have z6 : IntKind.i64.wrap 6 = 6 := by decide
  have z12 : IntKind.i64.wrap 12 = 12 := by decide
  have z18 : IntKind.i64.wrap 18 = 18 := by decide
  have z30 : IntKind.i64.wrap 30 = 30 := by decide
  have z36 : IntKind.i64.wrap 36 = 36 := by decide
  go_enter Tryz.func7, Tryz.ntmps7
  go_wp2_with (first
    | (go_at_call 40; refine (sourcesErr_c b c _ (hB.alloc)).mono ?_; rintro e w1 ⟨rfl, hb1⟩)
    | (go_at_call 41; refine (parts_any _).mono ?_; rintro e w2 ⟨rfl, hb2⟩))
  have B0 := (hB.alloc.past hb1).alloc.past hb2
  have L0 : Blk w2 w.heap.size 24 #[.int .i64 3, .int .i64 0] := ((Blk.newAt rfl).past hb1).alloc.past hb2
  have O0 : Blk w2 w1.heap.size 90 #[.int .i64 0, .int .i64 0, .int .i64 0, .int .i64 0, .int .i64 0, .int .i64 0, .int .i64 0, .int .i64 0] := (Blk.new _ _ _).past hb2
  have S0 : Below w.heap.size w w2 := pt (pa (pt (pa pr) hb1)) hb2
  have ho : w.heap.size < w1.heap.size := by have h := hb1.size; simp at h; omega
  generalize w1.heap.size = o at *
  clear hb1 hb2 hB
  obtain ⟨v, rfl⟩ : ∃ v, v = w2 := ⟨_, rfl⟩
  refine wp_loop_rounds 3 ?_
  rw [rounds_succ]
  have PN0 : Blk (v.alloc (.cells #[.nilFunc, .nilFunc] 108)) v.heap.size 108 #[.nilFunc, .nilFunc] := Blk.new _ _ _
  have l0 := L0.cellAt 0 rfl
  have l1 := L0.cellAt 1 rfl
  have ll := L0.lt
  go_wp2_with ((with_reducible refine store_blk (T := 108) (x := .tmp 9) (y := .tmp 26) (vs := #[.func (.func 86) #[] #[], .func (.func 87) #[] #[]]) PN0 ?_ ?_ ?_ ?_ ?_ ?_); (focus rfl); (focus exact part_size); (focus (simp [Value.oneCell']; done)); (focus rfl); (focus rfl); intro v3 P1 PP)
  have B1 := B0.alloc.put PP (by have := B0.lt; omega)
  have L1 := L0.alloc.put PP (by have := L0.lt; omega)
  have O1 := O0.alloc.put PP (by have := O0.lt; omega)
  have S1 := pp (pa S0) PP S0.size
  have hp : o < v.heap.size := O0.lt
  generalize v.heap.size = pb at *
  clear l0 l1 ll PN0 PP B0 L0 O0 S0
  have l0 := L1.cellAt 0 rfl
  have l1 := L1.cellAt 1 rfl
  have ll := L1.lt
  have pf0 := P1.cellAt 0 rfl
  have pf1 := P1.cellAt 1 rfl
  have pl := P1.lt
  refine region_alloc (zc := (.cells #[.int .i64 0, .int .i64 0] 112)) 7 follows_mixed (by kernel_rfl) rfl (fun _ _ => by kernel_rfl) ?_
  simp only [List.take_succ_cons, List.take_zero, List.drop_succ_cons, List.drop_zero]
  repeat (first
    | ((with_reducible apply grow_plain); (focus rfl); (focus (intro w' hw; obtain ⟨hcq, hfq⟩ := bcell hw; go_simp; (first | done | rfl | (with_reducible exact (part_1 _ _ _)) | (with_reducible exact (busOf_P b c _ (B1.past hw)))))); (simp only [Act.put, List.setIfInBounds_toArray, List.set_cons_succ, List.set_cons_zero]))
    | ((with_reducible apply grow_skip); (focus (first | (simp [Region.wanted, yielded]; done) | (simp [Region.wanted, yielded, undef]; done))); simp only [Act.put, List.setIfInBounds_toArray, List.set_cons_succ, List.set_cons_zero])
    | ((with_reducible apply grow_go); (focus (first | (simp [Region.wanted, yielded]; done) | (simp [Region.wanted, yielded, undef]; done))); (focus (intro w' hw; obtain ⟨hcq, hfq⟩ := bcell hw; go_simp; (first | done | rfl | (with_reducible exact (part_1 _ _ _)) | (with_reducible exact (busOf_P b c _ (B1.past hw)))))); (simp only [Act.put, List.setIfInBounds_toArray, List.set_cons_succ, List.set_cons_zero])))
  refine grow_nil ?_
  intro v1 w1 hv1 hb1
  simp only [List.setIfInBounds_toArray, List.set_cons_succ, List.set_cons_zero]
  have B2 := (B1.past hv1).alloc.past hb1
  have L2 := (L1.past hv1).alloc.past hb1
  have O2 := (O1.past hv1).alloc.past hb1
  have P2 := (P1.past hv1).alloc.past hb1
  have K2 := (Blk.new v1 112 #[.int .i64 0, .int .i64 0]).past hb1
  have S2 := pt (pa (pt S1 hv1)) hb1
  have hk : pb < v1.heap.size := (P1.past hv1).lt
  generalize v1.heap.size = kb at *
  clear hb1 hv1 l0 l1 ll pf0 pf1 pl B1 L1 O1 P1 S1 v3
  have k0 := K2.cellAt 0 rfl
  have k1 := K2.cellAt 1 rfl
  have f0 := K2.frozen 0
  have f1 := K2.frozen 1
  have kl := K2.lt
  go_wp2
  have B3 : Blk ((w1.setCell ⟨kb, 0, none⟩ (.int .i64 30)).setCell ⟨kb, 1, none⟩ (.int .i64 3)) b 87 #[.int .i64 12, .int .i64 0, .int .i64 1, .int .i64 1, .int .i64 12, .int .i64 0, .int .i64 2, .int .i64 1] := (B2.far (by show b ≠ kb; omega)).far (by show b ≠ kb; omega)
  have L3 : Blk ((w1.setCell ⟨kb, 0, none⟩ (.int .i64 30)).setCell ⟨kb, 1, none⟩ (.int .i64 3)) w.heap.size 24 #[.int .i64 3, .int .i64 0] := (L2.far (by show w.heap.size ≠ kb; omega)).far (by show w.heap.size ≠ kb; omega)
  have O3 : Blk ((w1.setCell ⟨kb, 0, none⟩ (.int .i64 30)).setCell ⟨kb, 1, none⟩ (.int .i64 3)) o 90 #[.int .i64 0, .int .i64 0, .int .i64 0, .int .i64 0, .int .i64 0, .int .i64 0, .int .i64 0, .int .i64 0] := (O2.far (by show o ≠ kb; omega)).far (by show o ≠ kb; omega)
  have P3 : Blk ((w1.setCell ⟨kb, 0, none⟩ (.int .i64 30)).setCell ⟨kb, 1, none⟩ (.int .i64 3)) pb 108 #[.func (.func 86) #[] #[], .func (.func 87) #[] #[]] := (P2.far (by show pb ≠ kb; omega)).far (by show pb ≠ kb; omega)
  have K3 : Blk ((w1.setCell ⟨kb, 0, none⟩ (.int .i64 30)).setCell ⟨kb, 1, none⟩ (.int .i64 3)) kb 112 #[.int .i64 30, .int .i64 3] := (K2.set_ 0 _).set_ 1 _
  have S3 : Below w.heap.size w ((w1.setCell ⟨kb, 0, none⟩ (.int .i64 30)).setCell ⟨kb, 1, none⟩ (.int .i64 3)) := ps (ps S2 (by show w.heap.size ≤ kb; omega)) (by show w.heap.size ≤ kb; omega)
  generalize (w1.setCell ⟨kb, 0, none⟩ (.int .i64 30)).setCell ⟨kb, 1, none⟩ (.int .i64 3) = v at *
  clear k0 k1 f0 f1 kl B2 L2 O2 P2 K2 S2
  refine wp_loop_rounds 3 ?_
  rw [rounds_succ]
  have a0 := B3.cellAt 0 rfl
  have a1 := B3.cellAt 1 rfl
  have a2 := B3.cellAt 2 rfl
  have a3 := B3.cellAt 3 rfl
  have al := B3.lt
  have pf0 := P3.cellAt 0 rfl
  have pl := P3.lt
  have k0 := K3.cellAt 0 rfl
  have k1 := K3.cellAt 1 rfl
  have kl := K3.lt
  go_wp2
  refine region_alloc (zc := (.cells #[.int .i64 0, .int .i64 0] 59)) 22 follows_mixed (by kernel_rfl) rfl (fun _ _ => by kernel_rfl) ?_
  simp only [List.take_succ_cons, List.take_zero, List.drop_succ_cons, List.drop_zero]
  repeat (first
    | ((with_reducible apply grow_plain); (focus rfl); (focus (intro w' hw; obtain ⟨hcq, hfq⟩ := bcell hw; go_simp; (first | done | rfl | (with_reducible exact (part_1 _ _ _)) | (with_reducible exact (lo_63 _))))); (simp only [Act.put, List.setIfInBounds_toArray, List.set_cons_succ, List.set_cons_zero]))
    | ((with_reducible apply grow_skip); (focus (first | (simp [Region.wanted, yielded]; done) | (simp [Region.wanted, yielded, undef]; done))); simp only [Act.put, List.setIfInBounds_toArray, List.set_cons_succ, List.set_cons_zero])
    | ((with_reducible apply grow_go); (focus (first | (simp [Region.wanted, yielded]; done) | (simp [Region.wanted, yielded, undef]; done))); (focus (intro w' hw; obtain ⟨hcq, hfq⟩ := bcell hw; go_simp; (first | done | rfl | (with_reducible exact (part_1 _ _ _)) | (with_reducible exact (lo_63 _))))); (simp only [Act.put, List.setIfInBounds_toArray, List.set_cons_succ, List.set_cons_zero])))
  refine grow_nil ?_
  intro v1 w1 hv1 hb1
  simp only [List.setIfInBounds_toArray, List.set_cons_succ, List.set_cons_zero]
  have B4 := (B3.alloc.past hv1).alloc.past hb1
  have L4 := (L3.alloc.past hv1).alloc.past hb1
  have O4 := (O3.alloc.past hv1).alloc.past hb1
  have P4 := (P3.alloc.past hv1).alloc.past hb1
  have K4 := (K3.alloc.past hv1).alloc.past hb1
  have F4 := (Blk.new v1 59 #[.int .i64 0, .int .i64 0]).past hb1
  have S4 := pt (pa (pt (pa S3) hv1)) hb1
  have hf : kb < v1.heap.size := (K3.alloc.past hv1).lt
  generalize v1.heap.size = fb at *
  clear hb1 hv1 a0 a1 a2 a3 al pf0 pl k0 k1 kl B3 L3 O3 P3 K3 S3
  have pf1 := P4.cellAt 1 rfl
  have pl := P4.lt
  have f0 := F4.cellAt 0 rfl
  have f1 := F4.cellAt 1 rfl
  have g0 := F4.frozen 0
  have g1 := F4.frozen 1
  have fl := F4.lt
  go_wp2_with (go_at_call 44; refine (sm_2 _).mono ?_; rintro e w' ⟨rfl, rfl⟩)
  refine region_below 8 follows_mixed (by kernel_rfl) ?_
  intro C hC
  simp only [List.take_succ_cons, List.take_zero, List.drop_succ_cons, List.drop_zero]
  repeat (first
    | ((with_reducible refine quiet_plain rfl (fun K hK => ?_)); (focus (apply quiet_val; (focus (intro w' hw; obtain ⟨hcq, hfq⟩ := bcell ((hC.out _).1 hw); go_simp; (first | done | rfl | (with_reducible exact call_same hw (part_2 _ _ _))))); (simp only [Act.put, List.setIfInBounds_toArray, List.set_cons_succ, List.set_cons_zero]); (with_reducible refine hK _ ?_); clear hK K)))
    | ((with_reducible refine quiet_skip ?_ ?_); (focus (first | (simp [Region.wanted, yielded]; done) | (simp [Region.wanted, yielded, undef]; done))); simp only [Act.put, List.setIfInBounds_toArray, List.set_cons_succ, List.set_cons_zero])
    | ((with_reducible refine quiet_go ?_ (fun K hK => ?_)); (focus (first | (simp [Region.wanted, yielded]; done) | (simp [Region.wanted, yielded, undef]; done))); (focus (apply quiet_val; (focus (intro w' hw; obtain ⟨hcq, hfq⟩ := bcell ((hC.out _).1 hw); go_simp; (first | done | rfl | (with_reducible exact call_same hw (part_2 _ _ _))))); (simp only [Act.put, List.setIfInBounds_toArray, List.set_cons_succ, List.set_cons_zero]); (with_reducible refine hK _ ?_); clear hK K))))
  refine wpQuiet_nil ?_
  intro w1 hb1
  replace hb1 := (hC.out _).1 hb1
  clear hC C
  obtain ⟨hc1, hf1⟩ := bcell hb1
  have B5 := ((B4.far (by show b ≠ fb; omega)).far (by show b ≠ fb; omega)).past hb1
  have L5 := ((L4.far (by show w.heap.size ≠ fb; omega)).far (by show w.heap.size ≠ fb; omega)).past hb1
  have O5 := ((O4.far (by show o ≠ fb; omega)).far (by show o ≠ fb; omega)).past hb1
  have P5 := ((P4.far (by show pb ≠ fb; omega)).far (by show pb ≠ fb; omega)).past hb1
  have K5 := ((K4.far (by show kb ≠ fb; omega)).far (by show kb ≠ fb; omega)).past hb1
  have S5 := pt (ps (ps S4 (by show w.heap.size ≤ fb; omega)) (by show w.heap.size ≤ fb; omega)) hb1
  clear hb1 hc1 hf1 hf pf1 pl f0 f1 g0 g1 fl F4 B4 L4 O4 P4 K4 S4
  have o0 := O5.cellAt 0 rfl
  have o1 := O5.cellAt 1 rfl
  have g0 := O5.frozen 0
  have g1 := O5.frozen 1
  have ol := O5.lt
  go_wp2
  have B3 : Blk ((w1.setCell ⟨o, 0, none⟩ (.int .i64 2)).setCell ⟨o, 1, none⟩ (.int .i64 1)) b 87 #[.int .i64 12, .int .i64 0, .int .i64 1, .int .i64 1, .int .i64 12, .int .i64 0, .int .i64 2, .int .i64 1] := (B5.far (by show b ≠ o; omega)).far (by show b ≠ o; omega)
  have L3 : Blk ((w1.setCell ⟨o, 0, none⟩ (.int .i64 2)).setCell ⟨o, 1, none⟩ (.int .i64 1)) w.heap.size 24 #[.int .i64 3, .int .i64 0] := (L5.far (by show w.heap.size ≠ o; omega)).far (by show w.heap.size ≠ o; omega)
  have O3 : Blk ((w1.setCell ⟨o, 0, none⟩ (.int .i64 2)).setCell ⟨o, 1, none⟩ (.int .i64 1)) o 90 #[.int .i64 2, .int .i64 1, .int .i64 0, .int .i64 0, .int .i64 0, .int .i64 0, .int .i64 0, .int .i64 0] := (O5.set_ 0 _).set_ 1 _
  have P3 : Blk ((w1.setCell ⟨o, 0, none⟩ (.int .i64 2)).setCell ⟨o, 1, none⟩ (.int .i64 1)) pb 108 #[.func (.func 86) #[] #[], .func (.func 87) #[] #[]] := (P5.far (by show pb ≠ o; omega)).far (by show pb ≠ o; omega)
  have K3 : Blk ((w1.setCell ⟨o, 0, none⟩ (.int .i64 2)).setCell ⟨o, 1, none⟩ (.int .i64 1)) kb 112 #[.int .i64 30, .int .i64 3] := (K5.far (by show kb ≠ o; omega)).far (by show kb ≠ o; omega)
  have S3 : Below w.heap.size w ((w1.setCell ⟨o, 0, none⟩ (.int .i64 2)).setCell ⟨o, 1, none⟩ (.int .i64 1)) := ps (ps S5 (by show w.heap.size ≤ o; omega)) (by show w.heap.size ≤ o; omega)
  generalize (w1.setCell ⟨o, 0, none⟩ (.int .i64 2)).setCell ⟨o, 1, none⟩ (.int .i64 1) = v at *
  clear o0 o1 g0 g1 ol B5 L5 O5 P5 K5 S5
  rw [rounds_succ]
  have a0 := B3.cellAt 4 rfl
  have a1 := B3.cellAt 5 rfl
  have a2 := B3.cellAt 6 rfl
  have a3 := B3.cellAt 7 rfl
  have al := B3.lt
  have pf0 := P3.cellAt 0 rfl
  have pl := P3.lt
  have k0 := K3.cellAt 0 rfl
  have k1 := K3.cellAt 1 rfl
  have kl := K3.lt
  go_wp2
  refine region_alloc (zc := (.cells #[.int .i64 0, .int .i64 0] 59)) 22 follows_mixed (by kernel_rfl) rfl (fun _ _ => by kernel_rfl) ?_
  simp only [List.take_succ_cons, List.take_zero, List.drop_succ_cons, List.drop_zero]
  repeat (first
    | ((with_reducible apply grow_plain); (focus rfl); (focus (intro w' hw; obtain ⟨hcq, hfq⟩ := bcell hw; go_simp; (first | done | rfl | (with_reducible exact (part_1 _ _ _)) | (with_reducible exact (lo_66 _))))); (simp only [Act.put, List.setIfInBounds_toArray, List.set_cons_succ, List.set_cons_zero]))
    | ((with_reducible apply grow_skip); (focus (first | (simp [Region.wanted, yielded]; done) | (simp [Region.wanted, yielded, undef]; done))); simp only [Act.put, List.setIfInBounds_toArray, List.set_cons_succ, List.set_cons_zero])
    | ((with_reducible apply grow_go); (focus (first | (simp [Region.wanted, yielded]; done) | (simp [Region.wanted, yielded, undef]; done))); (focus (intro w' hw; obtain ⟨hcq, hfq⟩ := bcell hw; go_simp; (first | done | rfl | (with_reducible exact (part_1 _ _ _)) | (with_reducible exact (lo_66 _))))); (simp only [Act.put, List.setIfInBounds_toArray, List.set_cons_succ, List.set_cons_zero])))
  refine grow_nil ?_
  intro v1 w1 hv1 hb1
  simp only [List.setIfInBounds_toArray, List.set_cons_succ, List.set_cons_zero]
  have B4 := (B3.alloc.past hv1).alloc.past hb1
  have L4 := (L3.alloc.past hv1).alloc.past hb1
  have O4 := (O3.alloc.past hv1).alloc.past hb1
  have P4 := (P3.alloc.past hv1).alloc.past hb1
  have K4 := (K3.alloc.past hv1).alloc.past hb1
  have F4 := (Blk.new v1 59 #[.int .i64 0, .int .i64 0]).past hb1
  have S4 := pt (pa (pt (pa S3) hv1)) hb1
  have hf : kb < v1.heap.size := (K3.alloc.past hv1).lt
  generalize v1.heap.size = fb at *
  clear hb1 hv1 a0 a1 a2 a3 al pf0 pl k0 k1 kl B3 L3 O3 P3 K3 S3
  have pf1 := P4.cellAt 1 rfl
  have pl := P4.lt
  have f0 := F4.cellAt 0 rfl
  have f1 := F4.cellAt 1 rfl
  have g0 := F4.frozen 0
  have g1 := F4.frozen 1
  have fl := F4.lt
  go_wp2_with (go_at_call 44; refine (sm_1 _).mono ?_; rintro e w' ⟨rfl, rfl⟩)
  refine region_below 8 follows_mixed (by kernel_rfl) ?_
  intro C hC
  simp only [List.take_succ_cons, List.take_zero, List.drop_succ_cons, List.drop_zero]
  repeat (first
    | ((with_reducible refine quiet_plain rfl (fun K hK => ?_)); (focus (apply quiet_val; (focus (intro w' hw; obtain ⟨hcq, hfq⟩ := bcell ((hC.out _).1 hw); go_simp; (first | done | rfl | (with_reducible exact call_same hw (part_2 _ _ _))))); (simp only [Act.put, List.setIfInBounds_toArray, List.set_cons_succ, List.set_cons_zero]); (with_reducible refine hK _ ?_); clear hK K)))
    | ((with_reducible refine quiet_skip ?_ ?_); (focus (first | (simp [Region.wanted, yielded]; done) | (simp [Region.wanted, yielded, undef]; done))); simp only [Act.put, List.setIfInBounds_toArray, List.set_cons_succ, List.set_cons_zero])
    | ((with_reducible refine quiet_go ?_ (fun K hK => ?_)); (focus (first | (simp [Region.wanted, yielded]; done) | (simp [Region.wanted, yielded, undef]; done))); (focus (apply quiet_val; (focus (intro w' hw; obtain ⟨hcq, hfq⟩ := bcell ((hC.out _).1 hw); go_simp; (first | done | rfl | (with_reducible exact call_same hw (part_2 _ _ _))))); (simp only [Act.put, List.setIfInBounds_toArray, List.set_cons_succ, List.set_cons_zero]); (with_reducible refine hK _ ?_); clear hK K))))
  refine wpQuiet_nil ?_
  intro w1 hb1
  replace hb1 := (hC.out _).1 hb1
  clear hC C
  obtain ⟨hc1, hf1⟩ := bcell hb1
  have B5 := ((B4.far (by show b ≠ fb; omega)).far (by show b ≠ fb; omega)).past hb1
  have L5 := ((L4.far (by show w.heap.size ≠ fb; omega)).far (by show w.heap.size ≠ fb; omega)).past hb1
  have O5 := ((O4.far (by show o ≠ fb; omega)).far (by show o ≠ fb; omega)).past hb1
  have P5 := ((P4.far (by show pb ≠ fb; omega)).far (by show pb ≠ fb; omega)).past hb1
  have K5 := ((K4.far (by show kb ≠ fb; omega)).far (by show kb ≠ fb; omega)).past hb1
  have S5 := pt (ps (ps S4 (by show w.heap.size ≤ fb; omega)) (by show w.heap.size ≤ fb; omega)) hb1
  clear hb1 hc1 hf1 hf pf1 pl f0 f1 g0 g1 fl F4 B4 L4 O4 P4 K4 S4
  have o0 := O5.cellAt 4 rfl
  have o1 := O5.cellAt 5 rfl
  have g0 := O5.frozen 4
  have g1 := O5.frozen 5
  have ol := O5.lt
  go_wp2
  have B3 : Blk ((w1.setCell ⟨o, 4, none⟩ (.int .i64 1)).setCell ⟨o, 5, none⟩ (.int .i64 1)) b 87 #[.int .i64 12, .int .i64 0, .int .i64 1, .int .i64 1, .int .i64 12, .int .i64 0, .int .i64 2, .int .i64 1] := (B5.far (by show b ≠ o; omega)).far (by show b ≠ o; omega)
  have L3 : Blk ((w1.setCell ⟨o, 4, none⟩ (.int .i64 1)).setCell ⟨o, 5, none⟩ (.int .i64 1)) w.heap.size 24 #[.int .i64 3, .int .i64 0] := (L5.far (by show w.heap.size ≠ o; omega)).far (by show w.heap.size ≠ o; omega)
  have O3 : Blk ((w1.setCell ⟨o, 4, none⟩ (.int .i64 1)).setCell ⟨o, 5, none⟩ (.int .i64 1)) o 90 #[.int .i64 2, .int .i64 1, .int .i64 0, .int .i64 0, .int .i64 1, .int .i64 1, .int .i64 0, .int .i64 0] := (O5.set_ 4 _).set_ 5 _
  have P3 : Blk ((w1.setCell ⟨o, 4, none⟩ (.int .i64 1)).setCell ⟨o, 5, none⟩ (.int .i64 1)) pb 108 #[.func (.func 86) #[] #[], .func (.func 87) #[] #[]] := (P5.far (by show pb ≠ o; omega)).far (by show pb ≠ o; omega)
  have K3 : Blk ((w1.setCell ⟨o, 4, none⟩ (.int .i64 1)).setCell ⟨o, 5, none⟩ (.int .i64 1)) kb 112 #[.int .i64 30, .int .i64 3] := (K5.far (by show kb ≠ o; omega)).far (by show kb ≠ o; omega)
  have S3 : Below w.heap.size w ((w1.setCell ⟨o, 4, none⟩ (.int .i64 1)).setCell ⟨o, 5, none⟩ (.int .i64 1)) := ps (ps S5 (by show w.heap.size ≤ o; omega)) (by show w.heap.size ≤ o; omega)
  generalize (w1.setCell ⟨o, 4, none⟩ (.int .i64 1)).setCell ⟨o, 5, none⟩ (.int .i64 1) = v at *
  clear o0 o1 g0 g1 ol B5 L5 O5 P5 K5 S5
  rw [rounds_succ]
  go_wp2
  have B0 := B3
  have L0 := L3
  have O0 := O3
  have S0 := S3
  clear B3 L3 O3 S3 P3 K3 hk hp
  rw [rounds_succ]
  have PN1 : Blk (v.alloc (.cells #[.nilFunc, .nilFunc] 108)) v.heap.size 108 #[.nilFunc, .nilFunc] := Blk.new _ _ _
  have l0 := L0.cellAt 0 rfl
  have l1 := L0.cellAt 1 rfl
  have ll := L0.lt
  go_wp2_with ((with_reducible refine store_blk (T := 108) (x := .tmp 9) (y := .tmp 26) (vs := #[.func (.func 88) #[] #[], .func (.func 89) #[] #[]]) PN1 ?_ ?_ ?_ ?_ ?_ ?_); (focus rfl); (focus exact part_size); (focus (simp [Value.oneCell']; done)); (focus rfl); (focus rfl); intro v3 P1 PP)
  have B1 := B0.alloc.put PP (by have := B0.lt; omega)
  have L1 := L0.alloc.put PP (by have := L0.lt; omega)
  have O1 := O0.alloc.put PP (by have := O0.lt; omega)
  have S1 := pp (pa S0) PP S0.size
  have hp : o < v.heap.size := O0.lt
  generalize v.heap.size = pb at *
  clear l0 l1 ll PN1 PP B0 L0 O0 S0
  have l0 := L1.cellAt 0 rfl
  have l1 := L1.cellAt 1 rfl
  have ll := L1.lt
  have pf0 := P1.cellAt 0 rfl
  have pf1 := P1.cellAt 1 rfl
  have pl := P1.lt
  refine region_alloc (zc := (.cells #[.int .i64 0, .int .i64 0] 112)) 7 follows_mixed (by kernel_rfl) rfl (fun _ _ => by kernel_rfl) ?_
  simp only [List.take_succ_cons, List.take_zero, List.drop_succ_cons, List.drop_zero]
  repeat (first
    | ((with_reducible apply grow_plain); (focus rfl); (focus (intro w' hw; obtain ⟨hcq, hfq⟩ := bcell hw; go_simp; (first | done | rfl | (with_reducible exact (part_3 _ _ _)) | (with_reducible exact (busOf_Q b c _ (B1.past hw)))))); (simp only [Act.put, List.setIfInBounds_toArray, List.set_cons_succ, List.set_cons_zero]))
    | ((with_reducible apply grow_skip); (focus (first | (simp [Region.wanted, yielded]; done) | (simp [Region.wanted, yielded, undef]; done))); simp only [Act.put, List.setIfInBounds_toArray, List.set_cons_succ, List.set_cons_zero])
    | ((with_reducible apply grow_go); (focus (first | (simp [Region.wanted, yielded]; done) | (simp [Region.wanted, yielded, undef]; done))); (focus (intro w' hw; obtain ⟨hcq, hfq⟩ := bcell hw; go_simp; (first | done | rfl | (with_reducible exact (part_3 _ _ _)) | (with_reducible exact (busOf_Q b c _ (B1.past hw)))))); (simp only [Act.put, List.setIfInBounds_toArray, List.set_cons_succ, List.set_cons_zero])))
  refine grow_nil ?_
  intro v1 w1 hv1 hb1
  simp only [List.setIfInBounds_toArray, List.set_cons_succ, List.set_cons_zero]
  have B2 := (B1.past hv1).alloc.past hb1
  have L2 := (L1.past hv1).alloc.past hb1
  have O2 := (O1.past hv1).alloc.past hb1
  have P2 := (P1.past hv1).alloc.past hb1
  have K2 := (Blk.new v1 112 #[.int .i64 0, .int .i64 0]).past hb1
  have S2 := pt (pa (pt S1 hv1)) hb1
  have hk : pb < v1.heap.size := (P1.past hv1).lt
  generalize v1.heap.size = kb at *
  clear hb1 hv1 l0 l1 ll pf0 pf1 pl B1 L1 O1 P1 S1 v3
  have k0 := K2.cellAt 0 rfl
  have k1 := K2.cellAt 1 rfl
  have f0 := K2.frozen 0
  have f1 := K2.frozen 1
  have kl := K2.lt
  go_wp2
  have B3 : Blk ((w1.setCell ⟨kb, 0, none⟩ (.int .i64 0)).setCell ⟨kb, 1, none⟩ (.int .i64 3)) b 87 #[.int .i64 12, .int .i64 0, .int .i64 1, .int .i64 1, .int .i64 12, .int .i64 0, .int .i64 2, .int .i64 1] := (B2.far (by show b ≠ kb; omega)).far (by show b ≠ kb; omega)
  have L3 : Blk ((w1.setCell ⟨kb, 0, none⟩ (.int .i64 0)).setCell ⟨kb, 1, none⟩ (.int .i64 3)) w.heap.size 24 #[.int .i64 3, .int .i64 0] := (L2.far (by show w.heap.size ≠ kb; omega)).far (by show w.heap.size ≠ kb; omega)
  have O3 : Blk ((w1.setCell ⟨kb, 0, none⟩ (.int .i64 0)).setCell ⟨kb, 1, none⟩ (.int .i64 3)) o 90 #[.int .i64 2, .int .i64 1, .int .i64 0, .int .i64 0, .int .i64 1, .int .i64 1, .int .i64 0, .int .i64 0] := (O2.far (by show o ≠ kb; omega)).far (by show o ≠ kb; omega)
  have P3 : Blk ((w1.setCell ⟨kb, 0, none⟩ (.int .i64 0)).setCell ⟨kb, 1, none⟩ (.int .i64 3)) pb 108 #[.func (.func 88) #[] #[], .func (.func 89) #[] #[]] := (P2.far (by show pb ≠ kb; omega)).far (by show pb ≠ kb; omega)
  have K3 : Blk ((w1.setCell ⟨kb, 0, none⟩ (.int .i64 0)).setCell ⟨kb, 1, none⟩ (.int .i64 3)) kb 112 #[.int .i64 0, .int .i64 3] := (K2.set_ 0 _).set_ 1 _
  have S3 : Below w.heap.size w ((w1.setCell ⟨kb, 0, none⟩ (.int .i64 0)).setCell ⟨kb, 1, none⟩ (.int .i64 3)) := ps (ps S2 (by show w.heap.size ≤ kb; omega)) (by show w.heap.size ≤ kb; omega)
  generalize (w1.setCell ⟨kb, 0, none⟩ (.int .i64 0)).setCell ⟨kb, 1, none⟩ (.int .i64 3) = v at *
  clear k0 k1 f0 f1 kl B2 L2 O2 P2 K2 S2
  refine wp_loop_rounds 3 ?_
  rw [rounds_succ]
  have a0 := B3.cellAt 0 rfl
  have a1 := B3.cellAt 1 rfl
  have a2 := B3.cellAt 2 rfl
  have a3 := B3.cellAt 3 rfl
  have al := B3.lt
  have pf0 := P3.cellAt 0 rfl
  have pl := P3.lt
  have k0 := K3.cellAt 0 rfl
  have k1 := K3.cellAt 1 rfl
  have kl := K3.lt
  go_wp2
  refine region_alloc (zc := (.cells #[.int .i64 0, .int .i64 0] 59)) 22 follows_mixed (by kernel_rfl) rfl (fun _ _ => by kernel_rfl) ?_
  simp only [List.take_succ_cons, List.take_zero, List.drop_succ_cons, List.drop_zero]
  repeat (first
    | ((with_reducible apply grow_plain); (focus rfl); (focus (intro w' hw; obtain ⟨hcq, hfq⟩ := bcell hw; go_simp; (first | done | rfl | (with_reducible exact (part_3 _ _ _)) | (with_reducible exact (lo_03 _))))); (simp only [Act.put, List.setIfInBounds_toArray, List.set_cons_succ, List.set_cons_zero]))
    | ((with_reducible apply grow_skip); (focus (first | (simp [Region.wanted, yielded]; done) | (simp [Region.wanted, yielded, undef]; done))); simp only [Act.put, List.setIfInBounds_toArray, List.set_cons_succ, List.set_cons_zero])
    | ((with_reducible apply grow_go); (focus (first | (simp [Region.wanted, yielded]; done) | (simp [Region.wanted, yielded, undef]; done))); (focus (intro w' hw; obtain ⟨hcq, hfq⟩ := bcell hw; go_simp; (first | done | rfl | (with_reducible exact (part_3 _ _ _)) | (with_reducible exact (lo_03 _))))); (simp only [Act.put, List.setIfInBounds_toArray, List.set_cons_succ, List.set_cons_zero])))
  refine grow_nil ?_
  intro v1 w1 hv1 hb1
  simp only [List.setIfInBounds_toArray, List.set_cons_succ, List.set_cons_zero]
  have B4 := (B3.alloc.past hv1).alloc.past hb1
  have L4 := (L3.alloc.past hv1).alloc.past hb1
  have O4 := (O3.alloc.past hv1).alloc.past hb1
  have P4 := (P3.alloc.past hv1).alloc.past hb1
  have K4 := (K3.alloc.past hv1).alloc.past hb1
  have F4 := (Blk.new v1 59 #[.int .i64 0, .int .i64 0]).past hb1
  have S4 := pt (pa (pt (pa S3) hv1)) hb1
  have hf : kb < v1.heap.size := (K3.alloc.past hv1).lt
  generalize v1.heap.size = fb at *
  clear hb1 hv1 a0 a1 a2 a3 al pf0 pl k0 k1 kl B3 L3 O3 P3 K3 S3
  have pf1 := P4.cellAt 1 rfl
  have pl := P4.lt
  have f0 := F4.cellAt 0 rfl
  have f1 := F4.cellAt 1 rfl
  have g0 := F4.frozen 0
  have g1 := F4.frozen 1
  have fl := F4.lt
  go_wp2_with (go_at_call 44; refine (sm_0 _).mono ?_; rintro e w' ⟨rfl, rfl⟩)
  refine region_below 8 follows_mixed (by kernel_rfl) ?_
  intro C hC
  simp only [List.take_succ_cons, List.take_zero, List.drop_succ_cons, List.drop_zero]
  repeat (first
    | ((with_reducible refine quiet_plain rfl (fun K hK => ?_)); (focus (apply quiet_val; (focus (intro w' hw; obtain ⟨hcq, hfq⟩ := bcell ((hC.out _).1 hw); go_simp; (first | done | rfl | (with_reducible exact call_same hw (part_4 _ _ _))))); (simp only [Act.put, List.setIfInBounds_toArray, List.set_cons_succ, List.set_cons_zero]); (with_reducible refine hK _ ?_); clear hK K)))
    | ((with_reducible refine quiet_skip ?_ ?_); (focus (first | (simp [Region.wanted, yielded]; done) | (simp [Region.wanted, yielded, undef]; done))); simp only [Act.put, List.setIfInBounds_toArray, List.set_cons_succ, List.set_cons_zero])
    | ((with_reducible refine quiet_go ?_ (fun K hK => ?_)); (focus (first | (simp [Region.wanted, yielded]; done) | (simp [Region.wanted, yielded, undef]; done))); (focus (apply quiet_val; (focus (intro w' hw; obtain ⟨hcq, hfq⟩ := bcell ((hC.out _).1 hw); go_simp; (first | done | rfl | (with_reducible exact call_same hw (part_4 _ _ _))))); (simp only [Act.put, List.setIfInBounds_toArray, List.set_cons_succ, List.set_cons_zero]); (with_reducible refine hK _ ?_); clear hK K))))
  refine wpQuiet_nil ?_
  intro w1 hb1
  replace hb1 := (hC.out _).1 hb1
  clear hC C
  obtain ⟨hc1, hf1⟩ := bcell hb1
  have B5 := ((B4.far (by show b ≠ fb; omega)).far (by show b ≠ fb; omega)).past hb1
  have L5 := ((L4.far (by show w.heap.size ≠ fb; omega)).far (by show w.heap.size ≠ fb; omega)).past hb1
  have O5 := ((O4.far (by show o ≠ fb; omega)).far (by show o ≠ fb; omega)).past hb1
  have P5 := ((P4.far (by show pb ≠ fb; omega)).far (by show pb ≠ fb; omega)).past hb1
  have K5 := ((K4.far (by show kb ≠ fb; omega)).far (by show kb ≠ fb; omega)).past hb1
  have S5 := pt (ps (ps S4 (by show w.heap.size ≤ fb; omega)) (by show w.heap.size ≤ fb; omega)) hb1
  clear hb1 hc1 hf1 hf pf1 pl f0 f1 g0 g1 fl F4 B4 L4 O4 P4 K4 S4
  have o0 := O5.cellAt 2 rfl
  have o1 := O5.cellAt 3 rfl
  have g0 := O5.frozen 2
  have g1 := O5.frozen 3
  have ol := O5.lt
  go_wp2
  have B3 : Blk ((w1.setCell ⟨o, 2, none⟩ (.int .i64 0)).setCell ⟨o, 3, none⟩ (.int .i64 1)) b 87 #[.int .i64 12, .int .i64 0, .int .i64 1, .int .i64 1, .int .i64 12, .int .i64 0, .int .i64 2, .int .i64 1] := (B5.far (by show b ≠ o; omega)).far (by show b ≠ o; omega)
  have L3 : Blk ((w1.setCell ⟨o, 2, none⟩ (.int .i64 0)).setCell ⟨o, 3, none⟩ (.int .i64 1)) w.heap.size 24 #[.int .i64 3, .int .i64 0] := (L5.far (by show w.heap.size ≠ o; omega)).far (by show w.heap.size ≠ o; omega)
  have O3 : Blk ((w1.setCell ⟨o, 2, none⟩ (.int .i64 0)).setCell ⟨o, 3, none⟩ (.int .i64 1)) o 90 #[.int .i64 2, .int .i64 1, .int .i64 0, .int .i64 1, .int .i64 1, .int .i64 1, .int .i64 0, .int .i64 0] := (O5.set_ 2 _).set_ 3 _
  have P3 : Blk ((w1.setCell ⟨o, 2, none⟩ (.int .i64 0)).setCell ⟨o, 3, none⟩ (.int .i64 1)) pb 108 #[.func (.func 88) #[] #[], .func (.func 89) #[] #[]] := (P5.far (by show pb ≠ o; omega)).far (by show pb ≠ o; omega)
  have K3 : Blk ((w1.setCell ⟨o, 2, none⟩ (.int .i64 0)).setCell ⟨o, 3, none⟩ (.int .i64 1)) kb 112 #[.int .i64 0, .int .i64 3] := (K5.far (by show kb ≠ o; omega)).far (by show kb ≠ o; omega)
  have S3 : Below w.heap.size w ((w1.setCell ⟨o, 2, none⟩ (.int .i64 0)).setCell ⟨o, 3, none⟩ (.int .i64 1)) := ps (ps S5 (by show w.heap.size ≤ o; omega)) (by show w.heap.size ≤ o; omega)
  generalize (w1.setCell ⟨o, 2, none⟩ (.int .i64 0)).setCell ⟨o, 3, none⟩ (.int .i64 1) = v at *
  clear o0 o1 g0 g1 ol B5 L5 O5 P5 K5 S5
  rw [rounds_succ]
  have a0 := B3.cellAt 4 rfl
  have a1 := B3.cellAt 5 rfl
  have a2 := B3.cellAt 6 rfl
  have a3 := B3.cellAt 7 rfl
  have al := B3.lt
  have pf0 := P3.cellAt 0 rfl
  have pl := P3.lt
  have k0 := K3.cellAt 0 rfl
  have k1 := K3.cellAt 1 rfl
  have kl := K3.lt
  go_wp2
  refine region_alloc (zc := (.cells #[.int .i64 0, .int .i64 0] 59)) 22 follows_mixed (by kernel_rfl) rfl (fun _ _ => by kernel_rfl) ?_
  simp only [List.take_succ_cons, List.take_zero, List.drop_succ_cons, List.drop_zero]
  repeat (first
    | ((with_reducible apply grow_plain); (focus rfl); (focus (intro w' hw; obtain ⟨hcq, hfq⟩ := bcell hw; go_simp; (first | done | rfl | (with_reducible exact (part_3 _ _ _)) | (with_reducible exact (lo_06 _))))); (simp only [Act.put, List.setIfInBounds_toArray, List.set_cons_succ, List.set_cons_zero]))
    | ((with_reducible apply grow_skip); (focus (first | (simp [Region.wanted, yielded]; done) | (simp [Region.wanted, yielded, undef]; done))); simp only [Act.put, List.setIfInBounds_toArray, List.set_cons_succ, List.set_cons_zero])
    | ((with_reducible apply grow_go); (focus (first | (simp [Region.wanted, yielded]; done) | (simp [Region.wanted, yielded, undef]; done))); (focus (intro w' hw; obtain ⟨hcq, hfq⟩ := bcell hw; go_simp; (first | done | rfl | (with_reducible exact (part_3 _ _ _)) | (with_reducible exact (lo_06 _))))); (simp only [Act.put, List.setIfInBounds_toArray, List.set_cons_succ, List.set_cons_zero])))
  refine grow_nil ?_
  intro v1 w1 hv1 hb1
  simp only [List.setIfInBounds_toArray, List.set_cons_succ, List.set_cons_zero]
  have B4 := (B3.alloc.past hv1).alloc.past hb1
  have L4 := (L3.alloc.past hv1).alloc.past hb1
  have O4 := (O3.alloc.past hv1).alloc.past hb1
  have P4 := (P3.alloc.past hv1).alloc.past hb1
  have K4 := (K3.alloc.past hv1).alloc.past hb1
  have F4 := (Blk.new v1 59 #[.int .i64 0, .int .i64 0]).past hb1
  have S4 := pt (pa (pt (pa S3) hv1)) hb1
  have hf : kb < v1.heap.size := (K3.alloc.past hv1).lt
  generalize v1.heap.size = fb at *
  clear hb1 hv1 a0 a1 a2 a3 al pf0 pl k0 k1 kl B3 L3 O3 P3 K3 S3
  have pf1 := P4.cellAt 1 rfl
  have pl := P4.lt
  have f0 := F4.cellAt 0 rfl
  have f1 := F4.cellAt 1 rfl
  have g0 := F4.frozen 0
  have g1 := F4.frozen 1
  have fl := F4.lt
  go_wp2_with (go_at_call 44; refine (sm_0 _).mono ?_; rintro e w' ⟨rfl, rfl⟩)
  refine region_below 8 follows_mixed (by kernel_rfl) ?_
  intro C hC
  simp only [List.take_succ_cons, List.take_zero, List.drop_succ_cons, List.drop_zero]
  repeat (first
    | ((with_reducible refine quiet_plain rfl (fun K hK => ?_)); (focus (apply quiet_val; (focus (intro w' hw; obtain ⟨hcq, hfq⟩ := bcell ((hC.out _).1 hw); go_simp; (first | done | rfl | (with_reducible exact call_same hw (part_4 _ _ _))))); (simp only [Act.put, List.setIfInBounds_toArray, List.set_cons_succ, List.set_cons_zero]); (with_reducible refine hK _ ?_); clear hK K)))
    | ((with_reducible refine quiet_skip ?_ ?_); (focus (first | (simp [Region.wanted, yielded]; done) | (simp [Region.wanted, yielded, undef]; done))); simp only [Act.put, List.setIfInBounds_toArray, List.set_cons_succ, List.set_cons_zero])
    | ((with_reducible refine quiet_go ?_ (fun K hK => ?_)); (focus (first | (simp [Region.wanted, yielded]; done) | (simp [Region.wanted, yielded, undef]; done))); (focus (apply quiet_val; (focus (intro w' hw; obtain ⟨hcq, hfq⟩ := bcell ((hC.out _).1 hw); go_simp; (first | done | rfl | (with_reducible exact call_same hw (part_4 _ _ _))))); (simp only [Act.put, List.setIfInBounds_toArray, List.set_cons_succ, List.set_cons_zero]); (with_reducible refine hK _ ?_); clear hK K))))
  refine wpQuiet_nil ?_
  intro w1 hb1
  replace hb1 := (hC.out _).1 hb1
  clear hC C
  obtain ⟨hc1, hf1⟩ := bcell hb1
  have B5 := ((B4.far (by show b ≠ fb; omega)).far (by show b ≠ fb; omega)).past hb1
  have L5 := ((L4.far (by show w.heap.size ≠ fb; omega)).far (by show w.heap.size ≠ fb; omega)).past hb1
  have O5 := ((O4.far (by show o ≠ fb; omega)).far (by show o ≠ fb; omega)).past hb1
  have P5 := ((P4.far (by show pb ≠ fb; omega)).far (by show pb ≠ fb; omega)).past hb1
  have K5 := ((K4.far (by show kb ≠ fb; omega)).far (by show kb ≠ fb; omega)).past hb1
  have S5 := pt (ps (ps S4 (by show w.heap.size ≤ fb; omega)) (by show w.heap.size ≤ fb; omega)) hb1
  clear hb1 hc1 hf1 hf pf1 pl f0 f1 g0 g1 fl F4 B4 L4 O4 P4 K4 S4
  have o0 := O5.cellAt 6 rfl
  have o1 := O5.cellAt 7 rfl
  have g0 := O5.frozen 6
  have g1 := O5.frozen 7
  have ol := O5.lt
  go_wp2
  have B3 : Blk ((w1.setCell ⟨o, 6, none⟩ (.int .i64 0)).setCell ⟨o, 7, none⟩ (.int .i64 1)) b 87 #[.int .i64 12, .int .i64 0, .int .i64 1, .int .i64 1, .int .i64 12, .int .i64 0, .int .i64 2, .int .i64 1] := (B5.far (by show b ≠ o; omega)).far (by show b ≠ o; omega)
  have L3 : Blk ((w1.setCell ⟨o, 6, none⟩ (.int .i64 0)).setCell ⟨o, 7, none⟩ (.int .i64 1)) w.heap.size 24 #[.int .i64 3, .int .i64 0] := (L5.far (by show w.heap.size ≠ o; omega)).far (by show w.heap.size ≠ o; omega)
  have O3 : Blk ((w1.setCell ⟨o, 6, none⟩ (.int .i64 0)).setCell ⟨o, 7, none⟩ (.int .i64 1)) o 90 #[.int .i64 2, .int .i64 1, .int .i64 0, .int .i64 1, .int .i64 1, .int .i64 1, .int .i64 0, .int .i64 1] := (O5.set_ 6 _).set_ 7 _
  have P3 : Blk ((w1.setCell ⟨o, 6, none⟩ (.int .i64 0)).setCell ⟨o, 7, none⟩ (.int .i64 1)) pb 108 #[.func (.func 88) #[] #[], .func (.func 89) #[] #[]] := (P5.far (by show pb ≠ o; omega)).far (by show pb ≠ o; omega)
  have K3 : Blk ((w1.setCell ⟨o, 6, none⟩ (.int .i64 0)).setCell ⟨o, 7, none⟩ (.int .i64 1)) kb 112 #[.int .i64 0, .int .i64 3] := (K5.far (by show kb ≠ o; omega)).far (by show kb ≠ o; omega)
  have S3 : Below w.heap.size w ((w1.setCell ⟨o, 6, none⟩ (.int .i64 0)).setCell ⟨o, 7, none⟩ (.int .i64 1)) := ps (ps S5 (by show w.heap.size ≤ o; omega)) (by show w.heap.size ≤ o; omega)
  generalize (w1.setCell ⟨o, 6, none⟩ (.int .i64 0)).setCell ⟨o, 7, none⟩ (.int .i64 1) = v at *
  clear o0 o1 g0 g1 ol B5 L5 O5 P5 K5 S5
  rw [rounds_succ]
  go_wp2
  have B0 := B3
  have L0 := L3
  have O0 := O3
  have S0 := S3
  clear B3 L3 O3 S3 P3 K3 hk hp
  rw [rounds_succ]
  go_wp2
  go_ret2
  exact ⟨o, rfl, S0, by omega, O0⟩

end Go.Proofs.YtpdkbhjcpddnpaaGreatDoor
end
