/- Contracts of lines: their sequence. -/
import Derived.Test.YtnhcamokcggnkaaGreatDoorGALines
namespace Go.Proofs.YtnhcamokcggnkaaGreatDoor
open Go.RowKit
attribute [local go_sem ↓] Go.wp_at_zero Go.wp_at_succ

def phB (p q r s : Int) : Bool := p == r && q == s
theorem phB_iff (p q r s : Int) : phB p q r s = true ↔ (p, q) = (r, s) := by simp [phB]
theorem ph_eql (p q r s : Int) (W : World) : (binOp .eql 152 (.agg #[.int .i64 p, .int .i64 q]) (.agg #[.int .i64 r, .int .i64 s])).run Tryz.prog W = .ok (.bool (phB p q r s)) W := by
  simp [go_sem, phB]
  by_cases h1 : p = r <;> by_cases h2 : q = s <;> simp [h1, h2]
attribute [local go_sem ↓ high] ph_eql

theorem ss_at0 (W : World) : Sem.run Tryz.prog (Instr.index 194 (.agg #[.int .i64 2, .int .i64 1, .int .i64 1, .int .i64 (-1)]) (.int .i64 0)) W = .ok (.agg #[.int .i64 2, .int .i64 1]) W := by kernel_rfl
theorem ss_at1 (W : World) : Sem.run Tryz.prog (Instr.index 194 (.agg #[.int .i64 2, .int .i64 1, .int .i64 1, .int .i64 (-1)]) (.int .i64 1)) W = .ok (.agg #[.int .i64 1, .int .i64 (-1)]) W := by kernel_rfl
attribute [local go_sem] ss_at0 ss_at1

theorem turned_ex1 (p q : Int) (hp : Sm 1000000 p) (hq : Sm 1000000 q) : ∃ a b, (a, b) = turn1 (p, q) ∧ ∀ w, Calls Tryz.prog 134 #[.agg #[.int .i64 p, .int .i64 q], .int .i64 1] w fun e w' => e = .returned (.agg #[.int .i64 a, .int .i64 b]) ∧ Below w.heap.size w w' :=
  ⟨_, _, rfl, turned_1 p q hp hq⟩
theorem turned_ex2 (p q : Int) (hp : Sm 1000000 p) (hq : Sm 1000000 q) : ∃ a b, (a, b) = turn2 (p, q) ∧ ∀ w, Calls Tryz.prog 134 #[.agg #[.int .i64 p, .int .i64 q], .int .i64 2] w fun e w' => e = .returned (.agg #[.int .i64 a, .int .i64 b]) ∧ Below w.heap.size w w' :=
  ⟨_, _, rfl, turned_2 p q hp hq⟩

def seqF (A1 A2 B1 B2 : Bool) : Int := if A1 && A2 then 1 else if B1 && B2 then -1 else 0

set_option maxHeartbeats 8000000 in
set_option maxRecDepth 100000 in
theorem sequence_core (x1 x2 x3 x4 x5 x6 x7 x8 x9 p0 q0 p1 q1 p2 q2 a1 a2 b1 b2 c1 c2 d1 d2 : Int) (w : World)
    (ha : ∀ w, Calls Tryz.prog 87 #[.agg #[.int .i64 x1, .int .i64 x2, .int .i64 x3, .int .i64 x4, .int .i64 x5, .int .i64 x6, .int .i64 x7, .int .i64 x8, .int .i64 x9], .int .i64 0] w fun r w' => r = .returned (.agg #[.int .i64 p0, .int .i64 q0]) ∧ Below w.heap.size w w')
    (hb : ∀ w, Calls Tryz.prog 87 #[.agg #[.int .i64 x1, .int .i64 x2, .int .i64 x3, .int .i64 x4, .int .i64 x5, .int .i64 x6, .int .i64 x7, .int .i64 x8, .int .i64 x9], .int .i64 1] w fun r w' => r = .returned (.agg #[.int .i64 p1, .int .i64 q1]) ∧ Below w.heap.size w w')
    (hc : ∀ w, Calls Tryz.prog 87 #[.agg #[.int .i64 x1, .int .i64 x2, .int .i64 x3, .int .i64 x4, .int .i64 x5, .int .i64 x6, .int .i64 x7, .int .i64 x8, .int .i64 x9], .int .i64 2] w fun r w' => r = .returned (.agg #[.int .i64 p2, .int .i64 q2]) ∧ Below w.heap.size w w')
    (h21 : ∀ w, Calls Tryz.prog 134 #[.agg #[.int .i64 p0, .int .i64 q0], .int .i64 2] w fun e w' => e = .returned (.agg #[.int .i64 a1, .int .i64 a2]) ∧ Below w.heap.size w w')
    (h22 : ∀ w, Calls Tryz.prog 134 #[.agg #[.int .i64 p1, .int .i64 q1], .int .i64 2] w fun e w' => e = .returned (.agg #[.int .i64 b1, .int .i64 b2]) ∧ Below w.heap.size w w')
    (h11 : ∀ w, Calls Tryz.prog 134 #[.agg #[.int .i64 p0, .int .i64 q0], .int .i64 1] w fun e w' => e = .returned (.agg #[.int .i64 c1, .int .i64 c2]) ∧ Below w.heap.size w w')
    (h12 : ∀ w, Calls Tryz.prog 134 #[.agg #[.int .i64 p1, .int .i64 q1], .int .i64 1] w fun e w' => e = .returned (.agg #[.int .i64 d1, .int .i64 d2]) ∧ Below w.heap.size w w') :
    Calls Tryz.prog 88 #[.agg #[.int .i64 x1, .int .i64 x2, .int .i64 x3, .int .i64 x4, .int .i64 x5, .int .i64 x6, .int .i64 x7, .int .i64 x8, .int .i64 x9]] w fun r w' => r = .returned (.int .i64 (seqF (phB p1 q1 a1 a2) (phB p2 q2 b1 b2) (phB p1 q1 c1 c2) (phB p2 q2 d1 d2))) ∧ Below w.heap.size w w' := by
  have HA := Lib.hid ha
  have HB := Lib.hid hb
  have HC := Lib.hid hc
  have T1 := Lib.hid h21
  have T2 := Lib.hid h22
  have U1 := Lib.hid h11
  have U2 := Lib.hid h12
  clear ha hb hc h21 h22 h11 h12
  obtain ⟨X, hX⟩ : ∃ X, seqF (phB p1 q1 a1 a2) (phB p2 q2 b1 b2) (phB p1 q1 c1 c2) (phB p2 q2 d1 d2) = X := ⟨_, rfl⟩
  rw [hX]
  have HX := Lib.hid hX
  clear hX
  go_enter Tryz.func88, Tryz.ntmps88
  go_wp2
  refine wp_loop_rounds 3 ?_
  rw [rounds_succ]
  cases A1 : phB p1 q1 a1 a2
  · skip
    go_wp2
    refine region_below 17 follows_mixed (by kernel_rfl) ?_
    intro C hC
    simp only [List.take_succ_cons, List.take_zero, List.drop_succ_cons, List.drop_zero]
    repeat (first
      | ((with_reducible refine quiet_plain rfl (fun K hK => ?_)); (focus (apply quiet_val; (focus (intro w' hw; obtain ⟨hcq, hfq⟩ := bcell ((hC.out _).1 hw); go_simp; (first | done | rfl | (with_reducible exact call_below hC hw (HA.out _)) | (with_reducible exact call_below hC hw (HB.out _)) | (with_reducible exact call_below hC hw (HC.out _)) | (with_reducible exact call_below hC hw (T1.out _)) | (with_reducible exact call_below hC hw (T2.out _))))); (simp only [Act.put, List.setIfInBounds_toArray, List.set_cons_succ, List.set_cons_zero]); (with_reducible refine hK _ ?_); clear hK K)))
      | ((with_reducible refine quiet_skip ?_ ?_); (focus (first | (simp [Region.wanted, yielded]; done) | (simp [Region.wanted, yielded, undef]; done))); simp only [Act.put, List.setIfInBounds_toArray, List.set_cons_succ, List.set_cons_zero])
      | ((with_reducible refine quiet_go ?_ (fun K hK => ?_)); (focus (first | (simp [Region.wanted, yielded]; done) | (simp [Region.wanted, yielded, undef]; done))); (focus (apply quiet_val; (focus (intro w' hw; obtain ⟨hcq, hfq⟩ := bcell ((hC.out _).1 hw); go_simp; (first | done | rfl | (with_reducible exact call_below hC hw (HA.out _)) | (with_reducible exact call_below hC hw (HB.out _)) | (with_reducible exact call_below hC hw (HC.out _)) | (with_reducible exact call_below hC hw (T1.out _)) | (with_reducible exact call_below hC hw (T2.out _))))); (simp only [Act.put, List.setIfInBounds_toArray, List.set_cons_succ, List.set_cons_zero]); (with_reducible refine hK _ ?_); clear hK K))))
    refine wpQuiet_nil ?_
    intro w1 hb1
    replace hb1 := (hC.out _).1 hb1
    clear hC C
    obtain ⟨hc1, hf1⟩ := bcell hb1
    have P1 : Blk w1 w.heap.size 149 #[.int .i64 x1, .int .i64 x2, .int .i64 x3, .int .i64 x4, .int .i64 x5, .int .i64 x6, .int .i64 x7, .int .i64 x8, .int .i64 x9] := (Blk.newAt rfl).alloc.past hb1
    have K1 : Blk w1 (w.heap.size + 1) 193 #[.int .i64 2, .int .i64 1] := (Blk.newAt (by simp)).past hb1
    have S1 : Below w.heap.size w w1 := pt (pa (pa pr)) hb1
    have u0 := P1.cellAt 0 rfl
    have u1 := P1.cellAt 1 rfl
    have u2 := P1.cellAt 2 rfl
    have u3 := P1.cellAt 3 rfl
    have u4 := P1.cellAt 4 rfl
    have u5 := P1.cellAt 5 rfl
    have u6 := P1.cellAt 6 rfl
    have u7 := P1.cellAt 7 rfl
    have u8 := P1.cellAt 8 rfl
    have ul := P1.lt
    have k1 := K1.cellAt 1 rfl
    clear hb1 hc1 hf1
    go_wp2
    obtain ⟨v1, rfl⟩ : ∃ v, v = w1 := ⟨_, rfl⟩
    rw [rounds_succ]
    cases B1 : phB p1 q1 c1 c2
    · skip
      go_wp2
      refine region_below 17 follows_mixed (by kernel_rfl) ?_
      intro C hC
      simp only [List.take_succ_cons, List.take_zero, List.drop_succ_cons, List.drop_zero]
      repeat (first
        | ((with_reducible refine quiet_plain rfl (fun K hK => ?_)); (focus (apply quiet_val; (focus (intro w' hw; obtain ⟨hcq, hfq⟩ := bcell ((hC.out _).1 hw); go_simp; (first | done | rfl | (with_reducible exact call_below hC hw (HA.out _)) | (with_reducible exact call_below hC hw (HB.out _)) | (with_reducible exact call_below hC hw (HC.out _)) | (with_reducible exact call_below hC hw (U1.out _)) | (with_reducible exact call_below hC hw (U2.out _))))); (simp only [Act.put, List.setIfInBounds_toArray, List.set_cons_succ, List.set_cons_zero]); (with_reducible refine hK _ ?_); clear hK K)))
        | ((with_reducible refine quiet_skip ?_ ?_); (focus (first | (simp [Region.wanted, yielded]; done) | (simp [Region.wanted, yielded, undef]; done))); simp only [Act.put, List.setIfInBounds_toArray, List.set_cons_succ, List.set_cons_zero])
        | ((with_reducible refine quiet_go ?_ (fun K hK => ?_)); (focus (first | (simp [Region.wanted, yielded]; done) | (simp [Region.wanted, yielded, undef]; done))); (focus (apply quiet_val; (focus (intro w' hw; obtain ⟨hcq, hfq⟩ := bcell ((hC.out _).1 hw); go_simp; (first | done | rfl | (with_reducible exact call_below hC hw (HA.out _)) | (with_reducible exact call_below hC hw (HB.out _)) | (with_reducible exact call_below hC hw (HC.out _)) | (with_reducible exact call_below hC hw (U1.out _)) | (with_reducible exact call_below hC hw (U2.out _))))); (simp only [Act.put, List.setIfInBounds_toArray, List.set_cons_succ, List.set_cons_zero]); (with_reducible refine hK _ ?_); clear hK K))))
      refine wpQuiet_nil ?_
      intro w1 hb1
      replace hb1 := (hC.out _).1 hb1
      clear hC C
      obtain ⟨hc1, hf1⟩ := bcell hb1
      have K2 := (Blk.new v1 193 #[.int .i64 1, .int .i64 (-1)]).past hb1
      have S2 : Below w.heap.size w w1 := pt (pa S1) hb1
      have k1 := K2.cellAt 1 rfl
      clear hb1 hc1 hf1
      go_wp2
      rw [rounds_succ]
      go_wp2
      go_ret
      exact ⟨ret_int (by rw [← HX.out]; simp [seqF, A1, B1]), S2⟩
    · cases B2 : phB p2 q2 d1 d2
      · skip
        go_wp2
        refine region_below 17 follows_mixed (by kernel_rfl) ?_
        intro C hC
        simp only [List.take_succ_cons, List.take_zero, List.drop_succ_cons, List.drop_zero]
        repeat (first
          | ((with_reducible refine quiet_plain rfl (fun K hK => ?_)); (focus (apply quiet_val; (focus (intro w' hw; obtain ⟨hcq, hfq⟩ := bcell ((hC.out _).1 hw); go_simp; (first | done | rfl | (with_reducible exact call_below hC hw (HA.out _)) | (with_reducible exact call_below hC hw (HB.out _)) | (with_reducible exact call_below hC hw (HC.out _)) | (with_reducible exact call_below hC hw (U1.out _)) | (with_reducible exact call_below hC hw (U2.out _))))); (simp only [Act.put, List.setIfInBounds_toArray, List.set_cons_succ, List.set_cons_zero]); (with_reducible refine hK _ ?_); clear hK K)))
          | ((with_reducible refine quiet_skip ?_ ?_); (focus (first | (simp [Region.wanted, yielded]; done) | (simp [Region.wanted, yielded, undef]; done))); simp only [Act.put, List.setIfInBounds_toArray, List.set_cons_succ, List.set_cons_zero])
          | ((with_reducible refine quiet_go ?_ (fun K hK => ?_)); (focus (first | (simp [Region.wanted, yielded]; done) | (simp [Region.wanted, yielded, undef]; done))); (focus (apply quiet_val; (focus (intro w' hw; obtain ⟨hcq, hfq⟩ := bcell ((hC.out _).1 hw); go_simp; (first | done | rfl | (with_reducible exact call_below hC hw (HA.out _)) | (with_reducible exact call_below hC hw (HB.out _)) | (with_reducible exact call_below hC hw (HC.out _)) | (with_reducible exact call_below hC hw (U1.out _)) | (with_reducible exact call_below hC hw (U2.out _))))); (simp only [Act.put, List.setIfInBounds_toArray, List.set_cons_succ, List.set_cons_zero]); (with_reducible refine hK _ ?_); clear hK K))))
        refine wpQuiet_nil ?_
        intro w1 hb1
        replace hb1 := (hC.out _).1 hb1
        clear hC C
        obtain ⟨hc1, hf1⟩ := bcell hb1
        have K2 := (Blk.new v1 193 #[.int .i64 1, .int .i64 (-1)]).past hb1
        have S2 : Below w.heap.size w w1 := pt (pa S1) hb1
        have k1 := K2.cellAt 1 rfl
        clear hb1 hc1 hf1
        go_wp2
        rw [rounds_succ]
        go_wp2
        go_ret
        exact ⟨ret_int (by rw [← HX.out]; simp [seqF, A1, B1, B2]), S2⟩
      · skip
        go_wp2
        refine region_below 17 follows_mixed (by kernel_rfl) ?_
        intro C hC
        simp only [List.take_succ_cons, List.take_zero, List.drop_succ_cons, List.drop_zero]
        repeat (first
          | ((with_reducible refine quiet_plain rfl (fun K hK => ?_)); (focus (apply quiet_val; (focus (intro w' hw; obtain ⟨hcq, hfq⟩ := bcell ((hC.out _).1 hw); go_simp; (first | done | rfl | (with_reducible exact call_below hC hw (HA.out _)) | (with_reducible exact call_below hC hw (HB.out _)) | (with_reducible exact call_below hC hw (HC.out _)) | (with_reducible exact call_below hC hw (U1.out _)) | (with_reducible exact call_below hC hw (U2.out _))))); (simp only [Act.put, List.setIfInBounds_toArray, List.set_cons_succ, List.set_cons_zero]); (with_reducible refine hK _ ?_); clear hK K)))
          | ((with_reducible refine quiet_skip ?_ ?_); (focus (first | (simp [Region.wanted, yielded]; done) | (simp [Region.wanted, yielded, undef]; done))); simp only [Act.put, List.setIfInBounds_toArray, List.set_cons_succ, List.set_cons_zero])
          | ((with_reducible refine quiet_go ?_ (fun K hK => ?_)); (focus (first | (simp [Region.wanted, yielded]; done) | (simp [Region.wanted, yielded, undef]; done))); (focus (apply quiet_val; (focus (intro w' hw; obtain ⟨hcq, hfq⟩ := bcell ((hC.out _).1 hw); go_simp; (first | done | rfl | (with_reducible exact call_below hC hw (HA.out _)) | (with_reducible exact call_below hC hw (HB.out _)) | (with_reducible exact call_below hC hw (HC.out _)) | (with_reducible exact call_below hC hw (U1.out _)) | (with_reducible exact call_below hC hw (U2.out _))))); (simp only [Act.put, List.setIfInBounds_toArray, List.set_cons_succ, List.set_cons_zero]); (with_reducible refine hK _ ?_); clear hK K))))
        refine wpQuiet_nil ?_
        intro w1 hb1
        replace hb1 := (hC.out _).1 hb1
        clear hC C
        obtain ⟨hc1, hf1⟩ := bcell hb1
        have K2 := (Blk.new v1 193 #[.int .i64 1, .int .i64 (-1)]).past hb1
        have S2 : Below w.heap.size w w1 := pt (pa S1) hb1
        have k1 := K2.cellAt 1 rfl
        clear hb1 hc1 hf1
        go_wp2
        go_ret
        exact ⟨ret_int (by rw [← HX.out]; simp [seqF, A1, B1, B2]), S2⟩
  · cases A2 : phB p2 q2 b1 b2
    · skip
      go_wp2
      refine region_below 17 follows_mixed (by kernel_rfl) ?_
      intro C hC
      simp only [List.take_succ_cons, List.take_zero, List.drop_succ_cons, List.drop_zero]
      repeat (first
        | ((with_reducible refine quiet_plain rfl (fun K hK => ?_)); (focus (apply quiet_val; (focus (intro w' hw; obtain ⟨hcq, hfq⟩ := bcell ((hC.out _).1 hw); go_simp; (first | done | rfl | (with_reducible exact call_below hC hw (HA.out _)) | (with_reducible exact call_below hC hw (HB.out _)) | (with_reducible exact call_below hC hw (HC.out _)) | (with_reducible exact call_below hC hw (T1.out _)) | (with_reducible exact call_below hC hw (T2.out _))))); (simp only [Act.put, List.setIfInBounds_toArray, List.set_cons_succ, List.set_cons_zero]); (with_reducible refine hK _ ?_); clear hK K)))
        | ((with_reducible refine quiet_skip ?_ ?_); (focus (first | (simp [Region.wanted, yielded]; done) | (simp [Region.wanted, yielded, undef]; done))); simp only [Act.put, List.setIfInBounds_toArray, List.set_cons_succ, List.set_cons_zero])
        | ((with_reducible refine quiet_go ?_ (fun K hK => ?_)); (focus (first | (simp [Region.wanted, yielded]; done) | (simp [Region.wanted, yielded, undef]; done))); (focus (apply quiet_val; (focus (intro w' hw; obtain ⟨hcq, hfq⟩ := bcell ((hC.out _).1 hw); go_simp; (first | done | rfl | (with_reducible exact call_below hC hw (HA.out _)) | (with_reducible exact call_below hC hw (HB.out _)) | (with_reducible exact call_below hC hw (HC.out _)) | (with_reducible exact call_below hC hw (T1.out _)) | (with_reducible exact call_below hC hw (T2.out _))))); (simp only [Act.put, List.setIfInBounds_toArray, List.set_cons_succ, List.set_cons_zero]); (with_reducible refine hK _ ?_); clear hK K))))
      refine wpQuiet_nil ?_
      intro w1 hb1
      replace hb1 := (hC.out _).1 hb1
      clear hC C
      obtain ⟨hc1, hf1⟩ := bcell hb1
      have P1 : Blk w1 w.heap.size 149 #[.int .i64 x1, .int .i64 x2, .int .i64 x3, .int .i64 x4, .int .i64 x5, .int .i64 x6, .int .i64 x7, .int .i64 x8, .int .i64 x9] := (Blk.newAt rfl).alloc.past hb1
      have K1 : Blk w1 (w.heap.size + 1) 193 #[.int .i64 2, .int .i64 1] := (Blk.newAt (by simp)).past hb1
      have S1 : Below w.heap.size w w1 := pt (pa (pa pr)) hb1
      have u0 := P1.cellAt 0 rfl
      have u1 := P1.cellAt 1 rfl
      have u2 := P1.cellAt 2 rfl
      have u3 := P1.cellAt 3 rfl
      have u4 := P1.cellAt 4 rfl
      have u5 := P1.cellAt 5 rfl
      have u6 := P1.cellAt 6 rfl
      have u7 := P1.cellAt 7 rfl
      have u8 := P1.cellAt 8 rfl
      have ul := P1.lt
      have k1 := K1.cellAt 1 rfl
      clear hb1 hc1 hf1
      go_wp2
      obtain ⟨v1, rfl⟩ : ∃ v, v = w1 := ⟨_, rfl⟩
      rw [rounds_succ]
      cases B1 : phB p1 q1 c1 c2
      · skip
        go_wp2
        refine region_below 17 follows_mixed (by kernel_rfl) ?_
        intro C hC
        simp only [List.take_succ_cons, List.take_zero, List.drop_succ_cons, List.drop_zero]
        repeat (first
          | ((with_reducible refine quiet_plain rfl (fun K hK => ?_)); (focus (apply quiet_val; (focus (intro w' hw; obtain ⟨hcq, hfq⟩ := bcell ((hC.out _).1 hw); go_simp; (first | done | rfl | (with_reducible exact call_below hC hw (HA.out _)) | (with_reducible exact call_below hC hw (HB.out _)) | (with_reducible exact call_below hC hw (HC.out _)) | (with_reducible exact call_below hC hw (U1.out _)) | (with_reducible exact call_below hC hw (U2.out _))))); (simp only [Act.put, List.setIfInBounds_toArray, List.set_cons_succ, List.set_cons_zero]); (with_reducible refine hK _ ?_); clear hK K)))
          | ((with_reducible refine quiet_skip ?_ ?_); (focus (first | (simp [Region.wanted, yielded]; done) | (simp [Region.wanted, yielded, undef]; done))); simp only [Act.put, List.setIfInBounds_toArray, List.set_cons_succ, List.set_cons_zero])
          | ((with_reducible refine quiet_go ?_ (fun K hK => ?_)); (focus (first | (simp [Region.wanted, yielded]; done) | (simp [Region.wanted, yielded, undef]; done))); (focus (apply quiet_val; (focus (intro w' hw; obtain ⟨hcq, hfq⟩ := bcell ((hC.out _).1 hw); go_simp; (first | done | rfl | (with_reducible exact call_below hC hw (HA.out _)) | (with_reducible exact call_below hC hw (HB.out _)) | (with_reducible exact call_below hC hw (HC.out _)) | (with_reducible exact call_below hC hw (U1.out _)) | (with_reducible exact call_below hC hw (U2.out _))))); (simp only [Act.put, List.setIfInBounds_toArray, List.set_cons_succ, List.set_cons_zero]); (with_reducible refine hK _ ?_); clear hK K))))
        refine wpQuiet_nil ?_
        intro w1 hb1
        replace hb1 := (hC.out _).1 hb1
        clear hC C
        obtain ⟨hc1, hf1⟩ := bcell hb1
        have K2 := (Blk.new v1 193 #[.int .i64 1, .int .i64 (-1)]).past hb1
        have S2 : Below w.heap.size w w1 := pt (pa S1) hb1
        have k1 := K2.cellAt 1 rfl
        clear hb1 hc1 hf1
        go_wp2
        rw [rounds_succ]
        go_wp2
        go_ret
        exact ⟨ret_int (by rw [← HX.out]; simp [seqF, A1, A2, B1]), S2⟩
      · cases B2 : phB p2 q2 d1 d2
        · skip
          go_wp2
          refine region_below 17 follows_mixed (by kernel_rfl) ?_
          intro C hC
          simp only [List.take_succ_cons, List.take_zero, List.drop_succ_cons, List.drop_zero]
          repeat (first
            | ((with_reducible refine quiet_plain rfl (fun K hK => ?_)); (focus (apply quiet_val; (focus (intro w' hw; obtain ⟨hcq, hfq⟩ := bcell ((hC.out _).1 hw); go_simp; (first | done | rfl | (with_reducible exact call_below hC hw (HA.out _)) | (with_reducible exact call_below hC hw (HB.out _)) | (with_reducible exact call_below hC hw (HC.out _)) | (with_reducible exact call_below hC hw (U1.out _)) | (with_reducible exact call_below hC hw (U2.out _))))); (simp only [Act.put, List.setIfInBounds_toArray, List.set_cons_succ, List.set_cons_zero]); (with_reducible refine hK _ ?_); clear hK K)))
            | ((with_reducible refine quiet_skip ?_ ?_); (focus (first | (simp [Region.wanted, yielded]; done) | (simp [Region.wanted, yielded, undef]; done))); simp only [Act.put, List.setIfInBounds_toArray, List.set_cons_succ, List.set_cons_zero])
            | ((with_reducible refine quiet_go ?_ (fun K hK => ?_)); (focus (first | (simp [Region.wanted, yielded]; done) | (simp [Region.wanted, yielded, undef]; done))); (focus (apply quiet_val; (focus (intro w' hw; obtain ⟨hcq, hfq⟩ := bcell ((hC.out _).1 hw); go_simp; (first | done | rfl | (with_reducible exact call_below hC hw (HA.out _)) | (with_reducible exact call_below hC hw (HB.out _)) | (with_reducible exact call_below hC hw (HC.out _)) | (with_reducible exact call_below hC hw (U1.out _)) | (with_reducible exact call_below hC hw (U2.out _))))); (simp only [Act.put, List.setIfInBounds_toArray, List.set_cons_succ, List.set_cons_zero]); (with_reducible refine hK _ ?_); clear hK K))))
          refine wpQuiet_nil ?_
          intro w1 hb1
          replace hb1 := (hC.out _).1 hb1
          clear hC C
          obtain ⟨hc1, hf1⟩ := bcell hb1
          have K2 := (Blk.new v1 193 #[.int .i64 1, .int .i64 (-1)]).past hb1
          have S2 : Below w.heap.size w w1 := pt (pa S1) hb1
          have k1 := K2.cellAt 1 rfl
          clear hb1 hc1 hf1
          go_wp2
          rw [rounds_succ]
          go_wp2
          go_ret
          exact ⟨ret_int (by rw [← HX.out]; simp [seqF, A1, A2, B1, B2]), S2⟩
        · skip
          go_wp2
          refine region_below 17 follows_mixed (by kernel_rfl) ?_
          intro C hC
          simp only [List.take_succ_cons, List.take_zero, List.drop_succ_cons, List.drop_zero]
          repeat (first
            | ((with_reducible refine quiet_plain rfl (fun K hK => ?_)); (focus (apply quiet_val; (focus (intro w' hw; obtain ⟨hcq, hfq⟩ := bcell ((hC.out _).1 hw); go_simp; (first | done | rfl | (with_reducible exact call_below hC hw (HA.out _)) | (with_reducible exact call_below hC hw (HB.out _)) | (with_reducible exact call_below hC hw (HC.out _)) | (with_reducible exact call_below hC hw (U1.out _)) | (with_reducible exact call_below hC hw (U2.out _))))); (simp only [Act.put, List.setIfInBounds_toArray, List.set_cons_succ, List.set_cons_zero]); (with_reducible refine hK _ ?_); clear hK K)))
            | ((with_reducible refine quiet_skip ?_ ?_); (focus (first | (simp [Region.wanted, yielded]; done) | (simp [Region.wanted, yielded, undef]; done))); simp only [Act.put, List.setIfInBounds_toArray, List.set_cons_succ, List.set_cons_zero])
            | ((with_reducible refine quiet_go ?_ (fun K hK => ?_)); (focus (first | (simp [Region.wanted, yielded]; done) | (simp [Region.wanted, yielded, undef]; done))); (focus (apply quiet_val; (focus (intro w' hw; obtain ⟨hcq, hfq⟩ := bcell ((hC.out _).1 hw); go_simp; (first | done | rfl | (with_reducible exact call_below hC hw (HA.out _)) | (with_reducible exact call_below hC hw (HB.out _)) | (with_reducible exact call_below hC hw (HC.out _)) | (with_reducible exact call_below hC hw (U1.out _)) | (with_reducible exact call_below hC hw (U2.out _))))); (simp only [Act.put, List.setIfInBounds_toArray, List.set_cons_succ, List.set_cons_zero]); (with_reducible refine hK _ ?_); clear hK K))))
          refine wpQuiet_nil ?_
          intro w1 hb1
          replace hb1 := (hC.out _).1 hb1
          clear hC C
          obtain ⟨hc1, hf1⟩ := bcell hb1
          have K2 := (Blk.new v1 193 #[.int .i64 1, .int .i64 (-1)]).past hb1
          have S2 : Below w.heap.size w w1 := pt (pa S1) hb1
          have k1 := K2.cellAt 1 rfl
          clear hb1 hc1 hf1
          go_wp2
          go_ret
          exact ⟨ret_int (by rw [← HX.out]; simp [seqF, A1, A2, B1, B2]), S2⟩
    · skip
      go_wp2
      refine region_below 17 follows_mixed (by kernel_rfl) ?_
      intro C hC
      simp only [List.take_succ_cons, List.take_zero, List.drop_succ_cons, List.drop_zero]
      repeat (first
        | ((with_reducible refine quiet_plain rfl (fun K hK => ?_)); (focus (apply quiet_val; (focus (intro w' hw; obtain ⟨hcq, hfq⟩ := bcell ((hC.out _).1 hw); go_simp; (first | done | rfl | (with_reducible exact call_below hC hw (HA.out _)) | (with_reducible exact call_below hC hw (HB.out _)) | (with_reducible exact call_below hC hw (HC.out _)) | (with_reducible exact call_below hC hw (T1.out _)) | (with_reducible exact call_below hC hw (T2.out _))))); (simp only [Act.put, List.setIfInBounds_toArray, List.set_cons_succ, List.set_cons_zero]); (with_reducible refine hK _ ?_); clear hK K)))
        | ((with_reducible refine quiet_skip ?_ ?_); (focus (first | (simp [Region.wanted, yielded]; done) | (simp [Region.wanted, yielded, undef]; done))); simp only [Act.put, List.setIfInBounds_toArray, List.set_cons_succ, List.set_cons_zero])
        | ((with_reducible refine quiet_go ?_ (fun K hK => ?_)); (focus (first | (simp [Region.wanted, yielded]; done) | (simp [Region.wanted, yielded, undef]; done))); (focus (apply quiet_val; (focus (intro w' hw; obtain ⟨hcq, hfq⟩ := bcell ((hC.out _).1 hw); go_simp; (first | done | rfl | (with_reducible exact call_below hC hw (HA.out _)) | (with_reducible exact call_below hC hw (HB.out _)) | (with_reducible exact call_below hC hw (HC.out _)) | (with_reducible exact call_below hC hw (T1.out _)) | (with_reducible exact call_below hC hw (T2.out _))))); (simp only [Act.put, List.setIfInBounds_toArray, List.set_cons_succ, List.set_cons_zero]); (with_reducible refine hK _ ?_); clear hK K))))
      refine wpQuiet_nil ?_
      intro w1 hb1
      replace hb1 := (hC.out _).1 hb1
      clear hC C
      obtain ⟨hc1, hf1⟩ := bcell hb1
      have P1 : Blk w1 w.heap.size 149 #[.int .i64 x1, .int .i64 x2, .int .i64 x3, .int .i64 x4, .int .i64 x5, .int .i64 x6, .int .i64 x7, .int .i64 x8, .int .i64 x9] := (Blk.newAt rfl).alloc.past hb1
      have K1 : Blk w1 (w.heap.size + 1) 193 #[.int .i64 2, .int .i64 1] := (Blk.newAt (by simp)).past hb1
      have S1 : Below w.heap.size w w1 := pt (pa (pa pr)) hb1
      have u0 := P1.cellAt 0 rfl
      have u1 := P1.cellAt 1 rfl
      have u2 := P1.cellAt 2 rfl
      have u3 := P1.cellAt 3 rfl
      have u4 := P1.cellAt 4 rfl
      have u5 := P1.cellAt 5 rfl
      have u6 := P1.cellAt 6 rfl
      have u7 := P1.cellAt 7 rfl
      have u8 := P1.cellAt 8 rfl
      have ul := P1.lt
      have k1 := K1.cellAt 1 rfl
      clear hb1 hc1 hf1
      go_wp2
      obtain ⟨v1, rfl⟩ : ∃ v, v = w1 := ⟨_, rfl⟩
      go_ret
      exact ⟨ret_int (by rw [← HX.out]; simp [seqF, A1, A2]), S1⟩

theorem sequence_any (l : L3) (h1 : Sm 10000 l.x.a) (h2 : Sm 10000 l.x.b) (h3 : Sm 10000 l.x.c) (h4 : Sm 10000 l.y.a) (h5 : Sm 10000 l.y.b) (h6 : Sm 10000 l.y.c) (h7 : Sm 10000 l.z.a) (h8 : Sm 10000 l.z.b) (h9 : Sm 10000 l.z.c) (w : World) :
    Calls Tryz.prog 88 #[.agg #[.int .i64 l.x.a, .int .i64 l.x.b, .int .i64 l.x.c, .int .i64 l.y.a, .int .i64 l.y.b, .int .i64 l.y.c, .int .i64 l.z.a, .int .i64 l.z.b, .int .i64 l.z.c]] w fun r w' => r = .returned (.int .i64 (seqV l)) ∧ Below w.heap.size w w' := by
  have sp : ∀ a b, Sm 10000 a → Sm 10000 b → Sm 1000000 (a - b) := fun a b ha hb => by unfold Sm at *; omega
  obtain ⟨a1, a2, ea, fa⟩ := turned_ex2 (l.x.a - l.x.b) (l.x.c - l.x.b) (sp _ _ h1 h2) (sp _ _ h3 h2)
  obtain ⟨b1, b2, eb, fb⟩ := turned_ex2 (l.y.a - l.y.b) (l.y.c - l.y.b) (sp _ _ h4 h5) (sp _ _ h6 h5)
  obtain ⟨c1, c2, ec, fc⟩ := turned_ex1 (l.x.a - l.x.b) (l.x.c - l.x.b) (sp _ _ h1 h2) (sp _ _ h3 h2)
  obtain ⟨d1, d2, ed, fd⟩ := turned_ex1 (l.y.a - l.y.b) (l.y.c - l.y.b) (sp _ _ h4 h5) (sp _ _ h6 h5)
  have h := sequence_core _ _ _ _ _ _ _ _ _ _ _ _ _ _ _ a1 a2 b1 b2 c1 c2 d1 d2 w (linesPhasor_0 _ _ _ _ _ _ _ _ _ h1 h2 h3) (linesPhasor_1 _ _ _ _ _ _ _ _ _ h4 h5 h6) (linesPhasor_2 _ _ _ _ _ _ _ _ _ h7 h8 h9) fa fb fc fd
  refine h.mono fun e w' ⟨h1, h2⟩ => ⟨h1.trans (ret_int ?_), h2⟩
  unfold seqV seqF phV phP phQ
  rw [← ea, ← eb, ← ec, ← ed]
  simp only [Bool.and_eq_true, phB_iff]

end Go.Proofs.YtnhcamokcggnkaaGreatDoor
