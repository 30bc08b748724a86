/- The walk of the law on turns: it returns true. Printed by a program (gen_turnlaw.py). -/
import Derived.Test.YtnhcamokcggnkaaDoorGOTurns
import Derived.Test.YtnhcamokcggnkaaDoorGJAwake
namespace Go.Proofs.YtnhcamokcggnkaaDoor
open Go.RowKit
attribute [local go_sem ↓] Go.wp_at_zero Go.wp_at_succ
attribute [local go_sem ↓ high] tn_eql tn_neq

theorem turnE_cases (h : Int) : turnE h = 0 ∨ turnE h = 2 := by unfold turnE; cases withinB h 0 11 <;> simp [unlessV]
theorem ord_good {h : Int} (m : Bool) (hh : 0 ≤ h ∧ h ≤ 11) : 1 ≤ ordV ⟨h, m⟩ ∧ 24 % ordV ⟨h, m⟩ = 0 ∧ ordV ⟨h, m⟩ ≤ 12 := by
  have k := ord_facts ⟨h.toNat, by omega⟩ m
  simp only [Int.toNat_of_nonneg hh.1] at k
  exact k

set_option maxHeartbeats 16000000 in
set_option maxRecDepth 100000 in
theorem turns_a (h1 : Int) (m1 : Bool) (h2 : Int) (m2 : Bool) (h3 : Int) (m3 : Bool) (e1 : turnE h1 = 2) (w : World) (hT : TwIn w) (hP : PatIn w) :
    Calls Tryd.prog 7 #[.agg #[.int .i64 h1, .bool m1], .agg #[.int .i64 h2, .bool m2], .agg #[.int .i64 h3, .bool m3]] w fun e w' => e = .returned (.bool true) ∧ Below w.heap.size w w' := by
  have HT := Lib.hid (fun w' (h : Below w.heap.size w w') => hT.below h)
  have HP := Lib.hid (fun w' (h : Below w.heap.size w w') => hP.below h)
  clear hT hP

  have HC := Lib.hid (Composed_err h1 m1 h2 m2 (by simp [firstV, e1]))
  rw [show firstV [turnE h1, turnE h2] = 2 by simp [firstV, e1]] at HC
  have HI := Lib.hid (Inverse_err h1 m1 (by omega))
  have HO := Lib.hid (OrderOf_err h1 m1 (by omega))
  have HA := Lib.hid (refTurnErr_any h1 m1)
  rw [e1] at HI HO HA
  have t0 := tnB_refl 0 false
  clear e1
  go_enter Tryd.func7, Tryd.ntmps7
  go_wp2_with (first
    | (go_at_call 11; (with_reducible refine (awake_any _ (HT.out _ (pa (pa (pa (pr))))) (HP.out _ (pa (pa (pa (pr)))))).mono ?_); rintro e w1_ ⟨rfl, h1_⟩; have A_1 : Blk w1_ (w.heap.size) 63 #[.int .i64 h1, .bool m1] := (Blk.newAt (by simp)).alloc.alloc.past h1_; have B_1 : Blk w1_ (w.heap.size + 1) 63 #[.int .i64 h2, .bool m2] := (Blk.newAt (by simp)).alloc.past h1_; have C_1 : Blk w1_ (w.heap.size + 1 + 1) 63 #[.int .i64 h3, .bool m3] := (Blk.newAt (by simp)).past h1_; have S_1 := pt (pa (pa (pa (pr)))) h1_; have Ac0 := A_1.cellAt 0 rfl; have Ac1 := A_1.cellAt 1 rfl; have Al := A_1.lt; have Bc0 := B_1.cellAt 0 rfl; have Bc1 := B_1.cellAt 1 rfl; have Bl := B_1.lt)
    | (go_at_call 33; (with_reducible refine (HC.out _).mono ?_); rintro e w2_ ⟨rfl, h2_⟩; have A_2 := (A_1).past h2_; have B_2 := (B_1).past h2_; have C_2 := (C_1).past h2_; have S_2 := pt (S_1) h2_; clear A_1 B_1 C_1 S_1 Ac0 Ac1 Al Bc0 Bc1 Bl; have Ac0 := A_2.cellAt 0 rfl; have Ac1 := A_2.cellAt 1 rfl; have Al := A_2.lt; have Bc0 := B_2.cellAt 0 rfl; have Bc1 := B_2.cellAt 1 rfl; have Bl := B_2.lt)
    | (go_at_call 34; (with_reducible refine (HI.out _).mono ?_); rintro e w3_ ⟨rfl, h3_⟩; have A_3 := (A_2.alloc).past h3_; have B_3 := (B_2.alloc).past h3_; have C_3 := (C_2.alloc).past h3_; have X_3 : Blk w3_ (w2_.heap.size) 63 #[.int .i64 0, .bool false] := (Blk.newAt (by simp)).past h3_; have S_3 := pt (pa (S_2)) h3_; clear A_2 B_2 C_2 S_2 Ac0 Ac1 Al Bc0 Bc1 Bl; have Ac0 := A_3.cellAt 0 rfl; have Ac1 := A_3.cellAt 1 rfl; have Al := A_3.lt; have Bc0 := B_3.cellAt 0 rfl; have Bc1 := B_3.cellAt 1 rfl; have Bl := B_3.lt; have Xc0 := X_3.cellAt 0 rfl; have Xc1 := X_3.cellAt 1 rfl; have Xl := X_3.lt)
    | (go_at_call 35; (with_reducible refine (HO.out _).mono ?_); rintro e w4_ ⟨rfl, h4_⟩; have A_4 := (A_3.alloc).past h4_; have B_4 := (B_3.alloc).past h4_; have C_4 := (C_3.alloc).past h4_; have X_4 := (X_3.alloc).past h4_; have I_4 : Blk w4_ (w3_.heap.size) 63 #[.int .i64 0, .bool false] := (Blk.newAt (by simp)).past h4_; have S_4 := pt (pa (S_3)) h4_; clear A_3 B_3 C_3 X_3 S_3 Ac0 Ac1 Al Bc0 Bc1 Bl Xc0 Xc1 Xl; have Ac0 := A_4.cellAt 0 rfl; have Ac1 := A_4.cellAt 1 rfl; have Al := A_4.lt; have Bc0 := B_4.cellAt 0 rfl; have Bc1 := B_4.cellAt 1 rfl; have Bl := B_4.lt; have Xc0 := X_4.cellAt 0 rfl; have Xc1 := X_4.cellAt 1 rfl; have Xl := X_4.lt; have Ic0 := I_4.cellAt 0 rfl; have Ic1 := I_4.cellAt 1 rfl; have Il := I_4.lt)
    | (go_at_call 36; (with_reducible refine (HA.out _).mono ?_); rintro e w5_ ⟨rfl, h5_⟩; have A_5 := (A_4.alloc).past h5_; have B_5 := (B_4.alloc).past h5_; have C_5 := (C_4.alloc).past h5_; have X_5 := (X_4.alloc).past h5_; have I_5 := (I_4.alloc).past h5_; have N_5 : Blk w5_ (w4_.heap.size) 63 #[.int .i64 0, .bool false] := (Blk.newAt (by simp)).past h5_; have S_5 := pt (pa (S_4)) h5_; clear A_4 B_4 C_4 X_4 I_4 S_4 Ac0 Ac1 Al Bc0 Bc1 Bl Xc0 Xc1 Xl Ic0 Ic1 Il; have Ac0 := A_5.cellAt 0 rfl; have Ac1 := A_5.cellAt 1 rfl; have Al := A_5.lt; have Bc0 := B_5.cellAt 0 rfl; have Bc1 := B_5.cellAt 1 rfl; have Bl := B_5.lt; have Xc0 := X_5.cellAt 0 rfl; have Xc1 := X_5.cellAt 1 rfl; have Xl := X_5.lt; have Ic0 := I_5.cellAt 0 rfl; have Ic1 := I_5.cellAt 1 rfl; have Il := I_5.lt; have Nc0 := N_5.cellAt 0 rfl; have Nc1 := N_5.cellAt 1 rfl; have Nl := N_5.lt))
  refine region_below 26 follows_mixed (by kernel_rfl) ?_
  intro C hC
  simp only [List.take_succ_cons, List.take_zero, List.drop_succ_cons, List.drop_zero]
  repeat (first
    | ((with_reducible refine quiet_plain rfl (fun K hK => ?_)); (focus (apply quiet_val; (focus (intro w' hw; obtain ⟨hcq, hfq⟩ := bcell ((hC.out _).1 hw); go_simp; (first | done | rfl))); (simp only [Act.put, List.setIfInBounds_toArray, List.set_cons_succ, List.set_cons_zero]); (with_reducible refine hK _ ?_); clear hK K)))
    | ((with_reducible refine quiet_skip ?_ ?_); (focus (first | (simp [Region.wanted, yielded]; done) | (simp [Region.wanted, yielded, undef]; done))); simp only [Act.put, List.setIfInBounds_toArray, List.set_cons_succ, List.set_cons_zero])
    | ((with_reducible refine quiet_go ?_ (fun K hK => ?_)); (focus (first | (simp [Region.wanted, yielded]; done) | (simp [Region.wanted, yielded, undef]; done))); (focus (apply quiet_val; (focus (intro w' hw; obtain ⟨hcq, hfq⟩ := bcell ((hC.out _).1 hw); go_simp; (first | done | rfl))); (simp only [Act.put, List.setIfInBounds_toArray, List.set_cons_succ, List.set_cons_zero]); (with_reducible refine hK _ ?_); clear hK K))))
  refine wpQuiet_nil ?_
  intro w1 hb1
  replace hb1 := (hC.out _).1 hb1
  clear hC C
  obtain ⟨hc1, hf1⟩ := bcell hb1
  have A_6 := (A_5).past hb1
  have B_6 := (B_5).past hb1
  have C_6 := (C_5).past hb1
  have X_6 := (X_5).past hb1
  have I_6 := (I_5).past hb1
  have N_6 := (N_5).past hb1
  have S_6 := pt (S_5) hb1
  clear A_5 B_5 C_5 X_5 I_5 N_5 S_5 Ac0 Ac1 Al Bc0 Bc1 Bl Xc0 Xc1 Xl Ic0 Ic1 Il Nc0 Nc1 Nl
  have Ac0 := A_6.cellAt 0 rfl
  have Ac1 := A_6.cellAt 1 rfl
  have Al := A_6.lt
  have Bc0 := B_6.cellAt 0 rfl
  have Bc1 := B_6.cellAt 1 rfl
  have Bl := B_6.lt
  have Xc0 := X_6.cellAt 0 rfl
  have Xc1 := X_6.cellAt 1 rfl
  have Xl := X_6.lt
  have Ic0 := I_6.cellAt 0 rfl
  have Ic1 := I_6.cellAt 1 rfl
  have Il := I_6.lt
  have Nc0 := N_6.cellAt 0 rfl
  have Nc1 := N_6.cellAt 1 rfl
  have Nl := N_6.lt
  clear hb1 hc1 hf1
  obtain ⟨w6_, rfl⟩ : ∃ v, v = w1 := ⟨_, rfl⟩
  go_wp2
  go_ret
  exact ⟨rfl, S_6⟩

set_option maxHeartbeats 16000000 in
set_option maxRecDepth 100000 in
theorem turns_b (h1 : Int) (m1 : Bool) (h2 : Int) (m2 : Bool) (h3 : Int) (m3 : Bool) (e1 : turnE h1 = 0) (e2 : turnE h2 = 2) (w : World) (hT : TwIn w) (hP : PatIn w) :
    Calls Tryd.prog 7 #[.agg #[.int .i64 h1, .bool m1], .agg #[.int .i64 h2, .bool m2], .agg #[.int .i64 h3, .bool m3]] w fun e w' => e = .returned (.bool true) ∧ Below w.heap.size w w' := by
  have HT := Lib.hid (fun w' (h : Below w.heap.size w w') => hT.below h)
  have HP := Lib.hid (fun w' (h : Below w.heap.size w w') => hP.below h)
  clear hT hP

  have g1 := turnE_ok e1
  have HI := Lib.hid (Inverse_ok h1 m1 e1)
  have HO := Lib.hid (OrderOf_ok h1 m1 e1)
  have HA := Lib.hid (refTurnErr_any h1 m1)
  have HB := Lib.hid (refTurnErr_any h2 m2)
  have RI := Lib.hid (refInverse_any h1 m1 g1)
  have RO := Lib.hid (refOrder_any h1 m1 g1)
  obtain ⟨c1, c2⟩ := comp_inv (a := ⟨h1, m1⟩) g1
  obtain ⟨o1, o2, o3⟩ := ord_good m1 g1
  have hi : turnE (invV ⟨h1, m1⟩).hours = 0 := by
    unfold invV turnE withinB
    cases m1
    · have a1 : (0 : Int) ≤ -h1 % 12 := by omega
      have a2 : -h1 % 12 ≤ 11 := by omega
      simp [unlessV, a1, a2]
    · simp [unlessV, g1.1, g1.2]
  have HY := Lib.hid (Composed_ok h1 m1 (invV ⟨h1, m1⟩).hours (invV ⟨h1, m1⟩).mir e1 hi)
  have HZ := Lib.hid (Composed_ok (invV ⟨h1, m1⟩).hours (invV ⟨h1, m1⟩).mir h1 m1 hi e1)
  rw [show compV ⟨h1, m1⟩ ⟨(invV ⟨h1, m1⟩).hours, (invV ⟨h1, m1⟩).mir⟩ = ⟨0, false⟩ from c1] at HY
  rw [show compV ⟨(invV ⟨h1, m1⟩).hours, (invV ⟨h1, m1⟩).mir⟩ ⟨h1, m1⟩ = ⟨0, false⟩ from c2] at HZ
  have HC := Lib.hid (Composed_err h1 m1 h2 m2 (by simp [firstV, e1, e2]))
  rw [show firstV [turnE h1, turnE h2] = 2 by simp [firstV, e1, e2]] at HC
  rw [e1] at HA
  rw [e2] at HB
  clear c1 c2 hi e2
  generalize invV ⟨h1, m1⟩ = i at *
  generalize ordV ⟨h1, m1⟩ = n at *
  have k1 : (n < 1) = False := by simp; omega
  have k2 : (n == 0) = false := by simp; omega
  have k5 : ¬ n = 0 := by omega
  have k6 : (0 : Int) < n := by omega
  have k4 : IntKind.i64.wrap (24 % n) = 0 := by rw [o2]; decide
  have k3 : (24 : Int).tmod n = 0 := by rw [Int.tmod_eq_emod_of_nonneg (by decide)]; exact o2
  have t0 := tnB_refl 0 false
  have t1 := tnB_refl i.hours i.mir
  clear e1 g1 o1 o2 o3
  go_enter Tryd.func7, Tryd.ntmps7
  go_wp2_with (first
    | (go_at_call 11; (with_reducible refine (awake_any _ (HT.out _ (pa (pa (pa (pr))))) (HP.out _ (pa (pa (pa (pr)))))).mono ?_); rintro e w1_ ⟨rfl, h1_⟩; have A_1 : Blk w1_ (w.heap.size) 63 #[.int .i64 h1, .bool m1] := (Blk.newAt (by simp)).alloc.alloc.past h1_; have B_1 : Blk w1_ (w.heap.size + 1) 63 #[.int .i64 h2, .bool m2] := (Blk.newAt (by simp)).alloc.past h1_; have C_1 : Blk w1_ (w.heap.size + 1 + 1) 63 #[.int .i64 h3, .bool m3] := (Blk.newAt (by simp)).past h1_; have S_1 := pt (pa (pa (pa (pr)))) h1_; have Ac0 := A_1.cellAt 0 rfl; have Ac1 := A_1.cellAt 1 rfl; have Al := A_1.lt; have Bc0 := B_1.cellAt 0 rfl; have Bc1 := B_1.cellAt 1 rfl; have Bl := B_1.lt)
    | (go_at_call 33; (with_reducible refine (HC.out _).mono ?_); rintro e w2_ ⟨rfl, h2_⟩; have A_2 := (A_1).past h2_; have B_2 := (B_1).past h2_; have C_2 := (C_1).past h2_; have S_2 := pt (S_1) h2_; clear A_1 B_1 C_1 S_1 Ac0 Ac1 Al Bc0 Bc1 Bl; have Ac0 := A_2.cellAt 0 rfl; have Ac1 := A_2.cellAt 1 rfl; have Al := A_2.lt; have Bc0 := B_2.cellAt 0 rfl; have Bc1 := B_2.cellAt 1 rfl; have Bl := B_2.lt)
    | (go_at_call 34; (with_reducible refine (HI.out _).mono ?_); rintro e w3_ ⟨rfl, h3_⟩; have A_3 := (A_2.alloc).past h3_; have B_3 := (B_2.alloc).past h3_; have C_3 := (C_2.alloc).past h3_; have X_3 : Blk w3_ (w2_.heap.size) 63 #[.int .i64 0, .bool false] := (Blk.newAt (by simp)).past h3_; have S_3 := pt (pa (S_2)) h3_; clear A_2 B_2 C_2 S_2 Ac0 Ac1 Al Bc0 Bc1 Bl; have Ac0 := A_3.cellAt 0 rfl; have Ac1 := A_3.cellAt 1 rfl; have Al := A_3.lt; have Bc0 := B_3.cellAt 0 rfl; have Bc1 := B_3.cellAt 1 rfl; have Bl := B_3.lt; have Xc0 := X_3.cellAt 0 rfl; have Xc1 := X_3.cellAt 1 rfl; have Xl := X_3.lt)
    | (go_at_call 35; (with_reducible refine (HO.out _).mono ?_); rintro e w4_ ⟨rfl, h4_⟩; have A_4 := (A_3.alloc).past h4_; have B_4 := (B_3.alloc).past h4_; have C_4 := (C_3.alloc).past h4_; have X_4 := (X_3.alloc).past h4_; have I_4 : Blk w4_ (w3_.heap.size) 63 #[.int .i64 i.hours, .bool i.mir] := (Blk.newAt (by simp)).past h4_; have S_4 := pt (pa (S_3)) h4_; clear A_3 B_3 C_3 X_3 S_3 Ac0 Ac1 Al Bc0 Bc1 Bl Xc0 Xc1 Xl; have Ac0 := A_4.cellAt 0 rfl; have Ac1 := A_4.cellAt 1 rfl; have Al := A_4.lt; have Bc0 := B_4.cellAt 0 rfl; have Bc1 := B_4.cellAt 1 rfl; have Bl := B_4.lt; have Xc0 := X_4.cellAt 0 rfl; have Xc1 := X_4.cellAt 1 rfl; have Xl := X_4.lt; have Ic0 := I_4.cellAt 0 rfl; have Ic1 := I_4.cellAt 1 rfl; have Il := I_4.lt)
    | (go_at_call 36; (with_reducible refine (HA.out _).mono ?_); rintro e w5_ ⟨rfl, h5_⟩; have A_5 := (A_4.alloc).past h5_; have B_5 := (B_4.alloc).past h5_; have C_5 := (C_4.alloc).past h5_; have X_5 := (X_4.alloc).past h5_; have I_5 := (I_4.alloc).past h5_; have N_5 : Blk w5_ (w4_.heap.size) 63 #[.int .i64 0, .bool false] := (Blk.newAt (by simp)).past h5_; have S_5 := pt (pa (S_4)) h5_; clear A_4 B_4 C_4 X_4 I_4 S_4 Ac0 Ac1 Al Bc0 Bc1 Bl Xc0 Xc1 Xl Ic0 Ic1 Il; have Ac0 := A_5.cellAt 0 rfl; have Ac1 := A_5.cellAt 1 rfl; have Al := A_5.lt; have Bc0 := B_5.cellAt 0 rfl; have Bc1 := B_5.cellAt 1 rfl; have Bl := B_5.lt; have Xc0 := X_5.cellAt 0 rfl; have Xc1 := X_5.cellAt 1 rfl; have Xl := X_5.lt; have Ic0 := I_5.cellAt 0 rfl; have Ic1 := I_5.cellAt 1 rfl; have Il := I_5.lt; have Nc0 := N_5.cellAt 0 rfl; have Nc1 := N_5.cellAt 1 rfl; have Nl := N_5.lt)
    | (go_at_call 36; (with_reducible refine (HB.out _).mono ?_); rintro e w6_ ⟨rfl, h6_⟩; have A_6 := (A_5).past h6_; have B_6 := (B_5).past h6_; have C_6 := (C_5).past h6_; have X_6 := (X_5).past h6_; have I_6 := (I_5).past h6_; have N_6 := (N_5).past h6_; have S_6 := pt (S_5) h6_; clear A_5 B_5 C_5 X_5 I_5 N_5 S_5 Ac0 Ac1 Al Bc0 Bc1 Bl Xc0 Xc1 Xl Ic0 Ic1 Il Nc0 Nc1 Nl; have Ac0 := A_6.cellAt 0 rfl; have Ac1 := A_6.cellAt 1 rfl; have Al := A_6.lt; have Bc0 := B_6.cellAt 0 rfl; have Bc1 := B_6.cellAt 1 rfl; have Bl := B_6.lt; have Xc0 := X_6.cellAt 0 rfl; have Xc1 := X_6.cellAt 1 rfl; have Xl := X_6.lt; have Ic0 := I_6.cellAt 0 rfl; have Ic1 := I_6.cellAt 1 rfl; have Il := I_6.lt; have Nc0 := N_6.cellAt 0 rfl; have Nc1 := N_6.cellAt 1 rfl; have Nl := N_6.lt))
  refine region_below 26 follows_mixed (by kernel_rfl) ?_
  intro C hC
  simp only [List.take_succ_cons, List.take_zero, List.drop_succ_cons, List.drop_zero]
  repeat (first
    | ((with_reducible refine quiet_plain rfl (fun K hK => ?_)); (focus (apply quiet_val; (focus (intro w' hw; obtain ⟨hcq, hfq⟩ := bcell ((hC.out _).1 hw); go_simp; (first | done | rfl))); (simp only [Act.put, List.setIfInBounds_toArray, List.set_cons_succ, List.set_cons_zero]); (with_reducible refine hK _ ?_); clear hK K)))
    | ((with_reducible refine quiet_skip ?_ ?_); (focus (first | (simp [Region.wanted, yielded]; done) | (simp [Region.wanted, yielded, undef]; done))); simp only [Act.put, List.setIfInBounds_toArray, List.set_cons_succ, List.set_cons_zero])
    | ((with_reducible refine quiet_go ?_ (fun K hK => ?_)); (focus (first | (simp [Region.wanted, yielded]; done) | (simp [Region.wanted, yielded, undef]; done))); (focus (apply quiet_val; (focus (intro w' hw; obtain ⟨hcq, hfq⟩ := bcell ((hC.out _).1 hw); go_simp; (first | done | rfl))); (simp only [Act.put, List.setIfInBounds_toArray, List.set_cons_succ, List.set_cons_zero]); (with_reducible refine hK _ ?_); clear hK K))))
  refine wpQuiet_nil ?_
  intro w1 hb1
  replace hb1 := (hC.out _).1 hb1
  clear hC C
  obtain ⟨hc1, hf1⟩ := bcell hb1
  have A_7 := (A_6).past hb1
  have B_7 := (B_6).past hb1
  have C_7 := (C_6).past hb1
  have X_7 := (X_6).past hb1
  have I_7 := (I_6).past hb1
  have N_7 := (N_6).past hb1
  have S_7 := pt (S_6) hb1
  clear A_6 B_6 C_6 X_6 I_6 N_6 S_6 Ac0 Ac1 Al Bc0 Bc1 Bl Xc0 Xc1 Xl Ic0 Ic1 Il Nc0 Nc1 Nl
  have Ac0 := A_7.cellAt 0 rfl
  have Ac1 := A_7.cellAt 1 rfl
  have Al := A_7.lt
  have Bc0 := B_7.cellAt 0 rfl
  have Bc1 := B_7.cellAt 1 rfl
  have Bl := B_7.lt
  have Xc0 := X_7.cellAt 0 rfl
  have Xc1 := X_7.cellAt 1 rfl
  have Xl := X_7.lt
  have Ic0 := I_7.cellAt 0 rfl
  have Ic1 := I_7.cellAt 1 rfl
  have Il := I_7.lt
  have Nc0 := N_7.cellAt 0 rfl
  have Nc1 := N_7.cellAt 1 rfl
  have Nl := N_7.lt
  clear hb1 hc1 hf1
  obtain ⟨w7_, rfl⟩ : ∃ v, v = w1 := ⟨_, rfl⟩
  go_wp2
  refine region_below 26 follows_mixed (by kernel_rfl) ?_
  intro C hC
  simp only [List.take_succ_cons, List.take_zero, List.drop_succ_cons, List.drop_zero]
  repeat (first
    | ((with_reducible refine quiet_plain rfl (fun K hK => ?_)); (focus (apply quiet_val; (focus (intro w' hw; obtain ⟨hcq, hfq⟩ := bcell ((hC.out _).1 hw); go_simp; (first | done | rfl | (with_reducible exact call_below hC hw (RI.out _)) | (with_reducible exact call_below hC hw (RO.out _))))); (simp only [Act.put, List.setIfInBounds_toArray, List.set_cons_succ, List.set_cons_zero]); (with_reducible refine hK _ ?_); clear hK K)))
    | ((with_reducible refine quiet_skip ?_ ?_); (focus (first | (simp [Region.wanted, yielded]; done) | (simp [Region.wanted, yielded, undef]; done))); simp only [Act.put, List.setIfInBounds_toArray, List.set_cons_succ, List.set_cons_zero])
    | ((with_reducible refine quiet_go ?_ (fun K hK => ?_)); (focus (first | (simp [Region.wanted, yielded]; done) | (simp [Region.wanted, yielded, undef]; done))); (focus (apply quiet_val; (focus (intro w' hw; obtain ⟨hcq, hfq⟩ := bcell ((hC.out _).1 hw); go_simp; (first | done | rfl | (with_reducible exact call_below hC hw (RI.out _)) | (with_reducible exact call_below hC hw (RO.out _))))); (simp only [Act.put, List.setIfInBounds_toArray, List.set_cons_succ, List.set_cons_zero]); (with_reducible refine hK _ ?_); clear hK K))))
  refine wpQuiet_nil ?_
  intro w1 hb1
  replace hb1 := (hC.out _).1 hb1
  clear hC C
  obtain ⟨hc1, hf1⟩ := bcell hb1
  have A_8 := (A_7).past hb1
  have B_8 := (B_7).past hb1
  have C_8 := (C_7).past hb1
  have X_8 := (X_7).past hb1
  have I_8 := (I_7).past hb1
  have N_8 := (N_7).past hb1
  have S_8 := pt (S_7) hb1
  clear A_7 B_7 C_7 X_7 I_7 N_7 S_7 Ac0 Ac1 Al Bc0 Bc1 Bl Xc0 Xc1 Xl Ic0 Ic1 Il Nc0 Nc1 Nl
  have Ac0 := A_8.cellAt 0 rfl
  have Ac1 := A_8.cellAt 1 rfl
  have Al := A_8.lt
  have Bc0 := B_8.cellAt 0 rfl
  have Bc1 := B_8.cellAt 1 rfl
  have Bl := B_8.lt
  have Cc0 := C_8.cellAt 0 rfl
  have Cc1 := C_8.cellAt 1 rfl
  have Cl := C_8.lt
  have Xc0 := X_8.cellAt 0 rfl
  have Xc1 := X_8.cellAt 1 rfl
  have Xl := X_8.lt
  have Ic0 := I_8.cellAt 0 rfl
  have Ic1 := I_8.cellAt 1 rfl
  have Il := I_8.lt
  have Nc0 := N_8.cellAt 0 rfl
  have Nc1 := N_8.cellAt 1 rfl
  have Nl := N_8.lt
  clear hb1 hc1 hf1
  obtain ⟨w8_, rfl⟩ : ∃ v, v = w1 := ⟨_, rfl⟩
  go_wp2_with (first
    | (go_at_call 33; (with_reducible refine (HY.out _).mono ?_); rintro e w9_ ⟨rfl, h9_⟩; have A_9 := (A_8).past h9_; have B_9 := (B_8).past h9_; have C_9 := (C_8).past h9_; have X_9 := (X_8).past h9_; have I_9 := (I_8).past h9_; have N_9 := (N_8).past h9_; have S_9 := pt (S_8) h9_; clear A_8 B_8 C_8 X_8 I_8 N_8 S_8 Ac0 Ac1 Al Bc0 Bc1 Bl Cc0 Cc1 Cl Xc0 Xc1 Xl Ic0 Ic1 Il Nc0 Nc1 Nl; have Ac0 := A_9.cellAt 0 rfl; have Ac1 := A_9.cellAt 1 rfl; have Al := A_9.lt; have Bc0 := B_9.cellAt 0 rfl; have Bc1 := B_9.cellAt 1 rfl; have Bl := B_9.lt; have Cc0 := C_9.cellAt 0 rfl; have Cc1 := C_9.cellAt 1 rfl; have Cl := C_9.lt; have Xc0 := X_9.cellAt 0 rfl; have Xc1 := X_9.cellAt 1 rfl; have Xl := X_9.lt; have Ic0 := I_9.cellAt 0 rfl; have Ic1 := I_9.cellAt 1 rfl; have Il := I_9.lt; have Nc0 := N_9.cellAt 0 rfl; have Nc1 := N_9.cellAt 1 rfl; have Nl := N_9.lt)
    | (go_at_call 33; (with_reducible refine (HZ.out _).mono ?_); rintro e w10_ ⟨rfl, h10_⟩; have A_10 := (A_9.alloc).past h10_; have B_10 := (B_9.alloc).past h10_; have C_10 := (C_9.alloc).past h10_; have X_10 := (X_9.alloc).past h10_; have I_10 := (I_9.alloc).past h10_; have N_10 := (N_9.alloc).past h10_; have Y_10 : Blk w10_ (w9_.heap.size) 63 #[.int .i64 0, .bool false] := (Blk.newAt (by simp)).past h10_; have S_10 := pt (pa (S_9)) h10_; clear A_9 B_9 C_9 X_9 I_9 N_9 S_9 Ac0 Ac1 Al Bc0 Bc1 Bl Cc0 Cc1 Cl Xc0 Xc1 Xl Ic0 Ic1 Il Nc0 Nc1 Nl; have Ac0 := A_10.cellAt 0 rfl; have Ac1 := A_10.cellAt 1 rfl; have Al := A_10.lt; have Bc0 := B_10.cellAt 0 rfl; have Bc1 := B_10.cellAt 1 rfl; have Bl := B_10.lt; have Cc0 := C_10.cellAt 0 rfl; have Cc1 := C_10.cellAt 1 rfl; have Cl := C_10.lt; have Xc0 := X_10.cellAt 0 rfl; have Xc1 := X_10.cellAt 1 rfl; have Xl := X_10.lt; have Ic0 := I_10.cellAt 0 rfl; have Ic1 := I_10.cellAt 1 rfl; have Il := I_10.lt; have Nc0 := N_10.cellAt 0 rfl; have Nc1 := N_10.cellAt 1 rfl; have Nl := N_10.lt; have Yc0 := Y_10.cellAt 0 rfl; have Yc1 := Y_10.cellAt 1 rfl; have Yl := Y_10.lt))
  go_ret
  exact ⟨rfl, by first | exact pa (S_10) | exact S_10⟩

set_option maxHeartbeats 16000000 in
set_option maxRecDepth 100000 in
theorem turns_c (h1 : Int) (m1 : Bool) (h2 : Int) (m2 : Bool) (h3 : Int) (m3 : Bool) (e1 : turnE h1 = 0) (e2 : turnE h2 = 0) (e3 : turnE h3 = 2) (w : World) (hT : TwIn w) (hP : PatIn w) :
    Calls Tryd.prog 7 #[.agg #[.int .i64 h1, .bool m1], .agg #[.int .i64 h2, .bool m2], .agg #[.int .i64 h3, .bool m3]] w fun e w' => e = .returned (.bool true) ∧ Below w.heap.size w w' := by
  have HT := Lib.hid (fun w' (h : Below w.heap.size w w') => hT.below h)
  have HP := Lib.hid (fun w' (h : Below w.heap.size w w') => hP.below h)
  clear hT hP

  have g1 := turnE_ok e1
  have HI := Lib.hid (Inverse_ok h1 m1 e1)
  have HO := Lib.hid (OrderOf_ok h1 m1 e1)
  have HA := Lib.hid (refTurnErr_any h1 m1)
  have HB := Lib.hid (refTurnErr_any h2 m2)
  have RI := Lib.hid (refInverse_any h1 m1 g1)
  have RO := Lib.hid (refOrder_any h1 m1 g1)
  obtain ⟨c1, c2⟩ := comp_inv (a := ⟨h1, m1⟩) g1
  obtain ⟨o1, o2, o3⟩ := ord_good m1 g1
  have hi : turnE (invV ⟨h1, m1⟩).hours = 0 := by
    unfold invV turnE withinB
    cases m1
    · have a1 : (0 : Int) ≤ -h1 % 12 := by omega
      have a2 : -h1 % 12 ≤ 11 := by omega
      simp [unlessV, a1, a2]
    · simp [unlessV, g1.1, g1.2]
  have HY := Lib.hid (Composed_ok h1 m1 (invV ⟨h1, m1⟩).hours (invV ⟨h1, m1⟩).mir e1 hi)
  have HZ := Lib.hid (Composed_ok (invV ⟨h1, m1⟩).hours (invV ⟨h1, m1⟩).mir h1 m1 hi e1)
  rw [show compV ⟨h1, m1⟩ ⟨(invV ⟨h1, m1⟩).hours, (invV ⟨h1, m1⟩).mir⟩ = ⟨0, false⟩ from c1] at HY
  rw [show compV ⟨(invV ⟨h1, m1⟩).hours, (invV ⟨h1, m1⟩).mir⟩ ⟨h1, m1⟩ = ⟨0, false⟩ from c2] at HZ
  have g2 := turnE_ok e2
  have HC := Lib.hid (Composed_ok h1 m1 h2 m2 e1 e2)
  have RC := Lib.hid (refComposed_any h1 m1 h2 m2 g1 g2)
  have HCC := Lib.hid (refTurnErr_any h3 m3)
  rw [e1] at HA
  rw [e2] at HB
  rw [e3] at HCC
  clear c1 c2 hi
  generalize invV ⟨h1, m1⟩ = i at *
  generalize compV ⟨h1, m1⟩ ⟨h2, m2⟩ = x at *
  generalize ordV ⟨h1, m1⟩ = n at *
  have k1 : (n < 1) = False := by simp; omega
  have k2 : (n == 0) = false := by simp; omega
  have k5 : ¬ n = 0 := by omega
  have k6 : (0 : Int) < n := by omega
  have k4 : IntKind.i64.wrap (24 % n) = 0 := by rw [o2]; decide
  have k3 : (24 : Int).tmod n = 0 := by rw [Int.tmod_eq_emod_of_nonneg (by decide)]; exact o2
  have t0 := tnB_refl 0 false
  have t1 := tnB_refl i.hours i.mir
  have t2 := tnB_refl x.hours x.mir
  clear e1 e2 e3 g1 g2 o1 o2 o3
  go_enter Tryd.func7, Tryd.ntmps7
  go_wp2_with (first
    | (go_at_call 11; (with_reducible refine (awake_any _ (HT.out _ (pa (pa (pa (pr))))) (HP.out _ (pa (pa (pa (pr)))))).mono ?_); rintro e w1_ ⟨rfl, h1_⟩; have A_1 : Blk w1_ (w.heap.size) 63 #[.int .i64 h1, .bool m1] := (Blk.newAt (by simp)).alloc.alloc.past h1_; have B_1 : Blk w1_ (w.heap.size + 1) 63 #[.int .i64 h2, .bool m2] := (Blk.newAt (by simp)).alloc.past h1_; have C_1 : Blk w1_ (w.heap.size + 1 + 1) 63 #[.int .i64 h3, .bool m3] := (Blk.newAt (by simp)).past h1_; have S_1 := pt (pa (pa (pa (pr)))) h1_; have Ac0 := A_1.cellAt 0 rfl; have Ac1 := A_1.cellAt 1 rfl; have Al := A_1.lt; have Bc0 := B_1.cellAt 0 rfl; have Bc1 := B_1.cellAt 1 rfl; have Bl := B_1.lt)
    | (go_at_call 33; (with_reducible refine (HC.out _).mono ?_); rintro e w2_ ⟨rfl, h2_⟩; have A_2 := (A_1).past h2_; have B_2 := (B_1).past h2_; have C_2 := (C_1).past h2_; have S_2 := pt (S_1) h2_; clear A_1 B_1 C_1 S_1 Ac0 Ac1 Al Bc0 Bc1 Bl; have Ac0 := A_2.cellAt 0 rfl; have Ac1 := A_2.cellAt 1 rfl; have Al := A_2.lt; have Bc0 := B_2.cellAt 0 rfl; have Bc1 := B_2.cellAt 1 rfl; have Bl := B_2.lt)
    | (go_at_call 34; (with_reducible refine (HI.out _).mono ?_); rintro e w3_ ⟨rfl, h3_⟩; have A_3 := (A_2.alloc).past h3_; have B_3 := (B_2.alloc).past h3_; have C_3 := (C_2.alloc).past h3_; have X_3 : Blk w3_ (w2_.heap.size) 63 #[.int .i64 x.hours, .bool x.mir] := (Blk.newAt (by simp)).past h3_; have S_3 := pt (pa (S_2)) h3_; clear A_2 B_2 C_2 S_2 Ac0 Ac1 Al Bc0 Bc1 Bl; have Ac0 := A_3.cellAt 0 rfl; have Ac1 := A_3.cellAt 1 rfl; have Al := A_3.lt; have Bc0 := B_3.cellAt 0 rfl; have Bc1 := B_3.cellAt 1 rfl; have Bl := B_3.lt; have Xc0 := X_3.cellAt 0 rfl; have Xc1 := X_3.cellAt 1 rfl; have Xl := X_3.lt)
    | (go_at_call 35; (with_reducible refine (HO.out _).mono ?_); rintro e w4_ ⟨rfl, h4_⟩; have A_4 := (A_3.alloc).past h4_; have B_4 := (B_3.alloc).past h4_; have C_4 := (C_3.alloc).past h4_; have X_4 := (X_3.alloc).past h4_; have I_4 : Blk w4_ (w3_.heap.size) 63 #[.int .i64 i.hours, .bool i.mir] := (Blk.newAt (by simp)).past h4_; have S_4 := pt (pa (S_3)) h4_; clear A_3 B_3 C_3 X_3 S_3 Ac0 Ac1 Al Bc0 Bc1 Bl Xc0 Xc1 Xl; have Ac0 := A_4.cellAt 0 rfl; have Ac1 := A_4.cellAt 1 rfl; have Al := A_4.lt; have Bc0 := B_4.cellAt 0 rfl; have Bc1 := B_4.cellAt 1 rfl; have Bl := B_4.lt; have Xc0 := X_4.cellAt 0 rfl; have Xc1 := X_4.cellAt 1 rfl; have Xl := X_4.lt; have Ic0 := I_4.cellAt 0 rfl; have Ic1 := I_4.cellAt 1 rfl; have Il := I_4.lt)
    | (go_at_call 36; (with_reducible refine (HA.out _).mono ?_); rintro e w5_ ⟨rfl, h5_⟩; have A_5 := (A_4.alloc).past h5_; have B_5 := (B_4.alloc).past h5_; have C_5 := (C_4.alloc).past h5_; have X_5 := (X_4.alloc).past h5_; have I_5 := (I_4.alloc).past h5_; have N_5 : Blk w5_ (w4_.heap.size) 63 #[.int .i64 0, .bool false] := (Blk.newAt (by simp)).past h5_; have S_5 := pt (pa (S_4)) h5_; clear A_4 B_4 C_4 X_4 I_4 S_4 Ac0 Ac1 Al Bc0 Bc1 Bl Xc0 Xc1 Xl Ic0 Ic1 Il; have Ac0 := A_5.cellAt 0 rfl; have Ac1 := A_5.cellAt 1 rfl; have Al := A_5.lt; have Bc0 := B_5.cellAt 0 rfl; have Bc1 := B_5.cellAt 1 rfl; have Bl := B_5.lt; have Xc0 := X_5.cellAt 0 rfl; have Xc1 := X_5.cellAt 1 rfl; have Xl := X_5.lt; have Ic0 := I_5.cellAt 0 rfl; have Ic1 := I_5.cellAt 1 rfl; have Il := I_5.lt; have Nc0 := N_5.cellAt 0 rfl; have Nc1 := N_5.cellAt 1 rfl; have Nl := N_5.lt)
    | (go_at_call 36; (with_reducible refine (HB.out _).mono ?_); rintro e w6_ ⟨rfl, h6_⟩; have A_6 := (A_5).past h6_; have B_6 := (B_5).past h6_; have C_6 := (C_5).past h6_; have X_6 := (X_5).past h6_; have I_6 := (I_5).past h6_; have N_6 := (N_5).past h6_; have S_6 := pt (S_5) h6_; clear A_5 B_5 C_5 X_5 I_5 N_5 S_5 Ac0 Ac1 Al Bc0 Bc1 Bl Xc0 Xc1 Xl Ic0 Ic1 Il Nc0 Nc1 Nl; have Ac0 := A_6.cellAt 0 rfl; have Ac1 := A_6.cellAt 1 rfl; have Al := A_6.lt; have Bc0 := B_6.cellAt 0 rfl; have Bc1 := B_6.cellAt 1 rfl; have Bl := B_6.lt; have Xc0 := X_6.cellAt 0 rfl; have Xc1 := X_6.cellAt 1 rfl; have Xl := X_6.lt; have Ic0 := I_6.cellAt 0 rfl; have Ic1 := I_6.cellAt 1 rfl; have Il := I_6.lt; have Nc0 := N_6.cellAt 0 rfl; have Nc1 := N_6.cellAt 1 rfl; have Nl := N_6.lt))
  refine region_below 26 follows_mixed (by kernel_rfl) ?_
  intro C hC
  simp only [List.take_succ_cons, List.take_zero, List.drop_succ_cons, List.drop_zero]
  repeat (first
    | ((with_reducible refine quiet_plain rfl (fun K hK => ?_)); (focus (apply quiet_val; (focus (intro w' hw; obtain ⟨hcq, hfq⟩ := bcell ((hC.out _).1 hw); go_simp; (first | done | rfl | (with_reducible exact call_below hC hw (RC.out _))))); (simp only [Act.put, List.setIfInBounds_toArray, List.set_cons_succ, List.set_cons_zero]); (with_reducible refine hK _ ?_); clear hK K)))
    | ((with_reducible refine quiet_skip ?_ ?_); (focus (first | (simp [Region.wanted, yielded]; done) | (simp [Region.wanted, yielded, undef]; done))); simp only [Act.put, List.setIfInBounds_toArray, List.set_cons_succ, List.set_cons_zero])
    | ((with_reducible refine quiet_go ?_ (fun K hK => ?_)); (focus (first | (simp [Region.wanted, yielded]; done) | (simp [Region.wanted, yielded, undef]; done))); (focus (apply quiet_val; (focus (intro w' hw; obtain ⟨hcq, hfq⟩ := bcell ((hC.out _).1 hw); go_simp; (first | done | rfl | (with_reducible exact call_below hC hw (RC.out _))))); (simp only [Act.put, List.setIfInBounds_toArray, List.set_cons_succ, List.set_cons_zero]); (with_reducible refine hK _ ?_); clear hK K))))
  refine wpQuiet_nil ?_
  intro w1 hb1
  replace hb1 := (hC.out _).1 hb1
  clear hC C
  obtain ⟨hc1, hf1⟩ := bcell hb1
  have A_7 := (A_6).past hb1
  have B_7 := (B_6).past hb1
  have C_7 := (C_6).past hb1
  have X_7 := (X_6).past hb1
  have I_7 := (I_6).past hb1
  have N_7 := (N_6).past hb1
  have S_7 := pt (S_6) hb1
  clear A_6 B_6 C_6 X_6 I_6 N_6 S_6 Ac0 Ac1 Al Bc0 Bc1 Bl Xc0 Xc1 Xl Ic0 Ic1 Il Nc0 Nc1 Nl
  have Ac0 := A_7.cellAt 0 rfl
  have Ac1 := A_7.cellAt 1 rfl
  have Al := A_7.lt
  have Bc0 := B_7.cellAt 0 rfl
  have Bc1 := B_7.cellAt 1 rfl
  have Bl := B_7.lt
  have Xc0 := X_7.cellAt 0 rfl
  have Xc1 := X_7.cellAt 1 rfl
  have Xl := X_7.lt
  have Ic0 := I_7.cellAt 0 rfl
  have Ic1 := I_7.cellAt 1 rfl
  have Il := I_7.lt
  have Nc0 := N_7.cellAt 0 rfl
  have Nc1 := N_7.cellAt 1 rfl
  have Nl := N_7.lt
  clear hb1 hc1 hf1
  obtain ⟨w7_, rfl⟩ : ∃ v, v = w1 := ⟨_, rfl⟩
  go_wp2
  refine region_below 26 follows_mixed (by kernel_rfl) ?_
  intro C hC
  simp only [List.take_succ_cons, List.take_zero, List.drop_succ_cons, List.drop_zero]
  repeat (first
    | ((with_reducible refine quiet_plain rfl (fun K hK => ?_)); (focus (apply quiet_val; (focus (intro w' hw; obtain ⟨hcq, hfq⟩ := bcell ((hC.out _).1 hw); go_simp; (first | done | rfl | (with_reducible exact call_below hC hw (RI.out _)) | (with_reducible exact call_below hC hw (RO.out _))))); (simp only [Act.put, List.setIfInBounds_toArray, List.set_cons_succ, List.set_cons_zero]); (with_reducible refine hK _ ?_); clear hK K)))
    | ((with_reducible refine quiet_skip ?_ ?_); (focus (first | (simp [Region.wanted, yielded]; done) | (simp [Region.wanted, yielded, undef]; done))); simp only [Act.put, List.setIfInBounds_toArray, List.set_cons_succ, List.set_cons_zero])
    | ((with_reducible refine quiet_go ?_ (fun K hK => ?_)); (focus (first | (simp [Region.wanted, yielded]; done) | (simp [Region.wanted, yielded, undef]; done))); (focus (apply quiet_val; (focus (intro w' hw; obtain ⟨hcq, hfq⟩ := bcell ((hC.out _).1 hw); go_simp; (first | done | rfl | (with_reducible exact call_below hC hw (RI.out _)) | (with_reducible exact call_below hC hw (RO.out _))))); (simp only [Act.put, List.setIfInBounds_toArray, List.set_cons_succ, List.set_cons_zero]); (with_reducible refine hK _ ?_); clear hK K))))
  refine wpQuiet_nil ?_
  intro w1 hb1
  replace hb1 := (hC.out _).1 hb1
  clear hC C
  obtain ⟨hc1, hf1⟩ := bcell hb1
  have A_8 := (A_7).past hb1
  have B_8 := (B_7).past hb1
  have C_8 := (C_7).past hb1
  have X_8 := (X_7).past hb1
  have I_8 := (I_7).past hb1
  have N_8 := (N_7).past hb1
  have S_8 := pt (S_7) hb1
  clear A_7 B_7 C_7 X_7 I_7 N_7 S_7 Ac0 Ac1 Al Bc0 Bc1 Bl Xc0 Xc1 Xl Ic0 Ic1 Il Nc0 Nc1 Nl
  have Ac0 := A_8.cellAt 0 rfl
  have Ac1 := A_8.cellAt 1 rfl
  have Al := A_8.lt
  have Bc0 := B_8.cellAt 0 rfl
  have Bc1 := B_8.cellAt 1 rfl
  have Bl := B_8.lt
  have Cc0 := C_8.cellAt 0 rfl
  have Cc1 := C_8.cellAt 1 rfl
  have Cl := C_8.lt
  have Xc0 := X_8.cellAt 0 rfl
  have Xc1 := X_8.cellAt 1 rfl
  have Xl := X_8.lt
  have Ic0 := I_8.cellAt 0 rfl
  have Ic1 := I_8.cellAt 1 rfl
  have Il := I_8.lt
  have Nc0 := N_8.cellAt 0 rfl
  have Nc1 := N_8.cellAt 1 rfl
  have Nl := N_8.lt
  clear hb1 hc1 hf1
  obtain ⟨w8_, rfl⟩ : ∃ v, v = w1 := ⟨_, rfl⟩
  go_wp2_with (first
    | (go_at_call 33; (with_reducible refine (HY.out _).mono ?_); rintro e w9_ ⟨rfl, h9_⟩; have A_9 := (A_8).past h9_; have B_9 := (B_8).past h9_; have C_9 := (C_8).past h9_; have X_9 := (X_8).past h9_; have I_9 := (I_8).past h9_; have N_9 := (N_8).past h9_; have S_9 := pt (S_8) h9_; clear A_8 B_8 C_8 X_8 I_8 N_8 S_8 Ac0 Ac1 Al Bc0 Bc1 Bl Cc0 Cc1 Cl Xc0 Xc1 Xl Ic0 Ic1 Il Nc0 Nc1 Nl; have Ac0 := A_9.cellAt 0 rfl; have Ac1 := A_9.cellAt 1 rfl; have Al := A_9.lt; have Bc0 := B_9.cellAt 0 rfl; have Bc1 := B_9.cellAt 1 rfl; have Bl := B_9.lt; have Cc0 := C_9.cellAt 0 rfl; have Cc1 := C_9.cellAt 1 rfl; have Cl := C_9.lt; have Xc0 := X_9.cellAt 0 rfl; have Xc1 := X_9.cellAt 1 rfl; have Xl := X_9.lt; have Ic0 := I_9.cellAt 0 rfl; have Ic1 := I_9.cellAt 1 rfl; have Il := I_9.lt; have Nc0 := N_9.cellAt 0 rfl; have Nc1 := N_9.cellAt 1 rfl; have Nl := N_9.lt)
    | (go_at_call 33; (with_reducible refine (HZ.out _).mono ?_); rintro e w10_ ⟨rfl, h10_⟩; have A_10 := (A_9.alloc).past h10_; have B_10 := (B_9.alloc).past h10_; have C_10 := (C_9.alloc).past h10_; have X_10 := (X_9.alloc).past h10_; have I_10 := (I_9.alloc).past h10_; have N_10 := (N_9.alloc).past h10_; have Y_10 : Blk w10_ (w9_.heap.size) 63 #[.int .i64 0, .bool false] := (Blk.newAt (by simp)).past h10_; have S_10 := pt (pa (S_9)) h10_; clear A_9 B_9 C_9 X_9 I_9 N_9 S_9 Ac0 Ac1 Al Bc0 Bc1 Bl Cc0 Cc1 Cl Xc0 Xc1 Xl Ic0 Ic1 Il Nc0 Nc1 Nl; have Ac0 := A_10.cellAt 0 rfl; have Ac1 := A_10.cellAt 1 rfl; have Al := A_10.lt; have Bc0 := B_10.cellAt 0 rfl; have Bc1 := B_10.cellAt 1 rfl; have Bl := B_10.lt; have Cc0 := C_10.cellAt 0 rfl; have Cc1 := C_10.cellAt 1 rfl; have Cl := C_10.lt; have Xc0 := X_10.cellAt 0 rfl; have Xc1 := X_10.cellAt 1 rfl; have Xl := X_10.lt; have Ic0 := I_10.cellAt 0 rfl; have Ic1 := I_10.cellAt 1 rfl; have Il := I_10.lt; have Nc0 := N_10.cellAt 0 rfl; have Nc1 := N_10.cellAt 1 rfl; have Nl := N_10.lt; have Yc0 := Y_10.cellAt 0 rfl; have Yc1 := Y_10.cellAt 1 rfl; have Yl := Y_10.lt)
    | (go_at_call 36; (with_reducible refine (HCC.out _).mono ?_); rintro e w11_ ⟨rfl, h11_⟩; have A_11 := (A_10.alloc).past h11_; have B_11 := (B_10.alloc).past h11_; have C_11 := (C_10.alloc).past h11_; have X_11 := (X_10.alloc).past h11_; have I_11 := (I_10.alloc).past h11_; have N_11 := (N_10.alloc).past h11_; have Y_11 := (Y_10.alloc).past h11_; have Z_11 : Blk w11_ (w10_.heap.size) 63 #[.int .i64 0, .bool false] := (Blk.newAt (by simp)).past h11_; have S_11 := pt (pa (S_10)) h11_; clear A_10 B_10 C_10 X_10 I_10 N_10 Y_10 S_10 Ac0 Ac1 Al Bc0 Bc1 Bl Cc0 Cc1 Cl Xc0 Xc1 Xl Ic0 Ic1 Il Nc0 Nc1 Nl Yc0 Yc1 Yl; have Ac0 := A_11.cellAt 0 rfl; have Ac1 := A_11.cellAt 1 rfl; have Al := A_11.lt; have Bc0 := B_11.cellAt 0 rfl; have Bc1 := B_11.cellAt 1 rfl; have Bl := B_11.lt; have Cc0 := C_11.cellAt 0 rfl; have Cc1 := C_11.cellAt 1 rfl; have Cl := C_11.lt; have Xc0 := X_11.cellAt 0 rfl; have Xc1 := X_11.cellAt 1 rfl; have Xl := X_11.lt; have Ic0 := I_11.cellAt 0 rfl; have Ic1 := I_11.cellAt 1 rfl; have Il := I_11.lt; have Nc0 := N_11.cellAt 0 rfl; have Nc1 := N_11.cellAt 1 rfl; have Nl := N_11.lt))
  go_ret
  exact ⟨rfl, by repeat (first | exact S_11 | refine pa ?_)⟩

set_option maxHeartbeats 16000000 in
set_option maxRecDepth 100000 in
theorem turns_d (h1 : Int) (m1 : Bool) (h2 : Int) (m2 : Bool) (h3 : Int) (m3 : Bool) (e1 : turnE h1 = 0) (e2 : turnE h2 = 0) (e3 : turnE h3 = 0) (w : World) (hT : TwIn w) (hP : PatIn w) :
    Calls Tryd.prog 7 #[.agg #[.int .i64 h1, .bool m1], .agg #[.int .i64 h2, .bool m2], .agg #[.int .i64 h3, .bool m3]] w fun e w' => e = .returned (.bool true) ∧ Below w.heap.size w w' := by
  have HT := Lib.hid (fun w' (h : Below w.heap.size w w') => hT.below h)
  have HP := Lib.hid (fun w' (h : Below w.heap.size w w') => hP.below h)
  clear hT hP

  have g1 := turnE_ok e1
  have HI := Lib.hid (Inverse_ok h1 m1 e1)
  have HO := Lib.hid (OrderOf_ok h1 m1 e1)
  have HA := Lib.hid (refTurnErr_any h1 m1)
  have HB := Lib.hid (refTurnErr_any h2 m2)
  have RI := Lib.hid (refInverse_any h1 m1 g1)
  have RO := Lib.hid (refOrder_any h1 m1 g1)
  obtain ⟨c1, c2⟩ := comp_inv (a := ⟨h1, m1⟩) g1
  obtain ⟨o1, o2, o3⟩ := ord_good m1 g1
  have hi : turnE (invV ⟨h1, m1⟩).hours = 0 := by
    unfold invV turnE withinB
    cases m1
    · have a1 : (0 : Int) ≤ -h1 % 12 := by omega
      have a2 : -h1 % 12 ≤ 11 := by omega
      simp [unlessV, a1, a2]
    · simp [unlessV, g1.1, g1.2]
  have HY := Lib.hid (Composed_ok h1 m1 (invV ⟨h1, m1⟩).hours (invV ⟨h1, m1⟩).mir e1 hi)
  have HZ := Lib.hid (Composed_ok (invV ⟨h1, m1⟩).hours (invV ⟨h1, m1⟩).mir h1 m1 hi e1)
  rw [show compV ⟨h1, m1⟩ ⟨(invV ⟨h1, m1⟩).hours, (invV ⟨h1, m1⟩).mir⟩ = ⟨0, false⟩ from c1] at HY
  rw [show compV ⟨(invV ⟨h1, m1⟩).hours, (invV ⟨h1, m1⟩).mir⟩ ⟨h1, m1⟩ = ⟨0, false⟩ from c2] at HZ
  have g2 := turnE_ok e2
  have HC := Lib.hid (Composed_ok h1 m1 h2 m2 e1 e2)
  have RC := Lib.hid (refComposed_any h1 m1 h2 m2 g1 g2)
  have HCC := Lib.hid (refTurnErr_any h3 m3)
  have kx : ∀ a b, turnE (compV a b).hours = 0 := fun a b => by
    obtain ⟨a1, a2⟩ := compV_ok a b
    simp [turnE, withinB, unlessV, a1, a2]
  have HL := Lib.hid (Composed_ok (compV ⟨h1, m1⟩ ⟨h2, m2⟩).hours (compV ⟨h1, m1⟩ ⟨h2, m2⟩).mir h3 m3 (kx _ _) e3)
  have HOO := Lib.hid (Composed_ok h2 m2 h3 m3 e2 e3)
  have HTO := Lib.hid (refTurnErr_any (compV ⟨h2, m2⟩ ⟨h3, m3⟩).hours (compV ⟨h2, m2⟩ ⟨h3, m3⟩).mir)
  rw [kx] at HTO
  have HQ := Lib.hid (Composed_ok h1 m1 (compV ⟨h2, m2⟩ ⟨h3, m3⟩).hours (compV ⟨h2, m2⟩ ⟨h3, m3⟩).mir e1 (kx _ _))
  rw [show compV ⟨h1, m1⟩ ⟨(compV ⟨h2, m2⟩ ⟨h3, m3⟩).hours, (compV ⟨h2, m2⟩ ⟨h3, m3⟩).mir⟩ = compV (compV ⟨h1, m1⟩ ⟨h2, m2⟩) ⟨h3, m3⟩ from (comp_assoc ⟨h1, m1⟩ ⟨h2, m2⟩ ⟨h3, m3⟩).symm] at HQ
  rw [show compV ⟨(compV ⟨h1, m1⟩ ⟨h2, m2⟩).hours, (compV ⟨h1, m1⟩ ⟨h2, m2⟩).mir⟩ ⟨h3, m3⟩ = compV (compV ⟨h1, m1⟩ ⟨h2, m2⟩) ⟨h3, m3⟩ from rfl] at HL
  generalize compV (compV ⟨h1, m1⟩ ⟨h2, m2⟩) ⟨h3, m3⟩ = l at *
  generalize compV ⟨h2, m2⟩ ⟨h3, m3⟩ = oo at *
  have t3 := tnB_refl l.hours l.mir
  clear kx
  rw [e1] at HA
  rw [e2] at HB
  rw [e3] at HCC
  clear c1 c2 hi
  generalize invV ⟨h1, m1⟩ = i at *
  generalize compV ⟨h1, m1⟩ ⟨h2, m2⟩ = x at *
  generalize ordV ⟨h1, m1⟩ = n at *
  have k1 : (n < 1) = False := by simp; omega
  have k2 : (n == 0) = false := by simp; omega
  have k5 : ¬ n = 0 := by omega
  have k6 : (0 : Int) < n := by omega
  have k4 : IntKind.i64.wrap (24 % n) = 0 := by rw [o2]; decide
  have k3 : (24 : Int).tmod n = 0 := by rw [Int.tmod_eq_emod_of_nonneg (by decide)]; exact o2
  have t0 := tnB_refl 0 false
  have t1 := tnB_refl i.hours i.mir
  have t2 := tnB_refl x.hours x.mir
  clear e1 e2 e3 g1 g2 o1 o2 o3
  go_enter Tryd.func7, Tryd.ntmps7
  go_wp2_with (first
    | (go_at_call 11; (with_reducible refine (awake_any _ (HT.out _ (pa (pa (pa (pr))))) (HP.out _ (pa (pa (pa (pr)))))).mono ?_); rintro e w1_ ⟨rfl, h1_⟩; have A_1 : Blk w1_ (w.heap.size) 63 #[.int .i64 h1, .bool m1] := (Blk.newAt (by simp)).alloc.alloc.past h1_; have B_1 : Blk w1_ (w.heap.size + 1) 63 #[.int .i64 h2, .bool m2] := (Blk.newAt (by simp)).alloc.past h1_; have C_1 : Blk w1_ (w.heap.size + 1 + 1) 63 #[.int .i64 h3, .bool m3] := (Blk.newAt (by simp)).past h1_; have S_1 := pt (pa (pa (pa (pr)))) h1_; have Ac0 := A_1.cellAt 0 rfl; have Ac1 := A_1.cellAt 1 rfl; have Al := A_1.lt; have Bc0 := B_1.cellAt 0 rfl; have Bc1 := B_1.cellAt 1 rfl; have Bl := B_1.lt)
    | (go_at_call 33; (with_reducible refine (HC.out _).mono ?_); rintro e w2_ ⟨rfl, h2_⟩; have A_2 := (A_1).past h2_; have B_2 := (B_1).past h2_; have C_2 := (C_1).past h2_; have S_2 := pt (S_1) h2_; clear A_1 B_1 C_1 S_1 Ac0 Ac1 Al Bc0 Bc1 Bl; have Ac0 := A_2.cellAt 0 rfl; have Ac1 := A_2.cellAt 1 rfl; have Al := A_2.lt; have Bc0 := B_2.cellAt 0 rfl; have Bc1 := B_2.cellAt 1 rfl; have Bl := B_2.lt)
    | (go_at_call 34; (with_reducible refine (HI.out _).mono ?_); rintro e w3_ ⟨rfl, h3_⟩; have A_3 := (A_2.alloc).past h3_; have B_3 := (B_2.alloc).past h3_; have C_3 := (C_2.alloc).past h3_; have X_3 : Blk w3_ (w2_.heap.size) 63 #[.int .i64 x.hours, .bool x.mir] := (Blk.newAt (by simp)).past h3_; have S_3 := pt (pa (S_2)) h3_; clear A_2 B_2 C_2 S_2 Ac0 Ac1 Al Bc0 Bc1 Bl; have Ac0 := A_3.cellAt 0 rfl; have Ac1 := A_3.cellAt 1 rfl; have Al := A_3.lt; have Bc0 := B_3.cellAt 0 rfl; have Bc1 := B_3.cellAt 1 rfl; have Bl := B_3.lt; have Xc0 := X_3.cellAt 0 rfl; have Xc1 := X_3.cellAt 1 rfl; have Xl := X_3.lt)
    | (go_at_call 35; (with_reducible refine (HO.out _).mono ?_); rintro e w4_ ⟨rfl, h4_⟩; have A_4 := (A_3.alloc).past h4_; have B_4 := (B_3.alloc).past h4_; have C_4 := (C_3.alloc).past h4_; have X_4 := (X_3.alloc).past h4_; have I_4 : Blk w4_ (w3_.heap.size) 63 #[.int .i64 i.hours, .bool i.mir] := (Blk.newAt (by simp)).past h4_; have S_4 := pt (pa (S_3)) h4_; clear A_3 B_3 C_3 X_3 S_3 Ac0 Ac1 Al Bc0 Bc1 Bl Xc0 Xc1 Xl; have Ac0 := A_4.cellAt 0 rfl; have Ac1 := A_4.cellAt 1 rfl; have Al := A_4.lt; have Bc0 := B_4.cellAt 0 rfl; have Bc1 := B_4.cellAt 1 rfl; have Bl := B_4.lt; have Xc0 := X_4.cellAt 0 rfl; have Xc1 := X_4.cellAt 1 rfl; have Xl := X_4.lt; have Ic0 := I_4.cellAt 0 rfl; have Ic1 := I_4.cellAt 1 rfl; have Il := I_4.lt)
    | (go_at_call 36; (with_reducible refine (HA.out _).mono ?_); rintro e w5_ ⟨rfl, h5_⟩; have A_5 := (A_4.alloc).past h5_; have B_5 := (B_4.alloc).past h5_; have C_5 := (C_4.alloc).past h5_; have X_5 := (X_4.alloc).past h5_; have I_5 := (I_4.alloc).past h5_; have N_5 : Blk w5_ (w4_.heap.size) 63 #[.int .i64 0, .bool false] := (Blk.newAt (by simp)).past h5_; have S_5 := pt (pa (S_4)) h5_; clear A_4 B_4 C_4 X_4 I_4 S_4 Ac0 Ac1 Al Bc0 Bc1 Bl Xc0 Xc1 Xl Ic0 Ic1 Il; have Ac0 := A_5.cellAt 0 rfl; have Ac1 := A_5.cellAt 1 rfl; have Al := A_5.lt; have Bc0 := B_5.cellAt 0 rfl; have Bc1 := B_5.cellAt 1 rfl; have Bl := B_5.lt; have Xc0 := X_5.cellAt 0 rfl; have Xc1 := X_5.cellAt 1 rfl; have Xl := X_5.lt; have Ic0 := I_5.cellAt 0 rfl; have Ic1 := I_5.cellAt 1 rfl; have Il := I_5.lt; have Nc0 := N_5.cellAt 0 rfl; have Nc1 := N_5.cellAt 1 rfl; have Nl := N_5.lt)
    | (go_at_call 36; (with_reducible refine (HB.out _).mono ?_); rintro e w6_ ⟨rfl, h6_⟩; have A_6 := (A_5).past h6_; have B_6 := (B_5).past h6_; have C_6 := (C_5).past h6_; have X_6 := (X_5).past h6_; have I_6 := (I_5).past h6_; have N_6 := (N_5).past h6_; have S_6 := pt (S_5) h6_; clear A_5 B_5 C_5 X_5 I_5 N_5 S_5 Ac0 Ac1 Al Bc0 Bc1 Bl Xc0 Xc1 Xl Ic0 Ic1 Il Nc0 Nc1 Nl; have Ac0 := A_6.cellAt 0 rfl; have Ac1 := A_6.cellAt 1 rfl; have Al := A_6.lt; have Bc0 := B_6.cellAt 0 rfl; have Bc1 := B_6.cellAt 1 rfl; have Bl := B_6.lt; have Xc0 := X_6.cellAt 0 rfl; have Xc1 := X_6.cellAt 1 rfl; have Xl := X_6.lt; have Ic0 := I_6.cellAt 0 rfl; have Ic1 := I_6.cellAt 1 rfl; have Il := I_6.lt; have Nc0 := N_6.cellAt 0 rfl; have Nc1 := N_6.cellAt 1 rfl; have Nl := N_6.lt))
  refine region_below 26 follows_mixed (by kernel_rfl) ?_
  intro C hC
  simp only [List.take_succ_cons, List.take_zero, List.drop_succ_cons, List.drop_zero]
  repeat (first
    | ((with_reducible refine quiet_plain rfl (fun K hK => ?_)); (focus (apply quiet_val; (focus (intro w' hw; obtain ⟨hcq, hfq⟩ := bcell ((hC.out _).1 hw); go_simp; (first | done | rfl | (with_reducible exact call_below hC hw (RC.out _))))); (simp only [Act.put, List.setIfInBounds_toArray, List.set_cons_succ, List.set_cons_zero]); (with_reducible refine hK _ ?_); clear hK K)))
    | ((with_reducible refine quiet_skip ?_ ?_); (focus (first | (simp [Region.wanted, yielded]; done) | (simp [Region.wanted, yielded, undef]; done))); simp only [Act.put, List.setIfInBounds_toArray, List.set_cons_succ, List.set_cons_zero])
    | ((with_reducible refine quiet_go ?_ (fun K hK => ?_)); (focus (first | (simp [Region.wanted, yielded]; done) | (simp [Region.wanted, yielded, undef]; done))); (focus (apply quiet_val; (focus (intro w' hw; obtain ⟨hcq, hfq⟩ := bcell ((hC.out _).1 hw); go_simp; (first | done | rfl | (with_reducible exact call_below hC hw (RC.out _))))); (simp only [Act.put, List.setIfInBounds_toArray, List.set_cons_succ, List.set_cons_zero]); (with_reducible refine hK _ ?_); clear hK K))))
  refine wpQuiet_nil ?_
  intro w1 hb1
  replace hb1 := (hC.out _).1 hb1
  clear hC C
  obtain ⟨hc1, hf1⟩ := bcell hb1
  have A_7 := (A_6).past hb1
  have B_7 := (B_6).past hb1
  have C_7 := (C_6).past hb1
  have X_7 := (X_6).past hb1
  have I_7 := (I_6).past hb1
  have N_7 := (N_6).past hb1
  have S_7 := pt (S_6) hb1
  clear A_6 B_6 C_6 X_6 I_6 N_6 S_6 Ac0 Ac1 Al Bc0 Bc1 Bl Xc0 Xc1 Xl Ic0 Ic1 Il Nc0 Nc1 Nl
  have Ac0 := A_7.cellAt 0 rfl
  have Ac1 := A_7.cellAt 1 rfl
  have Al := A_7.lt
  have Bc0 := B_7.cellAt 0 rfl
  have Bc1 := B_7.cellAt 1 rfl
  have Bl := B_7.lt
  have Xc0 := X_7.cellAt 0 rfl
  have Xc1 := X_7.cellAt 1 rfl
  have Xl := X_7.lt
  have Ic0 := I_7.cellAt 0 rfl
  have Ic1 := I_7.cellAt 1 rfl
  have Il := I_7.lt
  have Nc0 := N_7.cellAt 0 rfl
  have Nc1 := N_7.cellAt 1 rfl
  have Nl := N_7.lt
  clear hb1 hc1 hf1
  obtain ⟨w7_, rfl⟩ : ∃ v, v = w1 := ⟨_, rfl⟩
  go_wp2
  refine region_below 26 follows_mixed (by kernel_rfl) ?_
  intro C hC
  simp only [List.take_succ_cons, List.take_zero, List.drop_succ_cons, List.drop_zero]
  repeat (first
    | ((with_reducible refine quiet_plain rfl (fun K hK => ?_)); (focus (apply quiet_val; (focus (intro w' hw; obtain ⟨hcq, hfq⟩ := bcell ((hC.out _).1 hw); go_simp; (first | done | rfl | (with_reducible exact call_below hC hw (RI.out _)) | (with_reducible exact call_below hC hw (RO.out _))))); (simp only [Act.put, List.setIfInBounds_toArray, List.set_cons_succ, List.set_cons_zero]); (with_reducible refine hK _ ?_); clear hK K)))
    | ((with_reducible refine quiet_skip ?_ ?_); (focus (first | (simp [Region.wanted, yielded]; done) | (simp [Region.wanted, yielded, undef]; done))); simp only [Act.put, List.setIfInBounds_toArray, List.set_cons_succ, List.set_cons_zero])
    | ((with_reducible refine quiet_go ?_ (fun K hK => ?_)); (focus (first | (simp [Region.wanted, yielded]; done) | (simp [Region.wanted, yielded, undef]; done))); (focus (apply quiet_val; (focus (intro w' hw; obtain ⟨hcq, hfq⟩ := bcell ((hC.out _).1 hw); go_simp; (first | done | rfl | (with_reducible exact call_below hC hw (RI.out _)) | (with_reducible exact call_below hC hw (RO.out _))))); (simp only [Act.put, List.setIfInBounds_toArray, List.set_cons_succ, List.set_cons_zero]); (with_reducible refine hK _ ?_); clear hK K))))
  refine wpQuiet_nil ?_
  intro w1 hb1
  replace hb1 := (hC.out _).1 hb1
  clear hC C
  obtain ⟨hc1, hf1⟩ := bcell hb1
  have A_8 := (A_7).past hb1
  have B_8 := (B_7).past hb1
  have C_8 := (C_7).past hb1
  have X_8 := (X_7).past hb1
  have I_8 := (I_7).past hb1
  have N_8 := (N_7).past hb1
  have S_8 := pt (S_7) hb1
  clear A_7 B_7 C_7 X_7 I_7 N_7 S_7 Ac0 Ac1 Al Bc0 Bc1 Bl Xc0 Xc1 Xl Ic0 Ic1 Il Nc0 Nc1 Nl
  have Ac0 := A_8.cellAt 0 rfl
  have Ac1 := A_8.cellAt 1 rfl
  have Al := A_8.lt
  have Bc0 := B_8.cellAt 0 rfl
  have Bc1 := B_8.cellAt 1 rfl
  have Bl := B_8.lt
  have Cc0 := C_8.cellAt 0 rfl
  have Cc1 := C_8.cellAt 1 rfl
  have Cl := C_8.lt
  have Xc0 := X_8.cellAt 0 rfl
  have Xc1 := X_8.cellAt 1 rfl
  have Xl := X_8.lt
  have Ic0 := I_8.cellAt 0 rfl
  have Ic1 := I_8.cellAt 1 rfl
  have Il := I_8.lt
  have Nc0 := N_8.cellAt 0 rfl
  have Nc1 := N_8.cellAt 1 rfl
  have Nl := N_8.lt
  clear hb1 hc1 hf1
  obtain ⟨w8_, rfl⟩ : ∃ v, v = w1 := ⟨_, rfl⟩
  go_wp2_with (first
    | (go_at_call 33; (with_reducible refine (HY.out _).mono ?_); rintro e w9_ ⟨rfl, h9_⟩; have A_9 := (A_8).past h9_; have B_9 := (B_8).past h9_; have C_9 := (C_8).past h9_; have X_9 := (X_8).past h9_; have I_9 := (I_8).past h9_; have N_9 := (N_8).past h9_; have S_9 := pt (S_8) h9_; clear A_8 B_8 C_8 X_8 I_8 N_8 S_8 Ac0 Ac1 Al Bc0 Bc1 Bl Cc0 Cc1 Cl Xc0 Xc1 Xl Ic0 Ic1 Il Nc0 Nc1 Nl; have Ac0 := A_9.cellAt 0 rfl; have Ac1 := A_9.cellAt 1 rfl; have Al := A_9.lt; have Bc0 := B_9.cellAt 0 rfl; have Bc1 := B_9.cellAt 1 rfl; have Bl := B_9.lt; have Cc0 := C_9.cellAt 0 rfl; have Cc1 := C_9.cellAt 1 rfl; have Cl := C_9.lt; have Xc0 := X_9.cellAt 0 rfl; have Xc1 := X_9.cellAt 1 rfl; have Xl := X_9.lt; have Ic0 := I_9.cellAt 0 rfl; have Ic1 := I_9.cellAt 1 rfl; have Il := I_9.lt; have Nc0 := N_9.cellAt 0 rfl; have Nc1 := N_9.cellAt 1 rfl; have Nl := N_9.lt)
    | (go_at_call 33; (with_reducible refine (HZ.out _).mono ?_); rintro e w10_ ⟨rfl, h10_⟩; have A_10 := (A_9.alloc).past h10_; have B_10 := (B_9.alloc).past h10_; have C_10 := (C_9.alloc).past h10_; have X_10 := (X_9.alloc).past h10_; have I_10 := (I_9.alloc).past h10_; have N_10 := (N_9.alloc).past h10_; have Y_10 : Blk w10_ (w9_.heap.size) 63 #[.int .i64 0, .bool false] := (Blk.newAt (by simp)).past h10_; have S_10 := pt (pa (S_9)) h10_; clear A_9 B_9 C_9 X_9 I_9 N_9 S_9 Ac0 Ac1 Al Bc0 Bc1 Bl Cc0 Cc1 Cl Xc0 Xc1 Xl Ic0 Ic1 Il Nc0 Nc1 Nl; have Ac0 := A_10.cellAt 0 rfl; have Ac1 := A_10.cellAt 1 rfl; have Al := A_10.lt; have Bc0 := B_10.cellAt 0 rfl; have Bc1 := B_10.cellAt 1 rfl; have Bl := B_10.lt; have Cc0 := C_10.cellAt 0 rfl; have Cc1 := C_10.cellAt 1 rfl; have Cl := C_10.lt; have Xc0 := X_10.cellAt 0 rfl; have Xc1 := X_10.cellAt 1 rfl; have Xl := X_10.lt; have Ic0 := I_10.cellAt 0 rfl; have Ic1 := I_10.cellAt 1 rfl; have Il := I_10.lt; have Nc0 := N_10.cellAt 0 rfl; have Nc1 := N_10.cellAt 1 rfl; have Nl := N_10.lt; have Yc0 := Y_10.cellAt 0 rfl; have Yc1 := Y_10.cellAt 1 rfl; have Yl := Y_10.lt)
    | (go_at_call 36; (with_reducible refine (HCC.out _).mono ?_); rintro e w11_ ⟨rfl, h11_⟩; have A_11 := (A_10.alloc).past h11_; have B_11 := (B_10.alloc).past h11_; have C_11 := (C_10.alloc).past h11_; have X_11 := (X_10.alloc).past h11_; have I_11 := (I_10.alloc).past h11_; have N_11 := (N_10.alloc).past h11_; have Y_11 := (Y_10.alloc).past h11_; have Z_11 : Blk w11_ (w10_.heap.size) 63 #[.int .i64 0, .bool false] := (Blk.newAt (by simp)).past h11_; have S_11 := pt (pa (S_10)) h11_; clear A_10 B_10 C_10 X_10 I_10 N_10 Y_10 S_10 Ac0 Ac1 Al Bc0 Bc1 Bl Cc0 Cc1 Cl Xc0 Xc1 Xl Ic0 Ic1 Il Nc0 Nc1 Nl Yc0 Yc1 Yl; have Ac0 := A_11.cellAt 0 rfl; have Ac1 := A_11.cellAt 1 rfl; have Al := A_11.lt; have Bc0 := B_11.cellAt 0 rfl; have Bc1 := B_11.cellAt 1 rfl; have Bl := B_11.lt; have Cc0 := C_11.cellAt 0 rfl; have Cc1 := C_11.cellAt 1 rfl; have Cl := C_11.lt; have Xc0 := X_11.cellAt 0 rfl; have Xc1 := X_11.cellAt 1 rfl; have Xl := X_11.lt; have Ic0 := I_11.cellAt 0 rfl; have Ic1 := I_11.cellAt 1 rfl; have Il := I_11.lt; have Nc0 := N_11.cellAt 0 rfl; have Nc1 := N_11.cellAt 1 rfl; have Nl := N_11.lt)
    | (go_at_call 33; (with_reducible refine (HL.out _).mono ?_); rintro e w12_ ⟨rfl, h12_⟩; have A_12 := (A_11).past h12_; have B_12 := (B_11).past h12_; have C_12 := (C_11).past h12_; have X_12 := (X_11).past h12_; have I_12 := (I_11).past h12_; have N_12 := (N_11).past h12_; have Y_12 := (Y_11).past h12_; have Z_12 := (Z_11).past h12_; have S_12 := pt (S_11) h12_; clear A_11 B_11 C_11 X_11 I_11 N_11 Y_11 Z_11 S_11 Ac0 Ac1 Al Bc0 Bc1 Bl Cc0 Cc1 Cl Xc0 Xc1 Xl Ic0 Ic1 Il Nc0 Nc1 Nl; have Ac0 := A_12.cellAt 0 rfl; have Ac1 := A_12.cellAt 1 rfl; have Al := A_12.lt; have Bc0 := B_12.cellAt 0 rfl; have Bc1 := B_12.cellAt 1 rfl; have Bl := B_12.lt; have Cc0 := C_12.cellAt 0 rfl; have Cc1 := C_12.cellAt 1 rfl; have Cl := C_12.lt)
    | (go_at_call 33; (with_reducible refine (HOO.out _).mono ?_); rintro e w13_ ⟨rfl, h13_⟩; have A_13 := (A_12.alloc).past h13_; have B_13 := (B_12.alloc).past h13_; have C_13 := (C_12.alloc).past h13_; have X_13 := (X_12.alloc).past h13_; have I_13 := (I_12.alloc).past h13_; have N_13 := (N_12.alloc).past h13_; have Y_13 := (Y_12.alloc).past h13_; have Z_13 := (Z_12.alloc).past h13_; have L_13 : Blk w13_ (w12_.heap.size) 63 #[.int .i64 l.hours, .bool l.mir] := (Blk.newAt (by simp)).past h13_; have S_13 := pt (pa (S_12)) h13_; clear A_12 B_12 C_12 X_12 I_12 N_12 Y_12 Z_12 S_12 Ac0 Ac1 Al Bc0 Bc1 Bl Cc0 Cc1 Cl; have Ac0 := A_13.cellAt 0 rfl; have Ac1 := A_13.cellAt 1 rfl; have Al := A_13.lt)
    | (go_at_call 36; (with_reducible refine (HTO.out _).mono ?_); rintro e w14_ ⟨rfl, h14_⟩; have A_14 := (A_13.alloc).past h14_; have B_14 := (B_13.alloc).past h14_; have C_14 := (C_13.alloc).past h14_; have X_14 := (X_13.alloc).past h14_; have I_14 := (I_13.alloc).past h14_; have N_14 := (N_13.alloc).past h14_; have Y_14 := (Y_13.alloc).past h14_; have Z_14 := (Z_13.alloc).past h14_; have L_14 := (L_13.alloc).past h14_; have O_14 : Blk w14_ (w13_.heap.size) 63 #[.int .i64 oo.hours, .bool oo.mir] := (Blk.newAt (by simp)).past h14_; have S_14 := pt (pa (S_13)) h14_; clear A_13 B_13 C_13 X_13 I_13 N_13 Y_13 Z_13 L_13 S_13 Ac0 Ac1 Al; have Ac0 := A_14.cellAt 0 rfl; have Ac1 := A_14.cellAt 1 rfl; have Al := A_14.lt; have Oc0 := O_14.cellAt 0 rfl; have Oc1 := O_14.cellAt 1 rfl; have Ol := O_14.lt; have Lc0 := L_14.cellAt 0 rfl; have Lc1 := L_14.cellAt 1 rfl; have Ll := L_14.lt)
    | (go_at_call 33; (with_reducible refine (HQ.out _).mono ?_); rintro e w15_ ⟨rfl, h15_⟩; have A_15 := (A_14).past h15_; have B_15 := (B_14).past h15_; have C_15 := (C_14).past h15_; have X_15 := (X_14).past h15_; have I_15 := (I_14).past h15_; have N_15 := (N_14).past h15_; have Y_15 := (Y_14).past h15_; have Z_15 := (Z_14).past h15_; have L_15 := (L_14).past h15_; have O_15 := (O_14).past h15_; have S_15 := pt (S_14) h15_; clear A_14 B_14 C_14 X_14 I_14 N_14 Y_14 Z_14 L_14 O_14 S_14 Ac0 Ac1 Al Oc0 Oc1 Ol Lc0 Lc1 Ll; have Lc0 := L_15.cellAt 0 rfl; have Lc1 := L_15.cellAt 1 rfl; have Ll := L_15.lt))
  go_ret
  exact ⟨rfl, by repeat (first | exact S_15 | refine pa ?_)⟩

theorem turns_walk (h1 : Int) (m1 : Bool) (h2 : Int) (m2 : Bool) (h3 : Int) (m3 : Bool) (w : World) (hT : TwIn w) (hP : PatIn w) :
    Calls Tryd.prog 7 #[.agg #[.int .i64 h1, .bool m1], .agg #[.int .i64 h2, .bool m2], .agg #[.int .i64 h3, .bool m3]] w fun e w' => e = .returned (.bool true) ∧ Below w.heap.size w w' := by
  rcases turnE_cases h1 with e1 | e1
  · rcases turnE_cases h2 with e2 | e2
    · rcases turnE_cases h3 with e3 | e3
      · exact turns_d h1 m1 h2 m2 h3 m3 e1 e2 e3 w hT hP
      · exact turns_c h1 m1 h2 m2 h3 m3 e1 e2 e3 w hT hP
    · exact turns_b h1 m1 h2 m2 h3 m3 e1 e2 w hT hP
  · exact turns_a h1 m1 h2 m2 h3 m3 e1 w hT hP

end Go.Proofs.YtnhcamokcggnkaaDoor
