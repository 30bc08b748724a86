/- The walk of the law on phasors: it returns true. Printed by a program (gen_phlaw.py). -/
import Derived.Test.YtnhcamokcggnkaaDoorGSHours
import Derived.Test.YtnhcamokcggnkaaDoorGMTurns
import Derived.Test.YtnhcamokcggnkaaDoorGJAwake
namespace Go.Proofs.YtnhcamokcggnkaaDoor
open Go.RowKit
attribute [local go_sem ↓] Go.wp_at_zero Go.wp_at_succ
attribute [local go_sem ↓ high] apiph_eql apiph_neq ph_eql

theorem phB_refl (p q : Int) : phB p q p q = true := by simp [phB]
theorem hourE_of {p q : Int} (h : phE p q = 0) : hourE p q = if p = 0 ∧ q = 0 then 11 else 0 := by
  unfold hourE
  rw [h]
  by_cases h0 : p = 0 ∧ q = 0
  · obtain ⟨rfl, rfl⟩ := h0; rfl
  · have : phB p q 0 0 = false := by
      cases hb : phB p q 0 0
      · rfl
      · exact absurd (by simpa [phB] using hb) h0
    rw [this, if_neg h0]; rfl
theorem HoursOf_any (p q : Int) (h : phE p q = 0) (w : World) (hT : TwIn w) :
    Calls Tryd.prog 23 #[.agg #[.int .i64 p, .int .i64 q]] w fun e w' => e = .returned (.tuple #[.int .i64 ((hoursV p q).getD 0), .int .i64 (hoursE p q)]) ∧ Below w.heap.size w w' := by
  by_cases h0 : p = 0 ∧ q = 0
  · have h1 := HoursOf_err p q (by rw [hourE_of h, if_pos h0]; decide) w
    rw [hourE_of h, if_pos h0] at h1
    obtain ⟨rfl, rfl⟩ := h0
    exact h1
  · have h1 := HoursOf_ok p q (by rw [hourE_of h, if_neg h0]) w hT
    rw [show unlessV (hoursV p q).isSome 12 = hoursE p q by unfold hoursE unlessV; rw [if_neg h0]] at h1
    exact h1
theorem hoursE_some {p q : Int} (h : hoursE p q = 0) : ∃ x, hoursV p q = some x := by
  unfold hoursE at h
  split at h
  · cases h
  · split at h
    · rename_i h1; exact Option.isSome_iff_exists.1 h1
    · cases h
theorem hoursE_of {p q x : Int} (h : hoursV p q = some x) : hoursE p q = 0 := by
  have h0 : ¬ (p = 0 ∧ q = 0) := by rintro ⟨rfl, rfl⟩; cases h
  unfold hoursE
  rw [if_neg h0, h]; rfl
theorem hoursE_cases (p q : Int) : hoursE p q = 0 ∨ (hoursE p q == 0) = false := by
  by_cases h : hoursE p q = 0
  · exact .inl h
  · exact .inr (by simpa using h)

set_option maxHeartbeats 16000000 in
set_option maxRecDepth 100000 in
theorem phasors_a (p q r s : Int) (e1 : phE p q = 2) (w : World) (hT : TwIn w) (hP : PatIn w) :
    Calls Tryd.prog 5 #[.agg #[.int .i64 p, .int .i64 q], .agg #[.int .i64 r, .int .i64 s]] w fun e w' => e = .returned (.bool true) ∧ Below w.heap.size w w' := by
  have HT := Lib.hid (fun w' (h : Below w.heap.size w w') => hT.below h)
  have HP := Lib.hid (fun w' (h : Below w.heap.size w w') => hP.below h)
  clear hT hP

  have HS := Lib.hid (SquareOf_any p q)
  have HA := Lib.hid (refPhasorErr_any p q)
  have HB := Lib.hid (refPhasorErr_any r s)
  have HC := Lib.hid (Product_err p q r s (by simp [firstV, e1]))
  rw [show firstV [phE p q, phE r s] = 2 by simp [firstV, e1]] at HC
  have eh : hourE p q = 2 := by unfold hourE; rw [e1]; rfl
  have HH := Lib.hid (fun w (_ : TwIn w) => HoursOf_err p q (by rw [eh]; decide) w)
  rw [eh] at HH
  rw [e1, if_neg (by decide)] at HS
  rw [e1] at HA
  have t0 := phB_refl 0 0
  clear e1 eh
  go_enter Tryd.func5, Tryd.ntmps5
  go_wp2_with (first
    | (go_at_call 11; (with_reducible refine (awake_any _ (HT.out _ (pa (pa (pr)))) (HP.out _ (pa (pa (pr))))).mono ?_); rintro e w1_ ⟨rfl, h1_⟩; have A_1 : Blk w1_ (w.heap.size) 48 #[.int .i64 p, .int .i64 q] := (Blk.newAt (by simp)).alloc.past h1_; have B_1 : Blk w1_ (w.heap.size + 1) 48 #[.int .i64 r, .int .i64 s] := (Blk.newAt (by simp)).past h1_; have S_1 := pt (pa (pa (pr))) h1_; have Ac0 := A_1.cellAt 0 rfl; have Ac1 := A_1.cellAt 1 rfl; have Al := A_1.lt; have Bc0 := B_1.cellAt 0 rfl; have Bc1 := B_1.cellAt 1 rfl; have Bl := B_1.lt)
    | (go_at_call 21; (with_reducible refine (HC.out _).mono ?_); rintro e w2_ ⟨rfl, h2_⟩; have A_2 := (A_1).past h2_; have B_2 := (B_1).past h2_; have S_2 := pt (S_1) h2_; clear A_1 B_1 S_1 Ac0 Ac1 Al Bc0 Bc1 Bl; have Ac0 := A_2.cellAt 0 rfl; have Ac1 := A_2.cellAt 1 rfl; have Al := A_2.lt; have Bc0 := B_2.cellAt 0 rfl; have Bc1 := B_2.cellAt 1 rfl; have Bl := B_2.lt)
    | (go_at_call 22; (with_reducible refine (HS.out _).mono ?_); rintro e w3_ ⟨rfl, h3_⟩; have A_3 := (A_2.alloc).past h3_; have B_3 := (B_2.alloc).past h3_; have Z_3 : Blk w3_ (w2_.heap.size) 48 #[.int .i64 0, .int .i64 0] := (Blk.newAt (by simp)).past h3_; have S_3 := pt (pa (S_2)) h3_; clear A_2 B_2 S_2 Ac0 Ac1 Al Bc0 Bc1 Bl; have Ac0 := A_3.cellAt 0 rfl; have Ac1 := A_3.cellAt 1 rfl; have Al := A_3.lt; have Bc0 := B_3.cellAt 0 rfl; have Bc1 := B_3.cellAt 1 rfl; have Bl := B_3.lt; have Zc0 := Z_3.cellAt 0 rfl; have Zc1 := Z_3.cellAt 1 rfl; have Zl := Z_3.lt)
    | (go_at_call 23; (with_reducible refine (HH.out _ (HT.out _ (S_3))).mono ?_); rintro e w4_ ⟨rfl, h4_⟩; have A_4 := (A_3).past h4_; have B_4 := (B_3).past h4_; have Z_4 := (Z_3).past h4_; have S_4 := pt (S_3) h4_; clear A_3 B_3 Z_3 S_3 Ac0 Ac1 Al Bc0 Bc1 Bl Zc0 Zc1 Zl; have Ac0 := A_4.cellAt 0 rfl; have Ac1 := A_4.cellAt 1 rfl; have Al := A_4.lt; have Bc0 := B_4.cellAt 0 rfl; have Bc1 := B_4.cellAt 1 rfl; have Bl := B_4.lt; have Zc0 := Z_4.cellAt 0 rfl; have Zc1 := Z_4.cellAt 1 rfl; have Zl := Z_4.lt)
    | (go_at_call 24; (with_reducible refine (HA.out _).mono ?_); rintro e w5_ ⟨rfl, h5_⟩; have A_5 := (A_4).past h5_; have B_5 := (B_4).past h5_; have Z_5 := (Z_4).past h5_; have S_5 := pt (S_4) h5_; clear A_4 B_4 Z_4 S_4 Ac0 Ac1 Al Bc0 Bc1 Bl Zc0 Zc1 Zl; have Ac0 := A_5.cellAt 0 rfl; have Ac1 := A_5.cellAt 1 rfl; have Al := A_5.lt; have Bc0 := B_5.cellAt 0 rfl; have Bc1 := B_5.cellAt 1 rfl; have Bl := B_5.lt; have Zc0 := Z_5.cellAt 0 rfl; have Zc1 := Z_5.cellAt 1 rfl; have Zl := Z_5.lt))
  refine region_below 26 follows_mixed (by kernel_rfl) ?_
  intro C hC
  simp only [List.take_succ_cons, List.take_zero, List.drop_succ_cons, List.drop_zero]
  repeat (first
    | ((with_reducible refine quiet_plain rfl (fun K hK => ?_)); (focus (apply quiet_val; (focus (intro w' hw; obtain ⟨hcq, hfq⟩ := bcell ((hC.out _).1 hw); go_simp; (first | done | rfl))); (simp only [Act.put, List.setIfInBounds_toArray, List.set_cons_succ, List.set_cons_zero]); (with_reducible refine hK _ ?_); clear hK K)))
    | ((with_reducible refine quiet_skip ?_ ?_); (focus (first | (simp [Region.wanted, yielded]; done) | (simp [Region.wanted, yielded, undef]; done))); simp only [Act.put, List.setIfInBounds_toArray, List.set_cons_succ, List.set_cons_zero])
    | ((with_reducible refine quiet_go ?_ (fun K hK => ?_)); (focus (first | (simp [Region.wanted, yielded]; done) | (simp [Region.wanted, yielded, undef]; done))); (focus (apply quiet_val; (focus (intro w' hw; obtain ⟨hcq, hfq⟩ := bcell ((hC.out _).1 hw); go_simp; (first | done | rfl))); (simp only [Act.put, List.setIfInBounds_toArray, List.set_cons_succ, List.set_cons_zero]); (with_reducible refine hK _ ?_); clear hK K))))
  refine wpQuiet_nil ?_
  intro w1 hb1
  replace hb1 := (hC.out _).1 hb1
  clear hC C
  obtain ⟨hc1, hf1⟩ := bcell hb1
  have A_6 := (A_5).past hb1
  have B_6 := (B_5).past hb1
  have Z_6 := (Z_5).past hb1
  have S_6 := pt (S_5) hb1
  clear A_5 B_5 Z_5 S_5 Ac0 Ac1 Al Bc0 Bc1 Bl Zc0 Zc1 Zl
  have Ac0 := A_6.cellAt 0 rfl
  have Ac1 := A_6.cellAt 1 rfl
  have Al := A_6.lt
  have Bc0 := B_6.cellAt 0 rfl
  have Bc1 := B_6.cellAt 1 rfl
  have Bl := B_6.lt
  have Zc0 := Z_6.cellAt 0 rfl
  have Zc1 := Z_6.cellAt 1 rfl
  have Zl := Z_6.lt
  clear hb1 hc1 hf1
  obtain ⟨w6_, rfl⟩ : ∃ v, v = w1 := ⟨_, rfl⟩
  go_wp2
  go_ret
  exact ⟨rfl, by repeat (first | exact S_6 | refine pa ?_)⟩

set_option maxHeartbeats 16000000 in
set_option maxRecDepth 100000 in
theorem phasors_b (p q r s : Int) (e1 : phE p q = 0) (e2 : phE r s = 2) (w : World) (hT : TwIn w) (hP : PatIn w) :
    Calls Tryd.prog 5 #[.agg #[.int .i64 p, .int .i64 q], .agg #[.int .i64 r, .int .i64 s]] w fun e w' => e = .returned (.bool true) ∧ Below w.heap.size w w' := by
  have HT := Lib.hid (fun w' (h : Below w.heap.size w w') => hT.below h)
  have HP := Lib.hid (fun w' (h : Below w.heap.size w w') => hP.below h)
  clear hT hP

  have HS := Lib.hid (SquareOf_any p q)
  have HA := Lib.hid (refPhasorErr_any p q)
  have HB := Lib.hid (refPhasorErr_any r s)
  obtain ⟨sp, sq⟩ := phE_sm e1
  have HH := Lib.hid (HoursOf_any p q e1)
  have RH := Lib.hid (refHours_any p q sp sq)
  have RS := Lib.hid (refSquare_any p q sp sq)
  rw [e1, if_pos rfl] at HS
  rw [e1] at HA
  have HC := Lib.hid (Product_err p q r s (by simp [firstV, e1, e2]))
  rw [show firstV [phE p q, phE r s] = 2 by simp [firstV, e1, e2]] at HC
  rw [e2] at HB
  have t0 := phB_refl 0 0
  generalize sqV p q = n at *
  generalize (hoursV p q).getD 0 = h at *
  generalize hoursE p q = E at *
  clear e1 e2 sp sq
  go_enter Tryd.func5, Tryd.ntmps5
  go_wp2_with (first
    | (go_at_call 11; (with_reducible refine (awake_any _ (HT.out _ (pa (pa (pr)))) (HP.out _ (pa (pa (pr))))).mono ?_); rintro e w1_ ⟨rfl, h1_⟩; have A_1 : Blk w1_ (w.heap.size) 48 #[.int .i64 p, .int .i64 q] := (Blk.newAt (by simp)).alloc.past h1_; have B_1 : Blk w1_ (w.heap.size + 1) 48 #[.int .i64 r, .int .i64 s] := (Blk.newAt (by simp)).past h1_; have S_1 := pt (pa (pa (pr))) h1_; have Ac0 := A_1.cellAt 0 rfl; have Ac1 := A_1.cellAt 1 rfl; have Al := A_1.lt; have Bc0 := B_1.cellAt 0 rfl; have Bc1 := B_1.cellAt 1 rfl; have Bl := B_1.lt)
    | (go_at_call 21; (with_reducible refine (HC.out _).mono ?_); rintro e w2_ ⟨rfl, h2_⟩; have A_2 := (A_1).past h2_; have B_2 := (B_1).past h2_; have S_2 := pt (S_1) h2_; clear A_1 B_1 S_1 Ac0 Ac1 Al Bc0 Bc1 Bl; have Ac0 := A_2.cellAt 0 rfl; have Ac1 := A_2.cellAt 1 rfl; have Al := A_2.lt; have Bc0 := B_2.cellAt 0 rfl; have Bc1 := B_2.cellAt 1 rfl; have Bl := B_2.lt)
    | (go_at_call 22; (with_reducible refine (HS.out _).mono ?_); rintro e w3_ ⟨rfl, h3_⟩; have A_3 := (A_2.alloc).past h3_; have B_3 := (B_2.alloc).past h3_; have Z_3 : Blk w3_ (w2_.heap.size) 48 #[.int .i64 0, .int .i64 0] := (Blk.newAt (by simp)).past h3_; have S_3 := pt (pa (S_2)) h3_; clear A_2 B_2 S_2 Ac0 Ac1 Al Bc0 Bc1 Bl; have Ac0 := A_3.cellAt 0 rfl; have Ac1 := A_3.cellAt 1 rfl; have Al := A_3.lt; have Bc0 := B_3.cellAt 0 rfl; have Bc1 := B_3.cellAt 1 rfl; have Bl := B_3.lt; have Zc0 := Z_3.cellAt 0 rfl; have Zc1 := Z_3.cellAt 1 rfl; have Zl := Z_3.lt)
    | (go_at_call 23; (with_reducible refine (HH.out _ (HT.out _ (S_3))).mono ?_); rintro e w4_ ⟨rfl, h4_⟩; have A_4 := (A_3).past h4_; have B_4 := (B_3).past h4_; have Z_4 := (Z_3).past h4_; have S_4 := pt (S_3) h4_; clear A_3 B_3 Z_3 S_3 Ac0 Ac1 Al Bc0 Bc1 Bl Zc0 Zc1 Zl; have Ac0 := A_4.cellAt 0 rfl; have Ac1 := A_4.cellAt 1 rfl; have Al := A_4.lt; have Bc0 := B_4.cellAt 0 rfl; have Bc1 := B_4.cellAt 1 rfl; have Bl := B_4.lt; have Zc0 := Z_4.cellAt 0 rfl; have Zc1 := Z_4.cellAt 1 rfl; have Zl := Z_4.lt)
    | (go_at_call 24; (with_reducible refine (HA.out _).mono ?_); rintro e w5_ ⟨rfl, h5_⟩; have A_5 := (A_4).past h5_; have B_5 := (B_4).past h5_; have Z_5 := (Z_4).past h5_; have S_5 := pt (S_4) h5_; clear A_4 B_4 Z_4 S_4 Ac0 Ac1 Al Bc0 Bc1 Bl Zc0 Zc1 Zl; have Ac0 := A_5.cellAt 0 rfl; have Ac1 := A_5.cellAt 1 rfl; have Al := A_5.lt; have Bc0 := B_5.cellAt 0 rfl; have Bc1 := B_5.cellAt 1 rfl; have Bl := B_5.lt; have Zc0 := Z_5.cellAt 0 rfl; have Zc1 := Z_5.cellAt 1 rfl; have Zl := Z_5.lt)
    | (go_at_call 24; (with_reducible refine (HB.out _).mono ?_); rintro e w6_ ⟨rfl, h6_⟩; have A_6 := (A_5).past h6_; have B_6 := (B_5).past h6_; have Z_6 := (Z_5).past h6_; have S_6 := pt (S_5) h6_; clear A_5 B_5 Z_5 S_5 Ac0 Ac1 Al Bc0 Bc1 Bl Zc0 Zc1 Zl; have Ac0 := A_6.cellAt 0 rfl; have Ac1 := A_6.cellAt 1 rfl; have Al := A_6.lt; have Bc0 := B_6.cellAt 0 rfl; have Bc1 := B_6.cellAt 1 rfl; have Bl := B_6.lt; have Zc0 := Z_6.cellAt 0 rfl; have Zc1 := Z_6.cellAt 1 rfl; have Zl := Z_6.lt))
  refine region_below 26 follows_mixed (by kernel_rfl) ?_
  intro C hC
  simp only [List.take_succ_cons, List.take_zero, List.drop_succ_cons, List.drop_zero]
  repeat (first
    | ((with_reducible refine quiet_plain rfl (fun K hK => ?_)); (focus (apply quiet_val; (focus (intro w' hw; obtain ⟨hcq, hfq⟩ := bcell ((hC.out _).1 hw); go_simp; (first | done | rfl))); (simp only [Act.put, List.setIfInBounds_toArray, List.set_cons_succ, List.set_cons_zero]); (with_reducible refine hK _ ?_); clear hK K)))
    | ((with_reducible refine quiet_skip ?_ ?_); (focus (first | (simp [Region.wanted, yielded]; done) | (simp [Region.wanted, yielded, undef]; done))); simp only [Act.put, List.setIfInBounds_toArray, List.set_cons_succ, List.set_cons_zero])
    | ((with_reducible refine quiet_go ?_ (fun K hK => ?_)); (focus (first | (simp [Region.wanted, yielded]; done) | (simp [Region.wanted, yielded, undef]; done))); (focus (apply quiet_val; (focus (intro w' hw; obtain ⟨hcq, hfq⟩ := bcell ((hC.out _).1 hw); go_simp; (first | done | rfl))); (simp only [Act.put, List.setIfInBounds_toArray, List.set_cons_succ, List.set_cons_zero]); (with_reducible refine hK _ ?_); clear hK K))))
  refine wpQuiet_nil ?_
  intro w1 hb1
  replace hb1 := (hC.out _).1 hb1
  clear hC C
  obtain ⟨hc1, hf1⟩ := bcell hb1
  have A_7 := (A_6).past hb1
  have B_7 := (B_6).past hb1
  have Z_7 := (Z_6).past hb1
  have S_7 := pt (S_6) hb1
  clear A_6 B_6 Z_6 S_6 Ac0 Ac1 Al Bc0 Bc1 Bl Zc0 Zc1 Zl
  have Ac0 := A_7.cellAt 0 rfl
  have Ac1 := A_7.cellAt 1 rfl
  have Al := A_7.lt
  have Bc0 := B_7.cellAt 0 rfl
  have Bc1 := B_7.cellAt 1 rfl
  have Bl := B_7.lt
  have Zc0 := Z_7.cellAt 0 rfl
  have Zc1 := Z_7.cellAt 1 rfl
  have Zl := Z_7.lt
  clear hb1 hc1 hf1
  obtain ⟨w7_, rfl⟩ : ∃ v, v = w1 := ⟨_, rfl⟩
  go_wp2_with (first
    | (go_at_call 26; (with_reducible refine (RH.out _).mono ?_); rintro e w8_ ⟨rfl, h8_⟩; have A_8 := (A_7).past h8_; have B_8 := (B_7).past h8_; have Z_8 := (Z_7).past h8_; have S_8 := pt (S_7) h8_; clear A_7 B_7 Z_7 S_7 Ac0 Ac1 Al Bc0 Bc1 Bl Zc0 Zc1 Zl; have Ac0 := A_8.cellAt 0 rfl; have Ac1 := A_8.cellAt 1 rfl; have Al := A_8.lt; have Bc0 := B_8.cellAt 0 rfl; have Bc1 := B_8.cellAt 1 rfl; have Bl := B_8.lt; have Zc0 := Z_8.cellAt 0 rfl; have Zc1 := Z_8.cellAt 1 rfl; have Zl := Z_8.lt)
    | (go_at_call 27; (with_reducible refine (RS.out _).mono ?_); rintro e w9_ ⟨rfl, h9_⟩; have A_9 := (A_8).past h9_; have B_9 := (B_8).past h9_; have Z_9 := (Z_8).past h9_; have S_9 := pt (S_8) h9_; clear A_8 B_8 Z_8 S_8 Ac0 Ac1 Al Bc0 Bc1 Bl Zc0 Zc1 Zl; have Ac0 := A_9.cellAt 0 rfl; have Ac1 := A_9.cellAt 1 rfl; have Al := A_9.lt; have Bc0 := B_9.cellAt 0 rfl; have Bc1 := B_9.cellAt 1 rfl; have Bl := B_9.lt; have Zc0 := Z_9.cellAt 0 rfl; have Zc1 := Z_9.cellAt 1 rfl; have Zl := Z_9.lt))
  go_ret
  exact ⟨rfl, by repeat (first | exact S_9 | refine pa ?_)⟩

set_option maxHeartbeats 16000000 in
set_option maxRecDepth 100000 in
theorem phasors_c0 (p q r s : Int) (e1 : phE p q = 0) (e2 : phE r s = 0) (c0 : 1000 < (p.natAbs : Int)) (w : World) (hT : TwIn w) (hP : PatIn w) :
    Calls Tryd.prog 5 #[.agg #[.int .i64 p, .int .i64 q], .agg #[.int .i64 r, .int .i64 s]] w fun e w' => e = .returned (.bool true) ∧ Below w.heap.size w w' := by
  have HT := Lib.hid (fun w' (h : Below w.heap.size w w') => hT.below h)
  have HP := Lib.hid (fun w' (h : Below w.heap.size w w') => hP.below h)
  clear hT hP

  have HS := Lib.hid (SquareOf_any p q)
  have HA := Lib.hid (refPhasorErr_any p q)
  have HB := Lib.hid (refPhasorErr_any r s)
  obtain ⟨sp, sq⟩ := phE_sm e1
  have HH := Lib.hid (HoursOf_any p q e1)
  have RH := Lib.hid (refHours_any p q sp sq)
  have RS := Lib.hid (refSquare_any p q sp sq)
  rw [e1, if_pos rfl] at HS
  rw [e1] at HA
  obtain ⟨sr, ss⟩ := phE_sm e2
  have HC := Lib.hid (Product_ok p q r s e1 e2)
  have RC := Lib.hid (refProduct_any p q r s sp sq sr ss)
  rw [e2] at HB
  have hz1 := size_any p (by unfold Sm at *; omega)
  have hz2 := size_any q (by unfold Sm at *; omega)
  have hz3 := size_any r (by unfold Sm at *; omega)
  have hz4 := size_any s (by unfold Sm at *; omega)
  clear sp sq sr ss
  generalize (p.natAbs : Int) = n1 at *
  generalize (q.natAbs : Int) = n2 at *
  generalize (r.natAbs : Int) = n3 at *
  generalize (s.natAbs : Int) = n4 at *
  have Z1 := Lib.hid hz1
  have Z2 := Lib.hid hz2
  have Z3 := Lib.hid hz3
  have Z4 := Lib.hid hz4
  clear hz1 hz2 hz3 hz4
  generalize mulP p q r s = x at *
  generalize mulQ p q r s = y at *
  generalize sqV p q = n at *
  generalize (hoursV p q).getD 0 = h at *
  generalize hoursE p q = E at *
  have t2 := phB_refl x y
  clear e1 e2
  go_enter Tryd.func5, Tryd.ntmps5
  go_wp2_with (first
    | (go_at_call 11; (with_reducible refine (awake_any _ (HT.out _ (pa (pa (pr)))) (HP.out _ (pa (pa (pr))))).mono ?_); rintro e w1_ ⟨rfl, h1_⟩; have A_1 : Blk w1_ (w.heap.size) 48 #[.int .i64 p, .int .i64 q] := (Blk.newAt (by simp)).alloc.past h1_; have B_1 : Blk w1_ (w.heap.size + 1) 48 #[.int .i64 r, .int .i64 s] := (Blk.newAt (by simp)).past h1_; have S_1 := pt (pa (pa (pr))) h1_; have Ac0 := A_1.cellAt 0 rfl; have Ac1 := A_1.cellAt 1 rfl; have Al := A_1.lt; have Bc0 := B_1.cellAt 0 rfl; have Bc1 := B_1.cellAt 1 rfl; have Bl := B_1.lt)
    | (go_at_call 21; (with_reducible refine (HC.out _).mono ?_); rintro e w2_ ⟨rfl, h2_⟩; have A_2 := (A_1).past h2_; have B_2 := (B_1).past h2_; have S_2 := pt (S_1) h2_; clear A_1 B_1 S_1 Ac0 Ac1 Al Bc0 Bc1 Bl; have Ac0 := A_2.cellAt 0 rfl; have Ac1 := A_2.cellAt 1 rfl; have Al := A_2.lt; have Bc0 := B_2.cellAt 0 rfl; have Bc1 := B_2.cellAt 1 rfl; have Bl := B_2.lt)
    | (go_at_call 22; (with_reducible refine (HS.out _).mono ?_); rintro e w3_ ⟨rfl, h3_⟩; have A_3 := (A_2.alloc).past h3_; have B_3 := (B_2.alloc).past h3_; have Z_3 : Blk w3_ (w2_.heap.size) 48 #[.int .i64 x, .int .i64 y] := (Blk.newAt (by simp)).past h3_; have S_3 := pt (pa (S_2)) h3_; clear A_2 B_2 S_2 Ac0 Ac1 Al Bc0 Bc1 Bl; have Ac0 := A_3.cellAt 0 rfl; have Ac1 := A_3.cellAt 1 rfl; have Al := A_3.lt; have Bc0 := B_3.cellAt 0 rfl; have Bc1 := B_3.cellAt 1 rfl; have Bl := B_3.lt; have Zc0 := Z_3.cellAt 0 rfl; have Zc1 := Z_3.cellAt 1 rfl; have Zl := Z_3.lt)
    | (go_at_call 23; (with_reducible refine (HH.out _ (HT.out _ (S_3))).mono ?_); rintro e w4_ ⟨rfl, h4_⟩; have A_4 := (A_3).past h4_; have B_4 := (B_3).past h4_; have Z_4 := (Z_3).past h4_; have S_4 := pt (S_3) h4_; clear A_3 B_3 Z_3 S_3 Ac0 Ac1 Al Bc0 Bc1 Bl Zc0 Zc1 Zl; have Ac0 := A_4.cellAt 0 rfl; have Ac1 := A_4.cellAt 1 rfl; have Al := A_4.lt; have Bc0 := B_4.cellAt 0 rfl; have Bc1 := B_4.cellAt 1 rfl; have Bl := B_4.lt; have Zc0 := Z_4.cellAt 0 rfl; have Zc1 := Z_4.cellAt 1 rfl; have Zl := Z_4.lt)
    | (go_at_call 24; (with_reducible refine (HA.out _).mono ?_); rintro e w5_ ⟨rfl, h5_⟩; have A_5 := (A_4).past h5_; have B_5 := (B_4).past h5_; have Z_5 := (Z_4).past h5_; have S_5 := pt (S_4) h5_; clear A_4 B_4 Z_4 S_4 Ac0 Ac1 Al Bc0 Bc1 Bl Zc0 Zc1 Zl; have Ac0 := A_5.cellAt 0 rfl; have Ac1 := A_5.cellAt 1 rfl; have Al := A_5.lt; have Bc0 := B_5.cellAt 0 rfl; have Bc1 := B_5.cellAt 1 rfl; have Bl := B_5.lt; have Zc0 := Z_5.cellAt 0 rfl; have Zc1 := Z_5.cellAt 1 rfl; have Zl := Z_5.lt)
    | (go_at_call 24; (with_reducible refine (HB.out _).mono ?_); rintro e w6_ ⟨rfl, h6_⟩; have A_6 := (A_5).past h6_; have B_6 := (B_5).past h6_; have Z_6 := (Z_5).past h6_; have S_6 := pt (S_5) h6_; clear A_5 B_5 Z_5 S_5 Ac0 Ac1 Al Bc0 Bc1 Bl Zc0 Zc1 Zl; have Ac0 := A_6.cellAt 0 rfl; have Ac1 := A_6.cellAt 1 rfl; have Al := A_6.lt; have Bc0 := B_6.cellAt 0 rfl; have Bc1 := B_6.cellAt 1 rfl; have Bl := B_6.lt; have Zc0 := Z_6.cellAt 0 rfl; have Zc1 := Z_6.cellAt 1 rfl; have Zl := Z_6.lt))
  refine region_below 26 follows_mixed (by kernel_rfl) ?_
  intro C hC
  simp only [List.take_succ_cons, List.take_zero, List.drop_succ_cons, List.drop_zero]
  repeat (first
    | ((with_reducible refine quiet_plain rfl (fun K hK => ?_)); (focus (apply quiet_val; (focus (intro w' hw; obtain ⟨hcq, hfq⟩ := bcell ((hC.out _).1 hw); go_simp; (first | done | rfl | (with_reducible exact call_below hC hw (RC.out _))))); (simp only [Act.put, List.setIfInBounds_toArray, List.set_cons_succ, List.set_cons_zero]); (with_reducible refine hK _ ?_); clear hK K)))
    | ((with_reducible refine quiet_skip ?_ ?_); (focus (first | (simp [Region.wanted, yielded]; done) | (simp [Region.wanted, yielded, undef]; done))); simp only [Act.put, List.setIfInBounds_toArray, List.set_cons_succ, List.set_cons_zero])
    | ((with_reducible refine quiet_go ?_ (fun K hK => ?_)); (focus (first | (simp [Region.wanted, yielded]; done) | (simp [Region.wanted, yielded, undef]; done))); (focus (apply quiet_val; (focus (intro w' hw; obtain ⟨hcq, hfq⟩ := bcell ((hC.out _).1 hw); go_simp; (first | done | rfl | (with_reducible exact call_below hC hw (RC.out _))))); (simp only [Act.put, List.setIfInBounds_toArray, List.set_cons_succ, List.set_cons_zero]); (with_reducible refine hK _ ?_); clear hK K))))
  refine wpQuiet_nil ?_
  intro w1 hb1
  replace hb1 := (hC.out _).1 hb1
  clear hC C
  obtain ⟨hc1, hf1⟩ := bcell hb1
  have A_7 := (A_6).past hb1
  have B_7 := (B_6).past hb1
  have Z_7 := (Z_6).past hb1
  have S_7 := pt (S_6) hb1
  clear A_6 B_6 Z_6 S_6 Ac0 Ac1 Al Bc0 Bc1 Bl Zc0 Zc1 Zl
  have Ac0 := A_7.cellAt 0 rfl
  have Ac1 := A_7.cellAt 1 rfl
  have Al := A_7.lt
  have Bc0 := B_7.cellAt 0 rfl
  have Bc1 := B_7.cellAt 1 rfl
  have Bl := B_7.lt
  have Zc0 := Z_7.cellAt 0 rfl
  have Zc1 := Z_7.cellAt 1 rfl
  have Zl := Z_7.lt
  clear hb1 hc1 hf1
  obtain ⟨w7_, rfl⟩ : ∃ v, v = w1 := ⟨_, rfl⟩
  go_wp2_with (first
    | (go_at_call 26; (with_reducible refine (RH.out _).mono ?_); rintro e w8_ ⟨rfl, h8_⟩; have A_8 := (A_7).past h8_; have B_8 := (B_7).past h8_; have Z_8 := (Z_7).past h8_; have S_8 := pt (S_7) h8_; clear A_7 B_7 Z_7 S_7 Ac0 Ac1 Al Bc0 Bc1 Bl Zc0 Zc1 Zl; have Ac0 := A_8.cellAt 0 rfl; have Ac1 := A_8.cellAt 1 rfl; have Al := A_8.lt; have Bc0 := B_8.cellAt 0 rfl; have Bc1 := B_8.cellAt 1 rfl; have Bl := B_8.lt; have Zc0 := Z_8.cellAt 0 rfl; have Zc1 := Z_8.cellAt 1 rfl; have Zl := Z_8.lt)
    | (go_at_call 27; (with_reducible refine (RS.out _).mono ?_); rintro e w9_ ⟨rfl, h9_⟩; have A_9 := (A_8).past h9_; have B_9 := (B_8).past h9_; have Z_9 := (Z_8).past h9_; have S_9 := pt (S_8) h9_; clear A_8 B_8 Z_8 S_8 Ac0 Ac1 Al Bc0 Bc1 Bl Zc0 Zc1 Zl; have Ac0 := A_9.cellAt 0 rfl; have Ac1 := A_9.cellAt 1 rfl; have Al := A_9.lt; have Bc0 := B_9.cellAt 0 rfl; have Bc1 := B_9.cellAt 1 rfl; have Bl := B_9.lt; have Zc0 := Z_9.cellAt 0 rfl; have Zc1 := Z_9.cellAt 1 rfl; have Zl := Z_9.lt)
    | (go_at_call 28; (with_reducible refine (Z1.out _).mono ?_); rintro e w' ⟨rfl, rfl⟩)
    | (go_at_call 28; (with_reducible refine (Z2.out _).mono ?_); rintro e w' ⟨rfl, rfl⟩)
    | (go_at_call 28; (with_reducible refine (Z3.out _).mono ?_); rintro e w' ⟨rfl, rfl⟩)
    | (go_at_call 28; (with_reducible refine (Z4.out _).mono ?_); rintro e w' ⟨rfl, rfl⟩))
  go_ret
  exact ⟨rfl, by repeat (first | exact S_9 | refine pa ?_)⟩

set_option maxHeartbeats 16000000 in
set_option maxRecDepth 100000 in
theorem phasors_c1 (p q r s : Int) (e1 : phE p q = 0) (e2 : phE r s = 0) (c0 : ¬ 1000 < (p.natAbs : Int)) (c1 : 1000 < (q.natAbs : Int)) (w : World) (hT : TwIn w) (hP : PatIn w) :
    Calls Tryd.prog 5 #[.agg #[.int .i64 p, .int .i64 q], .agg #[.int .i64 r, .int .i64 s]] w fun e w' => e = .returned (.bool true) ∧ Below w.heap.size w w' := by
  have HT := Lib.hid (fun w' (h : Below w.heap.size w w') => hT.below h)
  have HP := Lib.hid (fun w' (h : Below w.heap.size w w') => hP.below h)
  clear hT hP

  have HS := Lib.hid (SquareOf_any p q)
  have HA := Lib.hid (refPhasorErr_any p q)
  have HB := Lib.hid (refPhasorErr_any r s)
  obtain ⟨sp, sq⟩ := phE_sm e1
  have HH := Lib.hid (HoursOf_any p q e1)
  have RH := Lib.hid (refHours_any p q sp sq)
  have RS := Lib.hid (refSquare_any p q sp sq)
  rw [e1, if_pos rfl] at HS
  rw [e1] at HA
  obtain ⟨sr, ss⟩ := phE_sm e2
  have HC := Lib.hid (Product_ok p q r s e1 e2)
  have RC := Lib.hid (refProduct_any p q r s sp sq sr ss)
  rw [e2] at HB
  have hz1 := size_any p (by unfold Sm at *; omega)
  have hz2 := size_any q (by unfold Sm at *; omega)
  have hz3 := size_any r (by unfold Sm at *; omega)
  have hz4 := size_any s (by unfold Sm at *; omega)
  clear sp sq sr ss
  generalize (p.natAbs : Int) = n1 at *
  generalize (q.natAbs : Int) = n2 at *
  generalize (r.natAbs : Int) = n3 at *
  generalize (s.natAbs : Int) = n4 at *
  have Z1 := Lib.hid hz1
  have Z2 := Lib.hid hz2
  have Z3 := Lib.hid hz3
  have Z4 := Lib.hid hz4
  clear hz1 hz2 hz3 hz4
  generalize mulP p q r s = x at *
  generalize mulQ p q r s = y at *
  generalize sqV p q = n at *
  generalize (hoursV p q).getD 0 = h at *
  generalize hoursE p q = E at *
  have t2 := phB_refl x y
  clear e1 e2
  go_enter Tryd.func5, Tryd.ntmps5
  go_wp2_with (first
    | (go_at_call 11; (with_reducible refine (awake_any _ (HT.out _ (pa (pa (pr)))) (HP.out _ (pa (pa (pr))))).mono ?_); rintro e w1_ ⟨rfl, h1_⟩; have A_1 : Blk w1_ (w.heap.size) 48 #[.int .i64 p, .int .i64 q] := (Blk.newAt (by simp)).alloc.past h1_; have B_1 : Blk w1_ (w.heap.size + 1) 48 #[.int .i64 r, .int .i64 s] := (Blk.newAt (by simp)).past h1_; have S_1 := pt (pa (pa (pr))) h1_; have Ac0 := A_1.cellAt 0 rfl; have Ac1 := A_1.cellAt 1 rfl; have Al := A_1.lt; have Bc0 := B_1.cellAt 0 rfl; have Bc1 := B_1.cellAt 1 rfl; have Bl := B_1.lt)
    | (go_at_call 21; (with_reducible refine (HC.out _).mono ?_); rintro e w2_ ⟨rfl, h2_⟩; have A_2 := (A_1).past h2_; have B_2 := (B_1).past h2_; have S_2 := pt (S_1) h2_; clear A_1 B_1 S_1 Ac0 Ac1 Al Bc0 Bc1 Bl; have Ac0 := A_2.cellAt 0 rfl; have Ac1 := A_2.cellAt 1 rfl; have Al := A_2.lt; have Bc0 := B_2.cellAt 0 rfl; have Bc1 := B_2.cellAt 1 rfl; have Bl := B_2.lt)
    | (go_at_call 22; (with_reducible refine (HS.out _).mono ?_); rintro e w3_ ⟨rfl, h3_⟩; have A_3 := (A_2.alloc).past h3_; have B_3 := (B_2.alloc).past h3_; have Z_3 : Blk w3_ (w2_.heap.size) 48 #[.int .i64 x, .int .i64 y] := (Blk.newAt (by simp)).past h3_; have S_3 := pt (pa (S_2)) h3_; clear A_2 B_2 S_2 Ac0 Ac1 Al Bc0 Bc1 Bl; have Ac0 := A_3.cellAt 0 rfl; have Ac1 := A_3.cellAt 1 rfl; have Al := A_3.lt; have Bc0 := B_3.cellAt 0 rfl; have Bc1 := B_3.cellAt 1 rfl; have Bl := B_3.lt; have Zc0 := Z_3.cellAt 0 rfl; have Zc1 := Z_3.cellAt 1 rfl; have Zl := Z_3.lt)
    | (go_at_call 23; (with_reducible refine (HH.out _ (HT.out _ (S_3))).mono ?_); rintro e w4_ ⟨rfl, h4_⟩; have A_4 := (A_3).past h4_; have B_4 := (B_3).past h4_; have Z_4 := (Z_3).past h4_; have S_4 := pt (S_3) h4_; clear A_3 B_3 Z_3 S_3 Ac0 Ac1 Al Bc0 Bc1 Bl Zc0 Zc1 Zl; have Ac0 := A_4.cellAt 0 rfl; have Ac1 := A_4.cellAt 1 rfl; have Al := A_4.lt; have Bc0 := B_4.cellAt 0 rfl; have Bc1 := B_4.cellAt 1 rfl; have Bl := B_4.lt; have Zc0 := Z_4.cellAt 0 rfl; have Zc1 := Z_4.cellAt 1 rfl; have Zl := Z_4.lt)
    | (go_at_call 24; (with_reducible refine (HA.out _).mono ?_); rintro e w5_ ⟨rfl, h5_⟩; have A_5 := (A_4).past h5_; have B_5 := (B_4).past h5_; have Z_5 := (Z_4).past h5_; have S_5 := pt (S_4) h5_; clear A_4 B_4 Z_4 S_4 Ac0 Ac1 Al Bc0 Bc1 Bl Zc0 Zc1 Zl; have Ac0 := A_5.cellAt 0 rfl; have Ac1 := A_5.cellAt 1 rfl; have Al := A_5.lt; have Bc0 := B_5.cellAt 0 rfl; have Bc1 := B_5.cellAt 1 rfl; have Bl := B_5.lt; have Zc0 := Z_5.cellAt 0 rfl; have Zc1 := Z_5.cellAt 1 rfl; have Zl := Z_5.lt)
    | (go_at_call 24; (with_reducible refine (HB.out _).mono ?_); rintro e w6_ ⟨rfl, h6_⟩; have A_6 := (A_5).past h6_; have B_6 := (B_5).past h6_; have Z_6 := (Z_5).past h6_; have S_6 := pt (S_5) h6_; clear A_5 B_5 Z_5 S_5 Ac0 Ac1 Al Bc0 Bc1 Bl Zc0 Zc1 Zl; have Ac0 := A_6.cellAt 0 rfl; have Ac1 := A_6.cellAt 1 rfl; have Al := A_6.lt; have Bc0 := B_6.cellAt 0 rfl; have Bc1 := B_6.cellAt 1 rfl; have Bl := B_6.lt; have Zc0 := Z_6.cellAt 0 rfl; have Zc1 := Z_6.cellAt 1 rfl; have Zl := Z_6.lt))
  refine region_below 26 follows_mixed (by kernel_rfl) ?_
  intro C hC
  simp only [List.take_succ_cons, List.take_zero, List.drop_succ_cons, List.drop_zero]
  repeat (first
    | ((with_reducible refine quiet_plain rfl (fun K hK => ?_)); (focus (apply quiet_val; (focus (intro w' hw; obtain ⟨hcq, hfq⟩ := bcell ((hC.out _).1 hw); go_simp; (first | done | rfl | (with_reducible exact call_below hC hw (RC.out _))))); (simp only [Act.put, List.setIfInBounds_toArray, List.set_cons_succ, List.set_cons_zero]); (with_reducible refine hK _ ?_); clear hK K)))
    | ((with_reducible refine quiet_skip ?_ ?_); (focus (first | (simp [Region.wanted, yielded]; done) | (simp [Region.wanted, yielded, undef]; done))); simp only [Act.put, List.setIfInBounds_toArray, List.set_cons_succ, List.set_cons_zero])
    | ((with_reducible refine quiet_go ?_ (fun K hK => ?_)); (focus (first | (simp [Region.wanted, yielded]; done) | (simp [Region.wanted, yielded, undef]; done))); (focus (apply quiet_val; (focus (intro w' hw; obtain ⟨hcq, hfq⟩ := bcell ((hC.out _).1 hw); go_simp; (first | done | rfl | (with_reducible exact call_below hC hw (RC.out _))))); (simp only [Act.put, List.setIfInBounds_toArray, List.set_cons_succ, List.set_cons_zero]); (with_reducible refine hK _ ?_); clear hK K))))
  refine wpQuiet_nil ?_
  intro w1 hb1
  replace hb1 := (hC.out _).1 hb1
  clear hC C
  obtain ⟨hc1, hf1⟩ := bcell hb1
  have A_7 := (A_6).past hb1
  have B_7 := (B_6).past hb1
  have Z_7 := (Z_6).past hb1
  have S_7 := pt (S_6) hb1
  clear A_6 B_6 Z_6 S_6 Ac0 Ac1 Al Bc0 Bc1 Bl Zc0 Zc1 Zl
  have Ac0 := A_7.cellAt 0 rfl
  have Ac1 := A_7.cellAt 1 rfl
  have Al := A_7.lt
  have Bc0 := B_7.cellAt 0 rfl
  have Bc1 := B_7.cellAt 1 rfl
  have Bl := B_7.lt
  have Zc0 := Z_7.cellAt 0 rfl
  have Zc1 := Z_7.cellAt 1 rfl
  have Zl := Z_7.lt
  clear hb1 hc1 hf1
  obtain ⟨w7_, rfl⟩ : ∃ v, v = w1 := ⟨_, rfl⟩
  go_wp2_with (first
    | (go_at_call 26; (with_reducible refine (RH.out _).mono ?_); rintro e w8_ ⟨rfl, h8_⟩; have A_8 := (A_7).past h8_; have B_8 := (B_7).past h8_; have Z_8 := (Z_7).past h8_; have S_8 := pt (S_7) h8_; clear A_7 B_7 Z_7 S_7 Ac0 Ac1 Al Bc0 Bc1 Bl Zc0 Zc1 Zl; have Ac0 := A_8.cellAt 0 rfl; have Ac1 := A_8.cellAt 1 rfl; have Al := A_8.lt; have Bc0 := B_8.cellAt 0 rfl; have Bc1 := B_8.cellAt 1 rfl; have Bl := B_8.lt; have Zc0 := Z_8.cellAt 0 rfl; have Zc1 := Z_8.cellAt 1 rfl; have Zl := Z_8.lt)
    | (go_at_call 27; (with_reducible refine (RS.out _).mono ?_); rintro e w9_ ⟨rfl, h9_⟩; have A_9 := (A_8).past h9_; have B_9 := (B_8).past h9_; have Z_9 := (Z_8).past h9_; have S_9 := pt (S_8) h9_; clear A_8 B_8 Z_8 S_8 Ac0 Ac1 Al Bc0 Bc1 Bl Zc0 Zc1 Zl; have Ac0 := A_9.cellAt 0 rfl; have Ac1 := A_9.cellAt 1 rfl; have Al := A_9.lt; have Bc0 := B_9.cellAt 0 rfl; have Bc1 := B_9.cellAt 1 rfl; have Bl := B_9.lt; have Zc0 := Z_9.cellAt 0 rfl; have Zc1 := Z_9.cellAt 1 rfl; have Zl := Z_9.lt)
    | (go_at_call 28; (with_reducible refine (Z1.out _).mono ?_); rintro e w' ⟨rfl, rfl⟩)
    | (go_at_call 28; (with_reducible refine (Z2.out _).mono ?_); rintro e w' ⟨rfl, rfl⟩)
    | (go_at_call 28; (with_reducible refine (Z3.out _).mono ?_); rintro e w' ⟨rfl, rfl⟩)
    | (go_at_call 28; (with_reducible refine (Z4.out _).mono ?_); rintro e w' ⟨rfl, rfl⟩))
  go_ret
  exact ⟨rfl, by repeat (first | exact S_9 | refine pa ?_)⟩

set_option maxHeartbeats 16000000 in
set_option maxRecDepth 100000 in
theorem phasors_c2 (p q r s : Int) (e1 : phE p q = 0) (e2 : phE r s = 0) (c0 : ¬ 1000 < (p.natAbs : Int)) (c1 : ¬ 1000 < (q.natAbs : Int)) (c2 : 300 < (r.natAbs : Int)) (w : World) (hT : TwIn w) (hP : PatIn w) :
    Calls Tryd.prog 5 #[.agg #[.int .i64 p, .int .i64 q], .agg #[.int .i64 r, .int .i64 s]] w fun e w' => e = .returned (.bool true) ∧ Below w.heap.size w w' := by
  have HT := Lib.hid (fun w' (h : Below w.heap.size w w') => hT.below h)
  have HP := Lib.hid (fun w' (h : Below w.heap.size w w') => hP.below h)
  clear hT hP

  have HS := Lib.hid (SquareOf_any p q)
  have HA := Lib.hid (refPhasorErr_any p q)
  have HB := Lib.hid (refPhasorErr_any r s)
  obtain ⟨sp, sq⟩ := phE_sm e1
  have HH := Lib.hid (HoursOf_any p q e1)
  have RH := Lib.hid (refHours_any p q sp sq)
  have RS := Lib.hid (refSquare_any p q sp sq)
  rw [e1, if_pos rfl] at HS
  rw [e1] at HA
  obtain ⟨sr, ss⟩ := phE_sm e2
  have HC := Lib.hid (Product_ok p q r s e1 e2)
  have RC := Lib.hid (refProduct_any p q r s sp sq sr ss)
  rw [e2] at HB
  have hz1 := size_any p (by unfold Sm at *; omega)
  have hz2 := size_any q (by unfold Sm at *; omega)
  have hz3 := size_any r (by unfold Sm at *; omega)
  have hz4 := size_any s (by unfold Sm at *; omega)
  clear sp sq sr ss
  generalize (p.natAbs : Int) = n1 at *
  generalize (q.natAbs : Int) = n2 at *
  generalize (r.natAbs : Int) = n3 at *
  generalize (s.natAbs : Int) = n4 at *
  have Z1 := Lib.hid hz1
  have Z2 := Lib.hid hz2
  have Z3 := Lib.hid hz3
  have Z4 := Lib.hid hz4
  clear hz1 hz2 hz3 hz4
  generalize mulP p q r s = x at *
  generalize mulQ p q r s = y at *
  generalize sqV p q = n at *
  generalize (hoursV p q).getD 0 = h at *
  generalize hoursE p q = E at *
  have t2 := phB_refl x y
  clear e1 e2
  go_enter Tryd.func5, Tryd.ntmps5
  go_wp2_with (first
    | (go_at_call 11; (with_reducible refine (awake_any _ (HT.out _ (pa (pa (pr)))) (HP.out _ (pa (pa (pr))))).mono ?_); rintro e w1_ ⟨rfl, h1_⟩; have A_1 : Blk w1_ (w.heap.size) 48 #[.int .i64 p, .int .i64 q] := (Blk.newAt (by simp)).alloc.past h1_; have B_1 : Blk w1_ (w.heap.size + 1) 48 #[.int .i64 r, .int .i64 s] := (Blk.newAt (by simp)).past h1_; have S_1 := pt (pa (pa (pr))) h1_; have Ac0 := A_1.cellAt 0 rfl; have Ac1 := A_1.cellAt 1 rfl; have Al := A_1.lt; have Bc0 := B_1.cellAt 0 rfl; have Bc1 := B_1.cellAt 1 rfl; have Bl := B_1.lt)
    | (go_at_call 21; (with_reducible refine (HC.out _).mono ?_); rintro e w2_ ⟨rfl, h2_⟩; have A_2 := (A_1).past h2_; have B_2 := (B_1).past h2_; have S_2 := pt (S_1) h2_; clear A_1 B_1 S_1 Ac0 Ac1 Al Bc0 Bc1 Bl; have Ac0 := A_2.cellAt 0 rfl; have Ac1 := A_2.cellAt 1 rfl; have Al := A_2.lt; have Bc0 := B_2.cellAt 0 rfl; have Bc1 := B_2.cellAt 1 rfl; have Bl := B_2.lt)
    | (go_at_call 22; (with_reducible refine (HS.out _).mono ?_); rintro e w3_ ⟨rfl, h3_⟩; have A_3 := (A_2.alloc).past h3_; have B_3 := (B_2.alloc).past h3_; have Z_3 : Blk w3_ (w2_.heap.size) 48 #[.int .i64 x, .int .i64 y] := (Blk.newAt (by simp)).past h3_; have S_3 := pt (pa (S_2)) h3_; clear A_2 B_2 S_2 Ac0 Ac1 Al Bc0 Bc1 Bl; have Ac0 := A_3.cellAt 0 rfl; have Ac1 := A_3.cellAt 1 rfl; have Al := A_3.lt; have Bc0 := B_3.cellAt 0 rfl; have Bc1 := B_3.cellAt 1 rfl; have Bl := B_3.lt; have Zc0 := Z_3.cellAt 0 rfl; have Zc1 := Z_3.cellAt 1 rfl; have Zl := Z_3.lt)
    | (go_at_call 23; (with_reducible refine (HH.out _ (HT.out _ (S_3))).mono ?_); rintro e w4_ ⟨rfl, h4_⟩; have A_4 := (A_3).past h4_; have B_4 := (B_3).past h4_; have Z_4 := (Z_3).past h4_; have S_4 := pt (S_3) h4_; clear A_3 B_3 Z_3 S_3 Ac0 Ac1 Al Bc0 Bc1 Bl Zc0 Zc1 Zl; have Ac0 := A_4.cellAt 0 rfl; have Ac1 := A_4.cellAt 1 rfl; have Al := A_4.lt; have Bc0 := B_4.cellAt 0 rfl; have Bc1 := B_4.cellAt 1 rfl; have Bl := B_4.lt; have Zc0 := Z_4.cellAt 0 rfl; have Zc1 := Z_4.cellAt 1 rfl; have Zl := Z_4.lt)
    | (go_at_call 24; (with_reducible refine (HA.out _).mono ?_); rintro e w5_ ⟨rfl, h5_⟩; have A_5 := (A_4).past h5_; have B_5 := (B_4).past h5_; have Z_5 := (Z_4).past h5_; have S_5 := pt (S_4) h5_; clear A_4 B_4 Z_4 S_4 Ac0 Ac1 Al Bc0 Bc1 Bl Zc0 Zc1 Zl; have Ac0 := A_5.cellAt 0 rfl; have Ac1 := A_5.cellAt 1 rfl; have Al := A_5.lt; have Bc0 := B_5.cellAt 0 rfl; have Bc1 := B_5.cellAt 1 rfl; have Bl := B_5.lt; have Zc0 := Z_5.cellAt 0 rfl; have Zc1 := Z_5.cellAt 1 rfl; have Zl := Z_5.lt)
    | (go_at_call 24; (with_reducible refine (HB.out _).mono ?_); rintro e w6_ ⟨rfl, h6_⟩; have A_6 := (A_5).past h6_; have B_6 := (B_5).past h6_; have Z_6 := (Z_5).past h6_; have S_6 := pt (S_5) h6_; clear A_5 B_5 Z_5 S_5 Ac0 Ac1 Al Bc0 Bc1 Bl Zc0 Zc1 Zl; have Ac0 := A_6.cellAt 0 rfl; have Ac1 := A_6.cellAt 1 rfl; have Al := A_6.lt; have Bc0 := B_6.cellAt 0 rfl; have Bc1 := B_6.cellAt 1 rfl; have Bl := B_6.lt; have Zc0 := Z_6.cellAt 0 rfl; have Zc1 := Z_6.cellAt 1 rfl; have Zl := Z_6.lt))
  refine region_below 26 follows_mixed (by kernel_rfl) ?_
  intro C hC
  simp only [List.take_succ_cons, List.take_zero, List.drop_succ_cons, List.drop_zero]
  repeat (first
    | ((with_reducible refine quiet_plain rfl (fun K hK => ?_)); (focus (apply quiet_val; (focus (intro w' hw; obtain ⟨hcq, hfq⟩ := bcell ((hC.out _).1 hw); go_simp; (first | done | rfl | (with_reducible exact call_below hC hw (RC.out _))))); (simp only [Act.put, List.setIfInBounds_toArray, List.set_cons_succ, List.set_cons_zero]); (with_reducible refine hK _ ?_); clear hK K)))
    | ((with_reducible refine quiet_skip ?_ ?_); (focus (first | (simp [Region.wanted, yielded]; done) | (simp [Region.wanted, yielded, undef]; done))); simp only [Act.put, List.setIfInBounds_toArray, List.set_cons_succ, List.set_cons_zero])
    | ((with_reducible refine quiet_go ?_ (fun K hK => ?_)); (focus (first | (simp [Region.wanted, yielded]; done) | (simp [Region.wanted, yielded, undef]; done))); (focus (apply quiet_val; (focus (intro w' hw; obtain ⟨hcq, hfq⟩ := bcell ((hC.out _).1 hw); go_simp; (first | done | rfl | (with_reducible exact call_below hC hw (RC.out _))))); (simp only [Act.put, List.setIfInBounds_toArray, List.set_cons_succ, List.set_cons_zero]); (with_reducible refine hK _ ?_); clear hK K))))
  refine wpQuiet_nil ?_
  intro w1 hb1
  replace hb1 := (hC.out _).1 hb1
  clear hC C
  obtain ⟨hc1, hf1⟩ := bcell hb1
  have A_7 := (A_6).past hb1
  have B_7 := (B_6).past hb1
  have Z_7 := (Z_6).past hb1
  have S_7 := pt (S_6) hb1
  clear A_6 B_6 Z_6 S_6 Ac0 Ac1 Al Bc0 Bc1 Bl Zc0 Zc1 Zl
  have Ac0 := A_7.cellAt 0 rfl
  have Ac1 := A_7.cellAt 1 rfl
  have Al := A_7.lt
  have Bc0 := B_7.cellAt 0 rfl
  have Bc1 := B_7.cellAt 1 rfl
  have Bl := B_7.lt
  have Zc0 := Z_7.cellAt 0 rfl
  have Zc1 := Z_7.cellAt 1 rfl
  have Zl := Z_7.lt
  clear hb1 hc1 hf1
  obtain ⟨w7_, rfl⟩ : ∃ v, v = w1 := ⟨_, rfl⟩
  go_wp2_with (first
    | (go_at_call 26; (with_reducible refine (RH.out _).mono ?_); rintro e w8_ ⟨rfl, h8_⟩; have A_8 := (A_7).past h8_; have B_8 := (B_7).past h8_; have Z_8 := (Z_7).past h8_; have S_8 := pt (S_7) h8_; clear A_7 B_7 Z_7 S_7 Ac0 Ac1 Al Bc0 Bc1 Bl Zc0 Zc1 Zl; have Ac0 := A_8.cellAt 0 rfl; have Ac1 := A_8.cellAt 1 rfl; have Al := A_8.lt; have Bc0 := B_8.cellAt 0 rfl; have Bc1 := B_8.cellAt 1 rfl; have Bl := B_8.lt; have Zc0 := Z_8.cellAt 0 rfl; have Zc1 := Z_8.cellAt 1 rfl; have Zl := Z_8.lt)
    | (go_at_call 27; (with_reducible refine (RS.out _).mono ?_); rintro e w9_ ⟨rfl, h9_⟩; have A_9 := (A_8).past h9_; have B_9 := (B_8).past h9_; have Z_9 := (Z_8).past h9_; have S_9 := pt (S_8) h9_; clear A_8 B_8 Z_8 S_8 Ac0 Ac1 Al Bc0 Bc1 Bl Zc0 Zc1 Zl; have Ac0 := A_9.cellAt 0 rfl; have Ac1 := A_9.cellAt 1 rfl; have Al := A_9.lt; have Bc0 := B_9.cellAt 0 rfl; have Bc1 := B_9.cellAt 1 rfl; have Bl := B_9.lt; have Zc0 := Z_9.cellAt 0 rfl; have Zc1 := Z_9.cellAt 1 rfl; have Zl := Z_9.lt)
    | (go_at_call 28; (with_reducible refine (Z1.out _).mono ?_); rintro e w' ⟨rfl, rfl⟩)
    | (go_at_call 28; (with_reducible refine (Z2.out _).mono ?_); rintro e w' ⟨rfl, rfl⟩)
    | (go_at_call 28; (with_reducible refine (Z3.out _).mono ?_); rintro e w' ⟨rfl, rfl⟩)
    | (go_at_call 28; (with_reducible refine (Z4.out _).mono ?_); rintro e w' ⟨rfl, rfl⟩))
  go_ret
  exact ⟨rfl, by repeat (first | exact S_9 | refine pa ?_)⟩

set_option maxHeartbeats 16000000 in
set_option maxRecDepth 100000 in
theorem phasors_c3 (p q r s : Int) (e1 : phE p q = 0) (e2 : phE r s = 0) (c0 : ¬ 1000 < (p.natAbs : Int)) (c1 : ¬ 1000 < (q.natAbs : Int)) (c2 : ¬ 300 < (r.natAbs : Int)) (c3 : 300 < (s.natAbs : Int)) (w : World) (hT : TwIn w) (hP : PatIn w) :
    Calls Tryd.prog 5 #[.agg #[.int .i64 p, .int .i64 q], .agg #[.int .i64 r, .int .i64 s]] w fun e w' => e = .returned (.bool true) ∧ Below w.heap.size w w' := by
  have HT := Lib.hid (fun w' (h : Below w.heap.size w w') => hT.below h)
  have HP := Lib.hid (fun w' (h : Below w.heap.size w w') => hP.below h)
  clear hT hP

  have HS := Lib.hid (SquareOf_any p q)
  have HA := Lib.hid (refPhasorErr_any p q)
  have HB := Lib.hid (refPhasorErr_any r s)
  obtain ⟨sp, sq⟩ := phE_sm e1
  have HH := Lib.hid (HoursOf_any p q e1)
  have RH := Lib.hid (refHours_any p q sp sq)
  have RS := Lib.hid (refSquare_any p q sp sq)
  rw [e1, if_pos rfl] at HS
  rw [e1] at HA
  obtain ⟨sr, ss⟩ := phE_sm e2
  have HC := Lib.hid (Product_ok p q r s e1 e2)
  have RC := Lib.hid (refProduct_any p q r s sp sq sr ss)
  rw [e2] at HB
  have hz1 := size_any p (by unfold Sm at *; omega)
  have hz2 := size_any q (by unfold Sm at *; omega)
  have hz3 := size_any r (by unfold Sm at *; omega)
  have hz4 := size_any s (by unfold Sm at *; omega)
  clear sp sq sr ss
  generalize (p.natAbs : Int) = n1 at *
  generalize (q.natAbs : Int) = n2 at *
  generalize (r.natAbs : Int) = n3 at *
  generalize (s.natAbs : Int) = n4 at *
  have Z1 := Lib.hid hz1
  have Z2 := Lib.hid hz2
  have Z3 := Lib.hid hz3
  have Z4 := Lib.hid hz4
  clear hz1 hz2 hz3 hz4
  generalize mulP p q r s = x at *
  generalize mulQ p q r s = y at *
  generalize sqV p q = n at *
  generalize (hoursV p q).getD 0 = h at *
  generalize hoursE p q = E at *
  have t2 := phB_refl x y
  clear e1 e2
  go_enter Tryd.func5, Tryd.ntmps5
  go_wp2_with (first
    | (go_at_call 11; (with_reducible refine (awake_any _ (HT.out _ (pa (pa (pr)))) (HP.out _ (pa (pa (pr))))).mono ?_); rintro e w1_ ⟨rfl, h1_⟩; have A_1 : Blk w1_ (w.heap.size) 48 #[.int .i64 p, .int .i64 q] := (Blk.newAt (by simp)).alloc.past h1_; have B_1 : Blk w1_ (w.heap.size + 1) 48 #[.int .i64 r, .int .i64 s] := (Blk.newAt (by simp)).past h1_; have S_1 := pt (pa (pa (pr))) h1_; have Ac0 := A_1.cellAt 0 rfl; have Ac1 := A_1.cellAt 1 rfl; have Al := A_1.lt; have Bc0 := B_1.cellAt 0 rfl; have Bc1 := B_1.cellAt 1 rfl; have Bl := B_1.lt)
    | (go_at_call 21; (with_reducible refine (HC.out _).mono ?_); rintro e w2_ ⟨rfl, h2_⟩; have A_2 := (A_1).past h2_; have B_2 := (B_1).past h2_; have S_2 := pt (S_1) h2_; clear A_1 B_1 S_1 Ac0 Ac1 Al Bc0 Bc1 Bl; have Ac0 := A_2.cellAt 0 rfl; have Ac1 := A_2.cellAt 1 rfl; have Al := A_2.lt; have Bc0 := B_2.cellAt 0 rfl; have Bc1 := B_2.cellAt 1 rfl; have Bl := B_2.lt)
    | (go_at_call 22; (with_reducible refine (HS.out _).mono ?_); rintro e w3_ ⟨rfl, h3_⟩; have A_3 := (A_2.alloc).past h3_; have B_3 := (B_2.alloc).past h3_; have Z_3 : Blk w3_ (w2_.heap.size) 48 #[.int .i64 x, .int .i64 y] := (Blk.newAt (by simp)).past h3_; have S_3 := pt (pa (S_2)) h3_; clear A_2 B_2 S_2 Ac0 Ac1 Al Bc0 Bc1 Bl; have Ac0 := A_3.cellAt 0 rfl; have Ac1 := A_3.cellAt 1 rfl; have Al := A_3.lt; have Bc0 := B_3.cellAt 0 rfl; have Bc1 := B_3.cellAt 1 rfl; have Bl := B_3.lt; have Zc0 := Z_3.cellAt 0 rfl; have Zc1 := Z_3.cellAt 1 rfl; have Zl := Z_3.lt)
    | (go_at_call 23; (with_reducible refine (HH.out _ (HT.out _ (S_3))).mono ?_); rintro e w4_ ⟨rfl, h4_⟩; have A_4 := (A_3).past h4_; have B_4 := (B_3).past h4_; have Z_4 := (Z_3).past h4_; have S_4 := pt (S_3) h4_; clear A_3 B_3 Z_3 S_3 Ac0 Ac1 Al Bc0 Bc1 Bl Zc0 Zc1 Zl; have Ac0 := A_4.cellAt 0 rfl; have Ac1 := A_4.cellAt 1 rfl; have Al := A_4.lt; have Bc0 := B_4.cellAt 0 rfl; have Bc1 := B_4.cellAt 1 rfl; have Bl := B_4.lt; have Zc0 := Z_4.cellAt 0 rfl; have Zc1 := Z_4.cellAt 1 rfl; have Zl := Z_4.lt)
    | (go_at_call 24; (with_reducible refine (HA.out _).mono ?_); rintro e w5_ ⟨rfl, h5_⟩; have A_5 := (A_4).past h5_; have B_5 := (B_4).past h5_; have Z_5 := (Z_4).past h5_; have S_5 := pt (S_4) h5_; clear A_4 B_4 Z_4 S_4 Ac0 Ac1 Al Bc0 Bc1 Bl Zc0 Zc1 Zl; have Ac0 := A_5.cellAt 0 rfl; have Ac1 := A_5.cellAt 1 rfl; have Al := A_5.lt; have Bc0 := B_5.cellAt 0 rfl; have Bc1 := B_5.cellAt 1 rfl; have Bl := B_5.lt; have Zc0 := Z_5.cellAt 0 rfl; have Zc1 := Z_5.cellAt 1 rfl; have Zl := Z_5.lt)
    | (go_at_call 24; (with_reducible refine (HB.out _).mono ?_); rintro e w6_ ⟨rfl, h6_⟩; have A_6 := (A_5).past h6_; have B_6 := (B_5).past h6_; have Z_6 := (Z_5).past h6_; have S_6 := pt (S_5) h6_; clear A_5 B_5 Z_5 S_5 Ac0 Ac1 Al Bc0 Bc1 Bl Zc0 Zc1 Zl; have Ac0 := A_6.cellAt 0 rfl; have Ac1 := A_6.cellAt 1 rfl; have Al := A_6.lt; have Bc0 := B_6.cellAt 0 rfl; have Bc1 := B_6.cellAt 1 rfl; have Bl := B_6.lt; have Zc0 := Z_6.cellAt 0 rfl; have Zc1 := Z_6.cellAt 1 rfl; have Zl := Z_6.lt))
  refine region_below 26 follows_mixed (by kernel_rfl) ?_
  intro C hC
  simp only [List.take_succ_cons, List.take_zero, List.drop_succ_cons, List.drop_zero]
  repeat (first
    | ((with_reducible refine quiet_plain rfl (fun K hK => ?_)); (focus (apply quiet_val; (focus (intro w' hw; obtain ⟨hcq, hfq⟩ := bcell ((hC.out _).1 hw); go_simp; (first | done | rfl | (with_reducible exact call_below hC hw (RC.out _))))); (simp only [Act.put, List.setIfInBounds_toArray, List.set_cons_succ, List.set_cons_zero]); (with_reducible refine hK _ ?_); clear hK K)))
    | ((with_reducible refine quiet_skip ?_ ?_); (focus (first | (simp [Region.wanted, yielded]; done) | (simp [Region.wanted, yielded, undef]; done))); simp only [Act.put, List.setIfInBounds_toArray, List.set_cons_succ, List.set_cons_zero])
    | ((with_reducible refine quiet_go ?_ (fun K hK => ?_)); (focus (first | (simp [Region.wanted, yielded]; done) | (simp [Region.wanted, yielded, undef]; done))); (focus (apply quiet_val; (focus (intro w' hw; obtain ⟨hcq, hfq⟩ := bcell ((hC.out _).1 hw); go_simp; (first | done | rfl | (with_reducible exact call_below hC hw (RC.out _))))); (simp only [Act.put, List.setIfInBounds_toArray, List.set_cons_succ, List.set_cons_zero]); (with_reducible refine hK _ ?_); clear hK K))))
  refine wpQuiet_nil ?_
  intro w1 hb1
  replace hb1 := (hC.out _).1 hb1
  clear hC C
  obtain ⟨hc1, hf1⟩ := bcell hb1
  have A_7 := (A_6).past hb1
  have B_7 := (B_6).past hb1
  have Z_7 := (Z_6).past hb1
  have S_7 := pt (S_6) hb1
  clear A_6 B_6 Z_6 S_6 Ac0 Ac1 Al Bc0 Bc1 Bl Zc0 Zc1 Zl
  have Ac0 := A_7.cellAt 0 rfl
  have Ac1 := A_7.cellAt 1 rfl
  have Al := A_7.lt
  have Bc0 := B_7.cellAt 0 rfl
  have Bc1 := B_7.cellAt 1 rfl
  have Bl := B_7.lt
  have Zc0 := Z_7.cellAt 0 rfl
  have Zc1 := Z_7.cellAt 1 rfl
  have Zl := Z_7.lt
  clear hb1 hc1 hf1
  obtain ⟨w7_, rfl⟩ : ∃ v, v = w1 := ⟨_, rfl⟩
  go_wp2_with (first
    | (go_at_call 26; (with_reducible refine (RH.out _).mono ?_); rintro e w8_ ⟨rfl, h8_⟩; have A_8 := (A_7).past h8_; have B_8 := (B_7).past h8_; have Z_8 := (Z_7).past h8_; have S_8 := pt (S_7) h8_; clear A_7 B_7 Z_7 S_7 Ac0 Ac1 Al Bc0 Bc1 Bl Zc0 Zc1 Zl; have Ac0 := A_8.cellAt 0 rfl; have Ac1 := A_8.cellAt 1 rfl; have Al := A_8.lt; have Bc0 := B_8.cellAt 0 rfl; have Bc1 := B_8.cellAt 1 rfl; have Bl := B_8.lt; have Zc0 := Z_8.cellAt 0 rfl; have Zc1 := Z_8.cellAt 1 rfl; have Zl := Z_8.lt)
    | (go_at_call 27; (with_reducible refine (RS.out _).mono ?_); rintro e w9_ ⟨rfl, h9_⟩; have A_9 := (A_8).past h9_; have B_9 := (B_8).past h9_; have Z_9 := (Z_8).past h9_; have S_9 := pt (S_8) h9_; clear A_8 B_8 Z_8 S_8 Ac0 Ac1 Al Bc0 Bc1 Bl Zc0 Zc1 Zl; have Ac0 := A_9.cellAt 0 rfl; have Ac1 := A_9.cellAt 1 rfl; have Al := A_9.lt; have Bc0 := B_9.cellAt 0 rfl; have Bc1 := B_9.cellAt 1 rfl; have Bl := B_9.lt; have Zc0 := Z_9.cellAt 0 rfl; have Zc1 := Z_9.cellAt 1 rfl; have Zl := Z_9.lt)
    | (go_at_call 28; (with_reducible refine (Z1.out _).mono ?_); rintro e w' ⟨rfl, rfl⟩)
    | (go_at_call 28; (with_reducible refine (Z2.out _).mono ?_); rintro e w' ⟨rfl, rfl⟩)
    | (go_at_call 28; (with_reducible refine (Z3.out _).mono ?_); rintro e w' ⟨rfl, rfl⟩)
    | (go_at_call 28; (with_reducible refine (Z4.out _).mono ?_); rintro e w' ⟨rfl, rfl⟩))
  go_ret
  exact ⟨rfl, by repeat (first | exact S_9 | refine pa ?_)⟩

set_option maxHeartbeats 16000000 in
set_option maxRecDepth 100000 in
theorem phasors_d0 (p q r s : Int) (e1 : phE p q = 0) (e2 : phE r s = 0) (c0 : ¬ 1000 < (p.natAbs : Int)) (c1 : ¬ 1000 < (q.natAbs : Int)) (c2 : ¬ 300 < (r.natAbs : Int)) (c3 : ¬ 300 < (s.natAbs : Int)) (h1 : (hoursE p q == 0) = false) (w : World) (hT : TwIn w) (hP : PatIn w) :
    Calls Tryd.prog 5 #[.agg #[.int .i64 p, .int .i64 q], .agg #[.int .i64 r, .int .i64 s]] w fun e w' => e = .returned (.bool true) ∧ Below w.heap.size w w' := by
  have HT := Lib.hid (fun w' (h : Below w.heap.size w w') => hT.below h)
  have HP := Lib.hid (fun w' (h : Below w.heap.size w w') => hP.below h)
  clear hT hP

  have HS := Lib.hid (SquareOf_any p q)
  have HA := Lib.hid (refPhasorErr_any p q)
  have HB := Lib.hid (refPhasorErr_any r s)
  obtain ⟨sp, sq⟩ := phE_sm e1
  have HH := Lib.hid (HoursOf_any p q e1)
  have RH := Lib.hid (refHours_any p q sp sq)
  have RS := Lib.hid (refSquare_any p q sp sq)
  rw [e1, if_pos rfl] at HS
  rw [e1] at HA
  obtain ⟨sr, ss⟩ := phE_sm e2
  have HC := Lib.hid (Product_ok p q r s e1 e2)
  have RC := Lib.hid (refProduct_any p q r s sp sq sr ss)
  rw [e2] at HB
  have hz1 := size_any p (by unfold Sm at *; omega)
  have hz2 := size_any q (by unfold Sm at *; omega)
  have hz3 := size_any r (by unfold Sm at *; omega)
  have hz4 := size_any s (by unfold Sm at *; omega)
  have k1 : Sm 1000 p := by unfold Sm; omega
  have k2 : Sm 1000 q := by unfold Sm; omega
  have k3 : Sm 300 r := by unfold Sm; omega
  have k4 : Sm 300 s := by unfold Sm; omega
  have b1 := k1.mul k3 (by decide) (by decide)
  have b2 := k2.mul k4 (by decide) (by decide)
  have b3 := k1.mul k4 (by decide) (by decide)
  have b4 := k2.mul k3 (by decide) (by decide)
  have b5 := k1.mul k1 (by decide) (by decide)
  have b6 := k1.mul k2 (by decide) (by decide)
  have b7 := k2.mul k2 (by decide) (by decide)
  have b8 := k3.mul k3 (by decide) (by decide)
  have b9 := k3.mul k4 (by decide) (by decide)
  have ba := k4.mul k4 (by decide) (by decide)
  have sx : Sm 1000000 (mulP p q r s) := by unfold Sm mulP at *; omega
  have sy : Sm 1000000 (mulQ p q r s) := by unfold Sm mulQ at *; omega
  have sn : Sm 3000000 (sqV p q) := by unfold Sm sqV at *; omega
  have sm : Sm 270000 (sqV r s) := by unfold Sm sqV at *; omega
  have so := sn.mul sm (by decide) (by decide)
  have e3 : phE (mulP p q r s) (mulQ p q r s) = 0 := by
    unfold Sm at sx sy
    simp [phE, withinB, unlessV, sx, sy]
  have HSb := Lib.hid (SquareOf_any r s)
  have HSz := Lib.hid (SquareOf_any (mulP p q r s) (mulQ p q r s))
  rw [e2, if_pos rfl] at HSb
  rw [e3, if_pos rfl, sq_mul] at HSz
  have HHb := Lib.hid (HoursOf_any r s e2)
  have HHz := Lib.hid (HoursOf_any (mulP p q r s) (mulQ p q r s) e3)
  have hm := @hoursV_mul p q r s
  have wo : IntKind.i64.wrap (sqV p q * sqV r s) = sqV p q * sqV r s := IntWalk.i64_in _ (by unfold Sm at so; omega)
  clear sp sq sr ss k1 k2 k3 k4 b1 b2 b3 b4 b5 b6 b7 b8 b9 ba sx sy sn sm
  generalize (p.natAbs : Int) = n1 at *
  generalize (q.natAbs : Int) = n2 at *
  generalize (r.natAbs : Int) = n3 at *
  generalize (s.natAbs : Int) = n4 at *
  have Z1 := Lib.hid hz1
  have Z2 := Lib.hid hz2
  have Z3 := Lib.hid hz3
  have Z4 := Lib.hid hz4
  clear hz1 hz2 hz3 hz4
  generalize hoursE p q = E at *
  generalize hoursE r s = E2 at *
  generalize hoursE (mulP p q r s) (mulQ p q r s) = E3 at *
  generalize (hoursV p q).getD 0 = h at *
  generalize (hoursV r s).getD 0 = t at *
  generalize (hoursV (mulP p q r s) (mulQ p q r s)).getD 0 = u at *
  clear hm so
  generalize mulP p q r s = x at *
  generalize mulQ p q r s = y at *
  generalize sqV p q = n at *
  generalize sqV r s = m at *
  have t2 := phB_refl x y
  clear e1 e2 e3
  go_enter Tryd.func5, Tryd.ntmps5
  go_wp2_with (first
    | (go_at_call 11; (with_reducible refine (awake_any _ (HT.out _ (pa (pa (pr)))) (HP.out _ (pa (pa (pr))))).mono ?_); rintro e w1_ ⟨rfl, h1_⟩; have A_1 : Blk w1_ (w.heap.size) 48 #[.int .i64 p, .int .i64 q] := (Blk.newAt (by simp)).alloc.past h1_; have B_1 : Blk w1_ (w.heap.size + 1) 48 #[.int .i64 r, .int .i64 s] := (Blk.newAt (by simp)).past h1_; have S_1 := pt (pa (pa (pr))) h1_; have Ac0 := A_1.cellAt 0 rfl; have Ac1 := A_1.cellAt 1 rfl; have Al := A_1.lt; have Bc0 := B_1.cellAt 0 rfl; have Bc1 := B_1.cellAt 1 rfl; have Bl := B_1.lt)
    | (go_at_call 21; (with_reducible refine (HC.out _).mono ?_); rintro e w2_ ⟨rfl, h2_⟩; have A_2 := (A_1).past h2_; have B_2 := (B_1).past h2_; have S_2 := pt (S_1) h2_; clear A_1 B_1 S_1 Ac0 Ac1 Al Bc0 Bc1 Bl; have Ac0 := A_2.cellAt 0 rfl; have Ac1 := A_2.cellAt 1 rfl; have Al := A_2.lt; have Bc0 := B_2.cellAt 0 rfl; have Bc1 := B_2.cellAt 1 rfl; have Bl := B_2.lt)
    | (go_at_call 22; (with_reducible refine (HS.out _).mono ?_); rintro e w3_ ⟨rfl, h3_⟩; have A_3 := (A_2.alloc).past h3_; have B_3 := (B_2.alloc).past h3_; have Z_3 : Blk w3_ (w2_.heap.size) 48 #[.int .i64 x, .int .i64 y] := (Blk.newAt (by simp)).past h3_; have S_3 := pt (pa (S_2)) h3_; clear A_2 B_2 S_2 Ac0 Ac1 Al Bc0 Bc1 Bl; have Ac0 := A_3.cellAt 0 rfl; have Ac1 := A_3.cellAt 1 rfl; have Al := A_3.lt; have Bc0 := B_3.cellAt 0 rfl; have Bc1 := B_3.cellAt 1 rfl; have Bl := B_3.lt; have Zc0 := Z_3.cellAt 0 rfl; have Zc1 := Z_3.cellAt 1 rfl; have Zl := Z_3.lt)
    | (go_at_call 23; (with_reducible refine (HH.out _ (HT.out _ (S_3))).mono ?_); rintro e w4_ ⟨rfl, h4_⟩; have A_4 := (A_3).past h4_; have B_4 := (B_3).past h4_; have Z_4 := (Z_3).past h4_; have S_4 := pt (S_3) h4_; clear A_3 B_3 Z_3 S_3 Ac0 Ac1 Al Bc0 Bc1 Bl Zc0 Zc1 Zl; have Ac0 := A_4.cellAt 0 rfl; have Ac1 := A_4.cellAt 1 rfl; have Al := A_4.lt; have Bc0 := B_4.cellAt 0 rfl; have Bc1 := B_4.cellAt 1 rfl; have Bl := B_4.lt; have Zc0 := Z_4.cellAt 0 rfl; have Zc1 := Z_4.cellAt 1 rfl; have Zl := Z_4.lt)
    | (go_at_call 24; (with_reducible refine (HA.out _).mono ?_); rintro e w5_ ⟨rfl, h5_⟩; have A_5 := (A_4).past h5_; have B_5 := (B_4).past h5_; have Z_5 := (Z_4).past h5_; have S_5 := pt (S_4) h5_; clear A_4 B_4 Z_4 S_4 Ac0 Ac1 Al Bc0 Bc1 Bl Zc0 Zc1 Zl; have Ac0 := A_5.cellAt 0 rfl; have Ac1 := A_5.cellAt 1 rfl; have Al := A_5.lt; have Bc0 := B_5.cellAt 0 rfl; have Bc1 := B_5.cellAt 1 rfl; have Bl := B_5.lt; have Zc0 := Z_5.cellAt 0 rfl; have Zc1 := Z_5.cellAt 1 rfl; have Zl := Z_5.lt)
    | (go_at_call 24; (with_reducible refine (HB.out _).mono ?_); rintro e w6_ ⟨rfl, h6_⟩; have A_6 := (A_5).past h6_; have B_6 := (B_5).past h6_; have Z_6 := (Z_5).past h6_; have S_6 := pt (S_5) h6_; clear A_5 B_5 Z_5 S_5 Ac0 Ac1 Al Bc0 Bc1 Bl Zc0 Zc1 Zl; have Ac0 := A_6.cellAt 0 rfl; have Ac1 := A_6.cellAt 1 rfl; have Al := A_6.lt; have Bc0 := B_6.cellAt 0 rfl; have Bc1 := B_6.cellAt 1 rfl; have Bl := B_6.lt; have Zc0 := Z_6.cellAt 0 rfl; have Zc1 := Z_6.cellAt 1 rfl; have Zl := Z_6.lt))
  refine region_below 26 follows_mixed (by kernel_rfl) ?_
  intro C hC
  simp only [List.take_succ_cons, List.take_zero, List.drop_succ_cons, List.drop_zero]
  repeat (first
    | ((with_reducible refine quiet_plain rfl (fun K hK => ?_)); (focus (apply quiet_val; (focus (intro w' hw; obtain ⟨hcq, hfq⟩ := bcell ((hC.out _).1 hw); go_simp; (first | done | rfl | (with_reducible exact call_below hC hw (RC.out _))))); (simp only [Act.put, List.setIfInBounds_toArray, List.set_cons_succ, List.set_cons_zero]); (with_reducible refine hK _ ?_); clear hK K)))
    | ((with_reducible refine quiet_skip ?_ ?_); (focus (first | (simp [Region.wanted, yielded]; done) | (simp [Region.wanted, yielded, undef]; done))); simp only [Act.put, List.setIfInBounds_toArray, List.set_cons_succ, List.set_cons_zero])
    | ((with_reducible refine quiet_go ?_ (fun K hK => ?_)); (focus (first | (simp [Region.wanted, yielded]; done) | (simp [Region.wanted, yielded, undef]; done))); (focus (apply quiet_val; (focus (intro w' hw; obtain ⟨hcq, hfq⟩ := bcell ((hC.out _).1 hw); go_simp; (first | done | rfl | (with_reducible exact call_below hC hw (RC.out _))))); (simp only [Act.put, List.setIfInBounds_toArray, List.set_cons_succ, List.set_cons_zero]); (with_reducible refine hK _ ?_); clear hK K))))
  refine wpQuiet_nil ?_
  intro w1 hb1
  replace hb1 := (hC.out _).1 hb1
  clear hC C
  obtain ⟨hc1, hf1⟩ := bcell hb1
  have A_7 := (A_6).past hb1
  have B_7 := (B_6).past hb1
  have Z_7 := (Z_6).past hb1
  have S_7 := pt (S_6) hb1
  clear A_6 B_6 Z_6 S_6 Ac0 Ac1 Al Bc0 Bc1 Bl Zc0 Zc1 Zl
  have Ac0 := A_7.cellAt 0 rfl
  have Ac1 := A_7.cellAt 1 rfl
  have Al := A_7.lt
  have Bc0 := B_7.cellAt 0 rfl
  have Bc1 := B_7.cellAt 1 rfl
  have Bl := B_7.lt
  have Zc0 := Z_7.cellAt 0 rfl
  have Zc1 := Z_7.cellAt 1 rfl
  have Zl := Z_7.lt
  clear hb1 hc1 hf1
  obtain ⟨w7_, rfl⟩ : ∃ v, v = w1 := ⟨_, rfl⟩
  go_wp2_with (first
    | (go_at_call 26; (with_reducible refine (RH.out _).mono ?_); rintro e w8_ ⟨rfl, h8_⟩; have A_8 := (A_7).past h8_; have B_8 := (B_7).past h8_; have Z_8 := (Z_7).past h8_; have S_8 := pt (S_7) h8_; clear A_7 B_7 Z_7 S_7 Ac0 Ac1 Al Bc0 Bc1 Bl Zc0 Zc1 Zl; have Ac0 := A_8.cellAt 0 rfl; have Ac1 := A_8.cellAt 1 rfl; have Al := A_8.lt; have Bc0 := B_8.cellAt 0 rfl; have Bc1 := B_8.cellAt 1 rfl; have Bl := B_8.lt; have Zc0 := Z_8.cellAt 0 rfl; have Zc1 := Z_8.cellAt 1 rfl; have Zl := Z_8.lt)
    | (go_at_call 27; (with_reducible refine (RS.out _).mono ?_); rintro e w9_ ⟨rfl, h9_⟩; have A_9 := (A_8).past h9_; have B_9 := (B_8).past h9_; have Z_9 := (Z_8).past h9_; have S_9 := pt (S_8) h9_; clear A_8 B_8 Z_8 S_8 Ac0 Ac1 Al Bc0 Bc1 Bl Zc0 Zc1 Zl; have Ac0 := A_9.cellAt 0 rfl; have Ac1 := A_9.cellAt 1 rfl; have Al := A_9.lt; have Bc0 := B_9.cellAt 0 rfl; have Bc1 := B_9.cellAt 1 rfl; have Bl := B_9.lt; have Zc0 := Z_9.cellAt 0 rfl; have Zc1 := Z_9.cellAt 1 rfl; have Zl := Z_9.lt)
    | (go_at_call 28; (with_reducible refine (Z1.out _).mono ?_); rintro e w' ⟨rfl, rfl⟩)
    | (go_at_call 28; (with_reducible refine (Z2.out _).mono ?_); rintro e w' ⟨rfl, rfl⟩)
    | (go_at_call 28; (with_reducible refine (Z3.out _).mono ?_); rintro e w' ⟨rfl, rfl⟩)
    | (go_at_call 28; (with_reducible refine (Z4.out _).mono ?_); rintro e w' ⟨rfl, rfl⟩)
    | (go_at_call 22; (with_reducible refine (HSb.out _).mono ?_); rintro e w14_ ⟨rfl, h14_⟩; have A_14 := (A_9).past h14_; have B_14 := (B_9).past h14_; have Z_14 := (Z_9).past h14_; have S_14 := pt (S_9) h14_; clear A_9 B_9 Z_9 S_9 Ac0 Ac1 Al Bc0 Bc1 Bl Zc0 Zc1 Zl; have Ac0 := A_14.cellAt 0 rfl; have Ac1 := A_14.cellAt 1 rfl; have Al := A_14.lt; have Bc0 := B_14.cellAt 0 rfl; have Bc1 := B_14.cellAt 1 rfl; have Bl := B_14.lt; have Zc0 := Z_14.cellAt 0 rfl; have Zc1 := Z_14.cellAt 1 rfl; have Zl := Z_14.lt)
    | (go_at_call 22; (with_reducible refine (HSz.out _).mono ?_); rintro e w15_ ⟨rfl, h15_⟩; have A_15 := (A_14).past h15_; have B_15 := (B_14).past h15_; have Z_15 := (Z_14).past h15_; have S_15 := pt (S_14) h15_; clear A_14 B_14 Z_14 S_14 Ac0 Ac1 Al Bc0 Bc1 Bl Zc0 Zc1 Zl; have Ac0 := A_15.cellAt 0 rfl; have Ac1 := A_15.cellAt 1 rfl; have Al := A_15.lt; have Bc0 := B_15.cellAt 0 rfl; have Bc1 := B_15.cellAt 1 rfl; have Bl := B_15.lt; have Zc0 := Z_15.cellAt 0 rfl; have Zc1 := Z_15.cellAt 1 rfl; have Zl := Z_15.lt)
    | (go_at_call 23; (with_reducible refine (HHb.out _ (HT.out _ (S_15))).mono ?_); rintro e w16_ ⟨rfl, h16_⟩; have A_16 := (A_15).past h16_; have B_16 := (B_15).past h16_; have Z_16 := (Z_15).past h16_; have S_16 := pt (S_15) h16_; clear A_15 B_15 Z_15 S_15 Ac0 Ac1 Al Bc0 Bc1 Bl Zc0 Zc1 Zl; have Ac0 := A_16.cellAt 0 rfl; have Ac1 := A_16.cellAt 1 rfl; have Al := A_16.lt; have Bc0 := B_16.cellAt 0 rfl; have Bc1 := B_16.cellAt 1 rfl; have Bl := B_16.lt; have Zc0 := Z_16.cellAt 0 rfl; have Zc1 := Z_16.cellAt 1 rfl; have Zl := Z_16.lt)
    | (go_at_call 23; (with_reducible refine (HHz.out _ (HT.out _ (S_16))).mono ?_); rintro e w17_ ⟨rfl, h17_⟩; have A_17 := (A_16).past h17_; have B_17 := (B_16).past h17_; have Z_17 := (Z_16).past h17_; have S_17 := pt (S_16) h17_; clear A_16 B_16 Z_16 S_16 Ac0 Ac1 Al Bc0 Bc1 Bl Zc0 Zc1 Zl; have Ac0 := A_17.cellAt 0 rfl; have Ac1 := A_17.cellAt 1 rfl; have Al := A_17.lt; have Bc0 := B_17.cellAt 0 rfl; have Bc1 := B_17.cellAt 1 rfl; have Bl := B_17.lt; have Zc0 := Z_17.cellAt 0 rfl; have Zc1 := Z_17.cellAt 1 rfl; have Zl := Z_17.lt))
  go_ret
  exact ⟨rfl, by repeat (first | exact S_17 | refine pa ?_)⟩

set_option maxHeartbeats 16000000 in
set_option maxRecDepth 100000 in
theorem phasors_d1 (p q r s : Int) (e1 : phE p q = 0) (e2 : phE r s = 0) (c0 : ¬ 1000 < (p.natAbs : Int)) (c1 : ¬ 1000 < (q.natAbs : Int)) (c2 : ¬ 300 < (r.natAbs : Int)) (c3 : ¬ 300 < (s.natAbs : Int)) (h1 : hoursE p q = 0) (h2 : (hoursE r s == 0) = false) (w : World) (hT : TwIn w) (hP : PatIn w) :
    Calls Tryd.prog 5 #[.agg #[.int .i64 p, .int .i64 q], .agg #[.int .i64 r, .int .i64 s]] w fun e w' => e = .returned (.bool true) ∧ Below w.heap.size w w' := by
  have HT := Lib.hid (fun w' (h : Below w.heap.size w w') => hT.below h)
  have HP := Lib.hid (fun w' (h : Below w.heap.size w w') => hP.below h)
  clear hT hP

  have HS := Lib.hid (SquareOf_any p q)
  have HA := Lib.hid (refPhasorErr_any p q)
  have HB := Lib.hid (refPhasorErr_any r s)
  obtain ⟨sp, sq⟩ := phE_sm e1
  have HH := Lib.hid (HoursOf_any p q e1)
  have RH := Lib.hid (refHours_any p q sp sq)
  have RS := Lib.hid (refSquare_any p q sp sq)
  rw [e1, if_pos rfl] at HS
  rw [e1] at HA
  obtain ⟨sr, ss⟩ := phE_sm e2
  have HC := Lib.hid (Product_ok p q r s e1 e2)
  have RC := Lib.hid (refProduct_any p q r s sp sq sr ss)
  rw [e2] at HB
  have hz1 := size_any p (by unfold Sm at *; omega)
  have hz2 := size_any q (by unfold Sm at *; omega)
  have hz3 := size_any r (by unfold Sm at *; omega)
  have hz4 := size_any s (by unfold Sm at *; omega)
  have k1 : Sm 1000 p := by unfold Sm; omega
  have k2 : Sm 1000 q := by unfold Sm; omega
  have k3 : Sm 300 r := by unfold Sm; omega
  have k4 : Sm 300 s := by unfold Sm; omega
  have b1 := k1.mul k3 (by decide) (by decide)
  have b2 := k2.mul k4 (by decide) (by decide)
  have b3 := k1.mul k4 (by decide) (by decide)
  have b4 := k2.mul k3 (by decide) (by decide)
  have b5 := k1.mul k1 (by decide) (by decide)
  have b6 := k1.mul k2 (by decide) (by decide)
  have b7 := k2.mul k2 (by decide) (by decide)
  have b8 := k3.mul k3 (by decide) (by decide)
  have b9 := k3.mul k4 (by decide) (by decide)
  have ba := k4.mul k4 (by decide) (by decide)
  have sx : Sm 1000000 (mulP p q r s) := by unfold Sm mulP at *; omega
  have sy : Sm 1000000 (mulQ p q r s) := by unfold Sm mulQ at *; omega
  have sn : Sm 3000000 (sqV p q) := by unfold Sm sqV at *; omega
  have sm : Sm 270000 (sqV r s) := by unfold Sm sqV at *; omega
  have so := sn.mul sm (by decide) (by decide)
  have e3 : phE (mulP p q r s) (mulQ p q r s) = 0 := by
    unfold Sm at sx sy
    simp [phE, withinB, unlessV, sx, sy]
  have HSb := Lib.hid (SquareOf_any r s)
  have HSz := Lib.hid (SquareOf_any (mulP p q r s) (mulQ p q r s))
  rw [e2, if_pos rfl] at HSb
  rw [e3, if_pos rfl, sq_mul] at HSz
  have HHb := Lib.hid (HoursOf_any r s e2)
  have HHz := Lib.hid (HoursOf_any (mulP p q r s) (mulQ p q r s) e3)
  have hm := @hoursV_mul p q r s
  have wo : IntKind.i64.wrap (sqV p q * sqV r s) = sqV p q * sqV r s := IntWalk.i64_in _ (by unfold Sm at so; omega)
  clear sp sq sr ss k1 k2 k3 k4 b1 b2 b3 b4 b5 b6 b7 b8 b9 ba sx sy sn sm
  generalize (p.natAbs : Int) = n1 at *
  generalize (q.natAbs : Int) = n2 at *
  generalize (r.natAbs : Int) = n3 at *
  generalize (s.natAbs : Int) = n4 at *
  have Z1 := Lib.hid hz1
  have Z2 := Lib.hid hz2
  have Z3 := Lib.hid hz3
  have Z4 := Lib.hid hz4
  clear hz1 hz2 hz3 hz4
  rw [h1] at RH HH
  generalize hoursE r s = E2 at *
  generalize hoursE (mulP p q r s) (mulQ p q r s) = E3 at *
  generalize (hoursV p q).getD 0 = h at *
  generalize (hoursV r s).getD 0 = t at *
  generalize (hoursV (mulP p q r s) (mulQ p q r s)).getD 0 = u at *
  clear h1
  clear hm so
  generalize mulP p q r s = x at *
  generalize mulQ p q r s = y at *
  generalize sqV p q = n at *
  generalize sqV r s = m at *
  have t2 := phB_refl x y
  clear e1 e2 e3
  go_enter Tryd.func5, Tryd.ntmps5
  go_wp2_with (first
    | (go_at_call 11; (with_reducible refine (awake_any _ (HT.out _ (pa (pa (pr)))) (HP.out _ (pa (pa (pr))))).mono ?_); rintro e w1_ ⟨rfl, h1_⟩; have A_1 : Blk w1_ (w.heap.size) 48 #[.int .i64 p, .int .i64 q] := (Blk.newAt (by simp)).alloc.past h1_; have B_1 : Blk w1_ (w.heap.size + 1) 48 #[.int .i64 r, .int .i64 s] := (Blk.newAt (by simp)).past h1_; have S_1 := pt (pa (pa (pr))) h1_; have Ac0 := A_1.cellAt 0 rfl; have Ac1 := A_1.cellAt 1 rfl; have Al := A_1.lt; have Bc0 := B_1.cellAt 0 rfl; have Bc1 := B_1.cellAt 1 rfl; have Bl := B_1.lt)
    | (go_at_call 21; (with_reducible refine (HC.out _).mono ?_); rintro e w2_ ⟨rfl, h2_⟩; have A_2 := (A_1).past h2_; have B_2 := (B_1).past h2_; have S_2 := pt (S_1) h2_; clear A_1 B_1 S_1 Ac0 Ac1 Al Bc0 Bc1 Bl; have Ac0 := A_2.cellAt 0 rfl; have Ac1 := A_2.cellAt 1 rfl; have Al := A_2.lt; have Bc0 := B_2.cellAt 0 rfl; have Bc1 := B_2.cellAt 1 rfl; have Bl := B_2.lt)
    | (go_at_call 22; (with_reducible refine (HS.out _).mono ?_); rintro e w3_ ⟨rfl, h3_⟩; have A_3 := (A_2.alloc).past h3_; have B_3 := (B_2.alloc).past h3_; have Z_3 : Blk w3_ (w2_.heap.size) 48 #[.int .i64 x, .int .i64 y] := (Blk.newAt (by simp)).past h3_; have S_3 := pt (pa (S_2)) h3_; clear A_2 B_2 S_2 Ac0 Ac1 Al Bc0 Bc1 Bl; have Ac0 := A_3.cellAt 0 rfl; have Ac1 := A_3.cellAt 1 rfl; have Al := A_3.lt; have Bc0 := B_3.cellAt 0 rfl; have Bc1 := B_3.cellAt 1 rfl; have Bl := B_3.lt; have Zc0 := Z_3.cellAt 0 rfl; have Zc1 := Z_3.cellAt 1 rfl; have Zl := Z_3.lt)
    | (go_at_call 23; (with_reducible refine (HH.out _ (HT.out _ (S_3))).mono ?_); rintro e w4_ ⟨rfl, h4_⟩; have A_4 := (A_3).past h4_; have B_4 := (B_3).past h4_; have Z_4 := (Z_3).past h4_; have S_4 := pt (S_3) h4_; clear A_3 B_3 Z_3 S_3 Ac0 Ac1 Al Bc0 Bc1 Bl Zc0 Zc1 Zl; have Ac0 := A_4.cellAt 0 rfl; have Ac1 := A_4.cellAt 1 rfl; have Al := A_4.lt; have Bc0 := B_4.cellAt 0 rfl; have Bc1 := B_4.cellAt 1 rfl; have Bl := B_4.lt; have Zc0 := Z_4.cellAt 0 rfl; have Zc1 := Z_4.cellAt 1 rfl; have Zl := Z_4.lt)
    | (go_at_call 24; (with_reducible refine (HA.out _).mono ?_); rintro e w5_ ⟨rfl, h5_⟩; have A_5 := (A_4).past h5_; have B_5 := (B_4).past h5_; have Z_5 := (Z_4).past h5_; have S_5 := pt (S_4) h5_; clear A_4 B_4 Z_4 S_4 Ac0 Ac1 Al Bc0 Bc1 Bl Zc0 Zc1 Zl; have Ac0 := A_5.cellAt 0 rfl; have Ac1 := A_5.cellAt 1 rfl; have Al := A_5.lt; have Bc0 := B_5.cellAt 0 rfl; have Bc1 := B_5.cellAt 1 rfl; have Bl := B_5.lt; have Zc0 := Z_5.cellAt 0 rfl; have Zc1 := Z_5.cellAt 1 rfl; have Zl := Z_5.lt)
    | (go_at_call 24; (with_reducible refine (HB.out _).mono ?_); rintro e w6_ ⟨rfl, h6_⟩; have A_6 := (A_5).past h6_; have B_6 := (B_5).past h6_; have Z_6 := (Z_5).past h6_; have S_6 := pt (S_5) h6_; clear A_5 B_5 Z_5 S_5 Ac0 Ac1 Al Bc0 Bc1 Bl Zc0 Zc1 Zl; have Ac0 := A_6.cellAt 0 rfl; have Ac1 := A_6.cellAt 1 rfl; have Al := A_6.lt; have Bc0 := B_6.cellAt 0 rfl; have Bc1 := B_6.cellAt 1 rfl; have Bl := B_6.lt; have Zc0 := Z_6.cellAt 0 rfl; have Zc1 := Z_6.cellAt 1 rfl; have Zl := Z_6.lt))
  refine region_below 26 follows_mixed (by kernel_rfl) ?_
  intro C hC
  simp only [List.take_succ_cons, List.take_zero, List.drop_succ_cons, List.drop_zero]
  repeat (first
    | ((with_reducible refine quiet_plain rfl (fun K hK => ?_)); (focus (apply quiet_val; (focus (intro w' hw; obtain ⟨hcq, hfq⟩ := bcell ((hC.out _).1 hw); go_simp; (first | done | rfl | (with_reducible exact call_below hC hw (RC.out _))))); (simp only [Act.put, List.setIfInBounds_toArray, List.set_cons_succ, List.set_cons_zero]); (with_reducible refine hK _ ?_); clear hK K)))
    | ((with_reducible refine quiet_skip ?_ ?_); (focus (first | (simp [Region.wanted, yielded]; done) | (simp [Region.wanted, yielded, undef]; done))); simp only [Act.put, List.setIfInBounds_toArray, List.set_cons_succ, List.set_cons_zero])
    | ((with_reducible refine quiet_go ?_ (fun K hK => ?_)); (focus (first | (simp [Region.wanted, yielded]; done) | (simp [Region.wanted, yielded, undef]; done))); (focus (apply quiet_val; (focus (intro w' hw; obtain ⟨hcq, hfq⟩ := bcell ((hC.out _).1 hw); go_simp; (first | done | rfl | (with_reducible exact call_below hC hw (RC.out _))))); (simp only [Act.put, List.setIfInBounds_toArray, List.set_cons_succ, List.set_cons_zero]); (with_reducible refine hK _ ?_); clear hK K))))
  refine wpQuiet_nil ?_
  intro w1 hb1
  replace hb1 := (hC.out _).1 hb1
  clear hC C
  obtain ⟨hc1, hf1⟩ := bcell hb1
  have A_7 := (A_6).past hb1
  have B_7 := (B_6).past hb1
  have Z_7 := (Z_6).past hb1
  have S_7 := pt (S_6) hb1
  clear A_6 B_6 Z_6 S_6 Ac0 Ac1 Al Bc0 Bc1 Bl Zc0 Zc1 Zl
  have Ac0 := A_7.cellAt 0 rfl
  have Ac1 := A_7.cellAt 1 rfl
  have Al := A_7.lt
  have Bc0 := B_7.cellAt 0 rfl
  have Bc1 := B_7.cellAt 1 rfl
  have Bl := B_7.lt
  have Zc0 := Z_7.cellAt 0 rfl
  have Zc1 := Z_7.cellAt 1 rfl
  have Zl := Z_7.lt
  clear hb1 hc1 hf1
  obtain ⟨w7_, rfl⟩ : ∃ v, v = w1 := ⟨_, rfl⟩
  go_wp2_with (first
    | (go_at_call 26; (with_reducible refine (RH.out _).mono ?_); rintro e w8_ ⟨rfl, h8_⟩; have A_8 := (A_7).past h8_; have B_8 := (B_7).past h8_; have Z_8 := (Z_7).past h8_; have S_8 := pt (S_7) h8_; clear A_7 B_7 Z_7 S_7 Ac0 Ac1 Al Bc0 Bc1 Bl Zc0 Zc1 Zl; have Ac0 := A_8.cellAt 0 rfl; have Ac1 := A_8.cellAt 1 rfl; have Al := A_8.lt; have Bc0 := B_8.cellAt 0 rfl; have Bc1 := B_8.cellAt 1 rfl; have Bl := B_8.lt; have Zc0 := Z_8.cellAt 0 rfl; have Zc1 := Z_8.cellAt 1 rfl; have Zl := Z_8.lt)
    | (go_at_call 27; (with_reducible refine (RS.out _).mono ?_); rintro e w9_ ⟨rfl, h9_⟩; have A_9 := (A_8).past h9_; have B_9 := (B_8).past h9_; have Z_9 := (Z_8).past h9_; have S_9 := pt (S_8) h9_; clear A_8 B_8 Z_8 S_8 Ac0 Ac1 Al Bc0 Bc1 Bl Zc0 Zc1 Zl; have Ac0 := A_9.cellAt 0 rfl; have Ac1 := A_9.cellAt 1 rfl; have Al := A_9.lt; have Bc0 := B_9.cellAt 0 rfl; have Bc1 := B_9.cellAt 1 rfl; have Bl := B_9.lt; have Zc0 := Z_9.cellAt 0 rfl; have Zc1 := Z_9.cellAt 1 rfl; have Zl := Z_9.lt)
    | (go_at_call 28; (with_reducible refine (Z1.out _).mono ?_); rintro e w' ⟨rfl, rfl⟩)
    | (go_at_call 28; (with_reducible refine (Z2.out _).mono ?_); rintro e w' ⟨rfl, rfl⟩)
    | (go_at_call 28; (with_reducible refine (Z3.out _).mono ?_); rintro e w' ⟨rfl, rfl⟩)
    | (go_at_call 28; (with_reducible refine (Z4.out _).mono ?_); rintro e w' ⟨rfl, rfl⟩)
    | (go_at_call 22; (with_reducible refine (HSb.out _).mono ?_); rintro e w14_ ⟨rfl, h14_⟩; have A_14 := (A_9).past h14_; have B_14 := (B_9).past h14_; have Z_14 := (Z_9).past h14_; have S_14 := pt (S_9) h14_; clear A_9 B_9 Z_9 S_9 Ac0 Ac1 Al Bc0 Bc1 Bl Zc0 Zc1 Zl; have Ac0 := A_14.cellAt 0 rfl; have Ac1 := A_14.cellAt 1 rfl; have Al := A_14.lt; have Bc0 := B_14.cellAt 0 rfl; have Bc1 := B_14.cellAt 1 rfl; have Bl := B_14.lt; have Zc0 := Z_14.cellAt 0 rfl; have Zc1 := Z_14.cellAt 1 rfl; have Zl := Z_14.lt)
    | (go_at_call 22; (with_reducible refine (HSz.out _).mono ?_); rintro e w15_ ⟨rfl, h15_⟩; have A_15 := (A_14).past h15_; have B_15 := (B_14).past h15_; have Z_15 := (Z_14).past h15_; have S_15 := pt (S_14) h15_; clear A_14 B_14 Z_14 S_14 Ac0 Ac1 Al Bc0 Bc1 Bl Zc0 Zc1 Zl; have Ac0 := A_15.cellAt 0 rfl; have Ac1 := A_15.cellAt 1 rfl; have Al := A_15.lt; have Bc0 := B_15.cellAt 0 rfl; have Bc1 := B_15.cellAt 1 rfl; have Bl := B_15.lt; have Zc0 := Z_15.cellAt 0 rfl; have Zc1 := Z_15.cellAt 1 rfl; have Zl := Z_15.lt)
    | (go_at_call 23; (with_reducible refine (HHb.out _ (HT.out _ (S_15))).mono ?_); rintro e w16_ ⟨rfl, h16_⟩; have A_16 := (A_15).past h16_; have B_16 := (B_15).past h16_; have Z_16 := (Z_15).past h16_; have S_16 := pt (S_15) h16_; clear A_15 B_15 Z_15 S_15 Ac0 Ac1 Al Bc0 Bc1 Bl Zc0 Zc1 Zl; have Ac0 := A_16.cellAt 0 rfl; have Ac1 := A_16.cellAt 1 rfl; have Al := A_16.lt; have Bc0 := B_16.cellAt 0 rfl; have Bc1 := B_16.cellAt 1 rfl; have Bl := B_16.lt; have Zc0 := Z_16.cellAt 0 rfl; have Zc1 := Z_16.cellAt 1 rfl; have Zl := Z_16.lt)
    | (go_at_call 23; (with_reducible refine (HHz.out _ (HT.out _ (S_16))).mono ?_); rintro e w17_ ⟨rfl, h17_⟩; have A_17 := (A_16).past h17_; have B_17 := (B_16).past h17_; have Z_17 := (Z_16).past h17_; have S_17 := pt (S_16) h17_; clear A_16 B_16 Z_16 S_16 Ac0 Ac1 Al Bc0 Bc1 Bl Zc0 Zc1 Zl; have Ac0 := A_17.cellAt 0 rfl; have Ac1 := A_17.cellAt 1 rfl; have Al := A_17.lt; have Bc0 := B_17.cellAt 0 rfl; have Bc1 := B_17.cellAt 1 rfl; have Bl := B_17.lt; have Zc0 := Z_17.cellAt 0 rfl; have Zc1 := Z_17.cellAt 1 rfl; have Zl := Z_17.lt))
  go_ret
  exact ⟨rfl, by repeat (first | exact S_17 | refine pa ?_)⟩

set_option maxHeartbeats 16000000 in
set_option maxRecDepth 100000 in
theorem phasors_d2 (p q r s : Int) (e1 : phE p q = 0) (e2 : phE r s = 0) (c0 : ¬ 1000 < (p.natAbs : Int)) (c1 : ¬ 1000 < (q.natAbs : Int)) (c2 : ¬ 300 < (r.natAbs : Int)) (c3 : ¬ 300 < (s.natAbs : Int)) (h1 : hoursE p q = 0) (h2 : hoursE r s = 0) (w : World) (hT : TwIn w) (hP : PatIn w) :
    Calls Tryd.prog 5 #[.agg #[.int .i64 p, .int .i64 q], .agg #[.int .i64 r, .int .i64 s]] w fun e w' => e = .returned (.bool true) ∧ Below w.heap.size w w' := by
  have HT := Lib.hid (fun w' (h : Below w.heap.size w w') => hT.below h)
  have HP := Lib.hid (fun w' (h : Below w.heap.size w w') => hP.below h)
  clear hT hP

  have HS := Lib.hid (SquareOf_any p q)
  have HA := Lib.hid (refPhasorErr_any p q)
  have HB := Lib.hid (refPhasorErr_any r s)
  obtain ⟨sp, sq⟩ := phE_sm e1
  have HH := Lib.hid (HoursOf_any p q e1)
  have RH := Lib.hid (refHours_any p q sp sq)
  have RS := Lib.hid (refSquare_any p q sp sq)
  rw [e1, if_pos rfl] at HS
  rw [e1] at HA
  obtain ⟨sr, ss⟩ := phE_sm e2
  have HC := Lib.hid (Product_ok p q r s e1 e2)
  have RC := Lib.hid (refProduct_any p q r s sp sq sr ss)
  rw [e2] at HB
  have hz1 := size_any p (by unfold Sm at *; omega)
  have hz2 := size_any q (by unfold Sm at *; omega)
  have hz3 := size_any r (by unfold Sm at *; omega)
  have hz4 := size_any s (by unfold Sm at *; omega)
  have k1 : Sm 1000 p := by unfold Sm; omega
  have k2 : Sm 1000 q := by unfold Sm; omega
  have k3 : Sm 300 r := by unfold Sm; omega
  have k4 : Sm 300 s := by unfold Sm; omega
  have b1 := k1.mul k3 (by decide) (by decide)
  have b2 := k2.mul k4 (by decide) (by decide)
  have b3 := k1.mul k4 (by decide) (by decide)
  have b4 := k2.mul k3 (by decide) (by decide)
  have b5 := k1.mul k1 (by decide) (by decide)
  have b6 := k1.mul k2 (by decide) (by decide)
  have b7 := k2.mul k2 (by decide) (by decide)
  have b8 := k3.mul k3 (by decide) (by decide)
  have b9 := k3.mul k4 (by decide) (by decide)
  have ba := k4.mul k4 (by decide) (by decide)
  have sx : Sm 1000000 (mulP p q r s) := by unfold Sm mulP at *; omega
  have sy : Sm 1000000 (mulQ p q r s) := by unfold Sm mulQ at *; omega
  have sn : Sm 3000000 (sqV p q) := by unfold Sm sqV at *; omega
  have sm : Sm 270000 (sqV r s) := by unfold Sm sqV at *; omega
  have so := sn.mul sm (by decide) (by decide)
  have e3 : phE (mulP p q r s) (mulQ p q r s) = 0 := by
    unfold Sm at sx sy
    simp [phE, withinB, unlessV, sx, sy]
  have HSb := Lib.hid (SquareOf_any r s)
  have HSz := Lib.hid (SquareOf_any (mulP p q r s) (mulQ p q r s))
  rw [e2, if_pos rfl] at HSb
  rw [e3, if_pos rfl, sq_mul] at HSz
  have HHb := Lib.hid (HoursOf_any r s e2)
  have HHz := Lib.hid (HoursOf_any (mulP p q r s) (mulQ p q r s) e3)
  have hm := @hoursV_mul p q r s
  have wo : IntKind.i64.wrap (sqV p q * sqV r s) = sqV p q * sqV r s := IntWalk.i64_in _ (by unfold Sm at so; omega)
  clear sp sq sr ss k1 k2 k3 k4 b1 b2 b3 b4 b5 b6 b7 b8 b9 ba sx sy sn sm
  generalize (p.natAbs : Int) = n1 at *
  generalize (q.natAbs : Int) = n2 at *
  generalize (r.natAbs : Int) = n3 at *
  generalize (s.natAbs : Int) = n4 at *
  have Z1 := Lib.hid hz1
  have Z2 := Lib.hid hz2
  have Z3 := Lib.hid hz3
  have Z4 := Lib.hid hz4
  clear hz1 hz2 hz3 hz4
  obtain ⟨h, eh⟩ := hoursE_some h1
  obtain ⟨t, et⟩ := hoursE_some h2
  have eu := hm eh et
  have h3 := hoursE_of eu
  have rh := hoursV_range eh
  have rt := hoursV_range et
  have HM := Lib.hid (refMod12_any (h + t) (by unfold Sm; omega))
  rw [h1, eh] at RH HH
  rw [h2, et] at HHb
  rw [h3, eu] at HHz
  simp only [Option.getD_some] at RH HH HHb HHz
  clear h1 h2 h3 eh et eu
  clear hm so
  generalize mulP p q r s = x at *
  generalize mulQ p q r s = y at *
  generalize sqV p q = n at *
  generalize sqV r s = m at *
  have t2 := phB_refl x y
  clear e1 e2 e3
  go_enter Tryd.func5, Tryd.ntmps5
  go_wp2_with (first
    | (go_at_call 11; (with_reducible refine (awake_any _ (HT.out _ (pa (pa (pr)))) (HP.out _ (pa (pa (pr))))).mono ?_); rintro e w1_ ⟨rfl, h1_⟩; have A_1 : Blk w1_ (w.heap.size) 48 #[.int .i64 p, .int .i64 q] := (Blk.newAt (by simp)).alloc.past h1_; have B_1 : Blk w1_ (w.heap.size + 1) 48 #[.int .i64 r, .int .i64 s] := (Blk.newAt (by simp)).past h1_; have S_1 := pt (pa (pa (pr))) h1_; have Ac0 := A_1.cellAt 0 rfl; have Ac1 := A_1.cellAt 1 rfl; have Al := A_1.lt; have Bc0 := B_1.cellAt 0 rfl; have Bc1 := B_1.cellAt 1 rfl; have Bl := B_1.lt)
    | (go_at_call 21; (with_reducible refine (HC.out _).mono ?_); rintro e w2_ ⟨rfl, h2_⟩; have A_2 := (A_1).past h2_; have B_2 := (B_1).past h2_; have S_2 := pt (S_1) h2_; clear A_1 B_1 S_1 Ac0 Ac1 Al Bc0 Bc1 Bl; have Ac0 := A_2.cellAt 0 rfl; have Ac1 := A_2.cellAt 1 rfl; have Al := A_2.lt; have Bc0 := B_2.cellAt 0 rfl; have Bc1 := B_2.cellAt 1 rfl; have Bl := B_2.lt)
    | (go_at_call 22; (with_reducible refine (HS.out _).mono ?_); rintro e w3_ ⟨rfl, h3_⟩; have A_3 := (A_2.alloc).past h3_; have B_3 := (B_2.alloc).past h3_; have Z_3 : Blk w3_ (w2_.heap.size) 48 #[.int .i64 x, .int .i64 y] := (Blk.newAt (by simp)).past h3_; have S_3 := pt (pa (S_2)) h3_; clear A_2 B_2 S_2 Ac0 Ac1 Al Bc0 Bc1 Bl; have Ac0 := A_3.cellAt 0 rfl; have Ac1 := A_3.cellAt 1 rfl; have Al := A_3.lt; have Bc0 := B_3.cellAt 0 rfl; have Bc1 := B_3.cellAt 1 rfl; have Bl := B_3.lt; have Zc0 := Z_3.cellAt 0 rfl; have Zc1 := Z_3.cellAt 1 rfl; have Zl := Z_3.lt)
    | (go_at_call 23; (with_reducible refine (HH.out _ (HT.out _ (S_3))).mono ?_); rintro e w4_ ⟨rfl, h4_⟩; have A_4 := (A_3).past h4_; have B_4 := (B_3).past h4_; have Z_4 := (Z_3).past h4_; have S_4 := pt (S_3) h4_; clear A_3 B_3 Z_3 S_3 Ac0 Ac1 Al Bc0 Bc1 Bl Zc0 Zc1 Zl; have Ac0 := A_4.cellAt 0 rfl; have Ac1 := A_4.cellAt 1 rfl; have Al := A_4.lt; have Bc0 := B_4.cellAt 0 rfl; have Bc1 := B_4.cellAt 1 rfl; have Bl := B_4.lt; have Zc0 := Z_4.cellAt 0 rfl; have Zc1 := Z_4.cellAt 1 rfl; have Zl := Z_4.lt)
    | (go_at_call 24; (with_reducible refine (HA.out _).mono ?_); rintro e w5_ ⟨rfl, h5_⟩; have A_5 := (A_4).past h5_; have B_5 := (B_4).past h5_; have Z_5 := (Z_4).past h5_; have S_5 := pt (S_4) h5_; clear A_4 B_4 Z_4 S_4 Ac0 Ac1 Al Bc0 Bc1 Bl Zc0 Zc1 Zl; have Ac0 := A_5.cellAt 0 rfl; have Ac1 := A_5.cellAt 1 rfl; have Al := A_5.lt; have Bc0 := B_5.cellAt 0 rfl; have Bc1 := B_5.cellAt 1 rfl; have Bl := B_5.lt; have Zc0 := Z_5.cellAt 0 rfl; have Zc1 := Z_5.cellAt 1 rfl; have Zl := Z_5.lt)
    | (go_at_call 24; (with_reducible refine (HB.out _).mono ?_); rintro e w6_ ⟨rfl, h6_⟩; have A_6 := (A_5).past h6_; have B_6 := (B_5).past h6_; have Z_6 := (Z_5).past h6_; have S_6 := pt (S_5) h6_; clear A_5 B_5 Z_5 S_5 Ac0 Ac1 Al Bc0 Bc1 Bl Zc0 Zc1 Zl; have Ac0 := A_6.cellAt 0 rfl; have Ac1 := A_6.cellAt 1 rfl; have Al := A_6.lt; have Bc0 := B_6.cellAt 0 rfl; have Bc1 := B_6.cellAt 1 rfl; have Bl := B_6.lt; have Zc0 := Z_6.cellAt 0 rfl; have Zc1 := Z_6.cellAt 1 rfl; have Zl := Z_6.lt))
  refine region_below 26 follows_mixed (by kernel_rfl) ?_
  intro C hC
  simp only [List.take_succ_cons, List.take_zero, List.drop_succ_cons, List.drop_zero]
  repeat (first
    | ((with_reducible refine quiet_plain rfl (fun K hK => ?_)); (focus (apply quiet_val; (focus (intro w' hw; obtain ⟨hcq, hfq⟩ := bcell ((hC.out _).1 hw); go_simp; (first | done | rfl | (with_reducible exact call_below hC hw (RC.out _))))); (simp only [Act.put, List.setIfInBounds_toArray, List.set_cons_succ, List.set_cons_zero]); (with_reducible refine hK _ ?_); clear hK K)))
    | ((with_reducible refine quiet_skip ?_ ?_); (focus (first | (simp [Region.wanted, yielded]; done) | (simp [Region.wanted, yielded, undef]; done))); simp only [Act.put, List.setIfInBounds_toArray, List.set_cons_succ, List.set_cons_zero])
    | ((with_reducible refine quiet_go ?_ (fun K hK => ?_)); (focus (first | (simp [Region.wanted, yielded]; done) | (simp [Region.wanted, yielded, undef]; done))); (focus (apply quiet_val; (focus (intro w' hw; obtain ⟨hcq, hfq⟩ := bcell ((hC.out _).1 hw); go_simp; (first | done | rfl | (with_reducible exact call_below hC hw (RC.out _))))); (simp only [Act.put, List.setIfInBounds_toArray, List.set_cons_succ, List.set_cons_zero]); (with_reducible refine hK _ ?_); clear hK K))))
  refine wpQuiet_nil ?_
  intro w1 hb1
  replace hb1 := (hC.out _).1 hb1
  clear hC C
  obtain ⟨hc1, hf1⟩ := bcell hb1
  have A_7 := (A_6).past hb1
  have B_7 := (B_6).past hb1
  have Z_7 := (Z_6).past hb1
  have S_7 := pt (S_6) hb1
  clear A_6 B_6 Z_6 S_6 Ac0 Ac1 Al Bc0 Bc1 Bl Zc0 Zc1 Zl
  have Ac0 := A_7.cellAt 0 rfl
  have Ac1 := A_7.cellAt 1 rfl
  have Al := A_7.lt
  have Bc0 := B_7.cellAt 0 rfl
  have Bc1 := B_7.cellAt 1 rfl
  have Bl := B_7.lt
  have Zc0 := Z_7.cellAt 0 rfl
  have Zc1 := Z_7.cellAt 1 rfl
  have Zl := Z_7.lt
  clear hb1 hc1 hf1
  obtain ⟨w7_, rfl⟩ : ∃ v, v = w1 := ⟨_, rfl⟩
  go_wp2_with (first
    | (go_at_call 26; (with_reducible refine (RH.out _).mono ?_); rintro e w8_ ⟨rfl, h8_⟩; have A_8 := (A_7).past h8_; have B_8 := (B_7).past h8_; have Z_8 := (Z_7).past h8_; have S_8 := pt (S_7) h8_; clear A_7 B_7 Z_7 S_7 Ac0 Ac1 Al Bc0 Bc1 Bl Zc0 Zc1 Zl; have Ac0 := A_8.cellAt 0 rfl; have Ac1 := A_8.cellAt 1 rfl; have Al := A_8.lt; have Bc0 := B_8.cellAt 0 rfl; have Bc1 := B_8.cellAt 1 rfl; have Bl := B_8.lt; have Zc0 := Z_8.cellAt 0 rfl; have Zc1 := Z_8.cellAt 1 rfl; have Zl := Z_8.lt)
    | (go_at_call 27; (with_reducible refine (RS.out _).mono ?_); rintro e w9_ ⟨rfl, h9_⟩; have A_9 := (A_8).past h9_; have B_9 := (B_8).past h9_; have Z_9 := (Z_8).past h9_; have S_9 := pt (S_8) h9_; clear A_8 B_8 Z_8 S_8 Ac0 Ac1 Al Bc0 Bc1 Bl Zc0 Zc1 Zl; have Ac0 := A_9.cellAt 0 rfl; have Ac1 := A_9.cellAt 1 rfl; have Al := A_9.lt; have Bc0 := B_9.cellAt 0 rfl; have Bc1 := B_9.cellAt 1 rfl; have Bl := B_9.lt; have Zc0 := Z_9.cellAt 0 rfl; have Zc1 := Z_9.cellAt 1 rfl; have Zl := Z_9.lt)
    | (go_at_call 28; (with_reducible refine (Z1.out _).mono ?_); rintro e w' ⟨rfl, rfl⟩)
    | (go_at_call 28; (with_reducible refine (Z2.out _).mono ?_); rintro e w' ⟨rfl, rfl⟩)
    | (go_at_call 28; (with_reducible refine (Z3.out _).mono ?_); rintro e w' ⟨rfl, rfl⟩)
    | (go_at_call 28; (with_reducible refine (Z4.out _).mono ?_); rintro e w' ⟨rfl, rfl⟩)
    | (go_at_call 22; (with_reducible refine (HSb.out _).mono ?_); rintro e w14_ ⟨rfl, h14_⟩; have A_14 := (A_9).past h14_; have B_14 := (B_9).past h14_; have Z_14 := (Z_9).past h14_; have S_14 := pt (S_9) h14_; clear A_9 B_9 Z_9 S_9 Ac0 Ac1 Al Bc0 Bc1 Bl Zc0 Zc1 Zl; have Ac0 := A_14.cellAt 0 rfl; have Ac1 := A_14.cellAt 1 rfl; have Al := A_14.lt; have Bc0 := B_14.cellAt 0 rfl; have Bc1 := B_14.cellAt 1 rfl; have Bl := B_14.lt; have Zc0 := Z_14.cellAt 0 rfl; have Zc1 := Z_14.cellAt 1 rfl; have Zl := Z_14.lt)
    | (go_at_call 22; (with_reducible refine (HSz.out _).mono ?_); rintro e w15_ ⟨rfl, h15_⟩; have A_15 := (A_14).past h15_; have B_15 := (B_14).past h15_; have Z_15 := (Z_14).past h15_; have S_15 := pt (S_14) h15_; clear A_14 B_14 Z_14 S_14 Ac0 Ac1 Al Bc0 Bc1 Bl Zc0 Zc1 Zl; have Ac0 := A_15.cellAt 0 rfl; have Ac1 := A_15.cellAt 1 rfl; have Al := A_15.lt; have Bc0 := B_15.cellAt 0 rfl; have Bc1 := B_15.cellAt 1 rfl; have Bl := B_15.lt; have Zc0 := Z_15.cellAt 0 rfl; have Zc1 := Z_15.cellAt 1 rfl; have Zl := Z_15.lt)
    | (go_at_call 23; (with_reducible refine (HHb.out _ (HT.out _ (S_15))).mono ?_); rintro e w16_ ⟨rfl, h16_⟩; have A_16 := (A_15).past h16_; have B_16 := (B_15).past h16_; have Z_16 := (Z_15).past h16_; have S_16 := pt (S_15) h16_; clear A_15 B_15 Z_15 S_15 Ac0 Ac1 Al Bc0 Bc1 Bl Zc0 Zc1 Zl; have Ac0 := A_16.cellAt 0 rfl; have Ac1 := A_16.cellAt 1 rfl; have Al := A_16.lt; have Bc0 := B_16.cellAt 0 rfl; have Bc1 := B_16.cellAt 1 rfl; have Bl := B_16.lt; have Zc0 := Z_16.cellAt 0 rfl; have Zc1 := Z_16.cellAt 1 rfl; have Zl := Z_16.lt)
    | (go_at_call 23; (with_reducible refine (HHz.out _ (HT.out _ (S_16))).mono ?_); rintro e w17_ ⟨rfl, h17_⟩; have A_17 := (A_16).past h17_; have B_17 := (B_16).past h17_; have Z_17 := (Z_16).past h17_; have S_17 := pt (S_16) h17_; clear A_16 B_16 Z_16 S_16 Ac0 Ac1 Al Bc0 Bc1 Bl Zc0 Zc1 Zl; have Ac0 := A_17.cellAt 0 rfl; have Ac1 := A_17.cellAt 1 rfl; have Al := A_17.lt; have Bc0 := B_17.cellAt 0 rfl; have Bc1 := B_17.cellAt 1 rfl; have Bl := B_17.lt; have Zc0 := Z_17.cellAt 0 rfl; have Zc1 := Z_17.cellAt 1 rfl; have Zl := Z_17.lt)
    | (go_at_call 29; (with_reducible refine (HM.out _).mono ?_); rintro e w' ⟨rfl, rfl⟩))
  go_ret
  exact ⟨rfl, by repeat (first | exact S_17 | refine pa ?_)⟩

theorem phasors_walk (p q r s : Int) (w : World) (hT : TwIn w) (hP : PatIn w) :
    Calls Tryd.prog 5 #[.agg #[.int .i64 p, .int .i64 q], .agg #[.int .i64 r, .int .i64 s]] w fun e w' => e = .returned (.bool true) ∧ Below w.heap.size w w' := by
  rcases phE_cases p q with e1 | ⟨e1, _⟩
  · rcases phE_cases r s with e2 | ⟨e2, _⟩
    · by_cases c0 : 1000 < (p.natAbs : Int)
      · exact phasors_c0 p q r s e1 e2 c0 w hT hP
      by_cases c1 : 1000 < (q.natAbs : Int)
      · exact phasors_c1 p q r s e1 e2 c0 c1 w hT hP
      by_cases c2 : 300 < (r.natAbs : Int)
      · exact phasors_c2 p q r s e1 e2 c0 c1 c2 w hT hP
      by_cases c3 : 300 < (s.natAbs : Int)
      · exact phasors_c3 p q r s e1 e2 c0 c1 c2 c3 w hT hP
      rcases hoursE_cases p q with h1 | h1
      · rcases hoursE_cases r s with h2 | h2
        · exact phasors_d2 p q r s e1 e2 c0 c1 c2 c3 h1 h2 w hT hP
        · exact phasors_d1 p q r s e1 e2 c0 c1 c2 c3 h1 h2 w hT hP
      · exact phasors_d0 p q r s e1 e2 c0 c1 c2 c3 h1 w hT hP
    · exact phasors_b p q r s e1 e2 w hT hP
  · exact phasors_a p q r s e1 w hT hP

end Go.Proofs.YtnhcamokcggnkaaDoor
