/- Contracts: exported functions on phasors: products, squares, hours; the zero voltage; the sequence. -/
import Derived.Test.YtnhcamokcggnkaaDoorGFCur
import Derived.Test.YtnhcamokcggnkaaDoorGEExp
namespace Go.Proofs.YtnhcamokcggnkaaDoor
open Go.RowKit
attribute [local go_sem ↓] Go.wp_at_zero Go.wp_at_succ

theorem apiph_eql (p q r s : Int) (W : World) : (binOp .eql 48 (.agg #[.int .i64 p, .int .i64 q]) (.agg #[.int .i64 r, .int .i64 s])).run Tryd.prog W = .ok (.bool (phB p q r s)) W := by
  simp [go_sem, phB]
  by_cases h1 : p = r <;> by_cases h2 : q = s <;> simp [h1, h2]
theorem apiph_neq (p q r s : Int) (W : World) : (binOp .neq 48 (.agg #[.int .i64 p, .int .i64 q]) (.agg #[.int .i64 r, .int .i64 s])).run Tryd.prog W = .ok (.bool (!phB p q r s)) W := by
  simp [go_sem, phB]
  by_cases h1 : p = r <;> by_cases h2 : q = s <;> simp [h1, h2]
attribute [local go_sem ↓ high] apiph_eql apiph_neq ph_eql

set_option maxHeartbeats 2000000 in
set_option maxRecDepth 100000 in
theorem Product_err (p q r s : Int) (he : firstV [phE p q, phE r s] ≠ 0) (w : World) :
    Calls Tryd.prog 21 #[.agg #[.int .i64 p, .int .i64 q], .agg #[.int .i64 r, .int .i64 s]] w fun e w' => e = .returned (.tuple #[.agg #[.int .i64 0, .int .i64 0], .int .i64 (firstV [phE p q, phE r s])]) ∧ Below w.heap.size w w' := by
  have hne : (firstV [phE p q, phE r s] == 0) = false := by simpa using he
  generalize hE : firstV [phE p q, phE r s] = E at he hne ⊢
  have HE := Lib.hid hE
  clear he hE
  go_enter Tryd.func21, Tryd.ntmps21
  go_wp2
  refine region_below 4 follows_mixed (by kernel_rfl) ?_
  intro C hC
  simp only [List.take_succ_cons, List.take_zero, List.drop_succ_cons, List.drop_zero]
  repeat (first
    | ((with_reducible refine quiet_plain rfl (fun K hK => ?_)); (focus (apply quiet_val; (focus (intro w' hw; obtain ⟨hcq, hfq⟩ := bcell ((hC.out _).1 hw); go_simp; (first | done | rfl | (with_reducible exact call_below hC hw (phasorErr_any _ _ _))))); (simp only [Act.put, List.setIfInBounds_toArray, List.set_cons_succ, List.set_cons_zero]); (with_reducible refine hK _ ?_); clear hK K)))
    | ((with_reducible refine quiet_skip ?_ ?_); (focus (first | (simp [Region.wanted, yielded]; done) | (simp [Region.wanted, yielded, undef]; done))); simp only [Act.put, List.setIfInBounds_toArray, List.set_cons_succ, List.set_cons_zero])
    | ((with_reducible refine quiet_go ?_ (fun K hK => ?_)); (focus (first | (simp [Region.wanted, yielded]; done) | (simp [Region.wanted, yielded, undef]; done))); (focus (apply quiet_val; (focus (intro w' hw; obtain ⟨hcq, hfq⟩ := bcell ((hC.out _).1 hw); go_simp; (first | done | rfl | (with_reducible exact call_below hC hw (phasorErr_any _ _ _))))); (simp only [Act.put, List.setIfInBounds_toArray, List.set_cons_succ, List.set_cons_zero]); (with_reducible refine hK _ ?_); clear hK K))))
  refine wpQuiet_nil ?_
  intro w1 hb1
  replace hb1 := (hC.out _).1 hb1
  clear hC C
  obtain ⟨hc1, hf1⟩ := bcell hb1
  have R1 : Blk w1 (w.heap.size + 1 + 1) 48 #[.int .i64 0, .int .i64 0] := (Blk.newAt (by simp)).past hb1
  have S1 := pt (pa (pa (pa pr))) hb1
  clear hb1 hc1 hf1
  have r0 := R1.cellAt 0 rfl
  have r1 := R1.cellAt 1 rfl
  have s0 := R1.frozen 0
  have s1 := R1.frozen 1
  have rl := R1.lt
  go_wp2_with (go_at_call 56; refine (gfirst2 _ _ _ _ _ (by first | (go_simp; done) | (go_simp; rfl)) (by first | (go_simp; done) | (go_simp; rfl)) _ HE.out).mono ?_; rintro e w' ⟨rfl, rfl⟩)
  exact bodyPost_ret (v := .tuple #[.agg #[.int .i64 0, .int .i64 0], .int .i64 E]) (by simp [results, Tryd.results21, go_sem, r0, r1, rl]) rfl ⟨rfl, by repeat (first | exact S1 | refine pa ?_ | refine ps ?_ (by first | (simp; done) | (simp; omega)))⟩

set_option maxHeartbeats 2000000 in
set_option maxRecDepth 100000 in
theorem Product_ok (p q r s : Int) (h1 : phE p q = 0) (h2 : phE r s = 0) (w : World) :
    Calls Tryd.prog 21 #[.agg #[.int .i64 p, .int .i64 q], .agg #[.int .i64 r, .int .i64 s]] w fun e w' => e = .returned (.tuple #[.agg #[.int .i64 (mulP p q r s), .int .i64 (mulQ p q r s)], .int .i64 0]) ∧ Below w.heap.size w w' := by
  have HC := Lib.hid (times_any p q r s (phE_sm h1).1 (phE_sm h1).2 (phE_sm h2).1 (phE_sm h2).2)
  have HE := Lib.hid (show firstV [phE p q, phE r s] = 0 by rw [h1, h2]; rfl)
  generalize mulP p q r s = x at *
  generalize mulQ p q r s = y at *
  clear h1 h2
  go_enter Tryd.func21, Tryd.ntmps21
  go_wp2
  refine region_below 4 follows_mixed (by kernel_rfl) ?_
  intro C hC
  simp only [List.take_succ_cons, List.take_zero, List.drop_succ_cons, List.drop_zero]
  repeat (first
    | ((with_reducible refine quiet_plain rfl (fun K hK => ?_)); (focus (apply quiet_val; (focus (intro w' hw; obtain ⟨hcq, hfq⟩ := bcell ((hC.out _).1 hw); go_simp; (first | done | rfl | (with_reducible exact call_below hC hw (phasorErr_any _ _ _))))); (simp only [Act.put, List.setIfInBounds_toArray, List.set_cons_succ, List.set_cons_zero]); (with_reducible refine hK _ ?_); clear hK K)))
    | ((with_reducible refine quiet_skip ?_ ?_); (focus (first | (simp [Region.wanted, yielded]; done) | (simp [Region.wanted, yielded, undef]; done))); simp only [Act.put, List.setIfInBounds_toArray, List.set_cons_succ, List.set_cons_zero])
    | ((with_reducible refine quiet_go ?_ (fun K hK => ?_)); (focus (first | (simp [Region.wanted, yielded]; done) | (simp [Region.wanted, yielded, undef]; done))); (focus (apply quiet_val; (focus (intro w' hw; obtain ⟨hcq, hfq⟩ := bcell ((hC.out _).1 hw); go_simp; (first | done | rfl | (with_reducible exact call_below hC hw (phasorErr_any _ _ _))))); (simp only [Act.put, List.setIfInBounds_toArray, List.set_cons_succ, List.set_cons_zero]); (with_reducible refine hK _ ?_); clear hK K))))
  refine wpQuiet_nil ?_
  intro w1 hb1
  replace hb1 := (hC.out _).1 hb1
  clear hC C
  obtain ⟨hc1, hf1⟩ := bcell hb1
  have P1 : Blk w1 w.heap.size 48 #[.int .i64 p, .int .i64 q] := (Blk.newAt rfl).alloc.alloc.past hb1
  have Q1 : Blk w1 (w.heap.size + 1) 48 #[.int .i64 r, .int .i64 s] := (Blk.newAt (by simp)).alloc.past hb1
  have R1 : Blk w1 (w.heap.size + 1 + 1) 48 #[.int .i64 0, .int .i64 0] := (Blk.newAt (by simp)).past hb1
  have S1 := pt (pa (pa (pa pr))) hb1
  clear hb1 hc1 hf1
  have p0 := P1.cellAt 0 rfl
  have p1 := P1.cellAt 1 rfl
  have pl := P1.lt
  have q0 := Q1.cellAt 0 rfl
  have q1 := Q1.cellAt 1 rfl
  have ql := Q1.lt
  go_wp2_with (first
    | (go_at_call 56; refine (gfirst2 _ _ _ _ _ (by first | (go_simp; done) | (go_simp; rfl)) (by first | (go_simp; done) | (go_simp; rfl)) _ HE.out).mono ?_; rintro e w' ⟨rfl, rfl⟩)
    | (go_at_call 67; refine (HC.out _).mono ?_; rintro e w2 ⟨rfl, hb2⟩; have R2 := R1.alloc.past hb2; have S2 := pt (pa S1) hb2; have r0 := R2.cellAt 0 rfl; have r1 := R2.cellAt 1 rfl; have s0 := R2.frozen 0; have s1 := R2.frozen 1; have rl := R2.lt))
  exact bodyPost_ret (v := .tuple #[.agg #[.int .i64 x, .int .i64 y], .int .i64 0]) (by simp [results, Tryd.results21, go_sem, r0, r1]) rfl ⟨rfl, by repeat (first | exact S2 | refine pa ?_ | refine ps ?_ (by first | (simp; done) | (simp; omega)))⟩

set_option maxHeartbeats 2000000 in
theorem SquareOf_any (p q : Int) (w : World) :
    Calls Tryd.prog 22 #[.agg #[.int .i64 p, .int .i64 q]] w fun e w' => e = .returned (.tuple #[.int .i64 (if phE p q = 0 then sqV p q else 0), .int .i64 (phE p q)]) ∧ Below w.heap.size w w' := by
  have HC := Lib.hid (phasorErr_any p q)
  rcases phE_cases p q with h | ⟨h, _⟩
  · have HQ := Lib.hid (square_any p q (phE_sm h).1 (phE_sm h).2)
    rw [h, if_pos rfl]
    rw [h] at HC
    clear h
    generalize sqV p q = x at *
    go_enter Tryd.func22, Tryd.ntmps22
    go_wp2_with (first
      | (go_at_call 66; refine (HC.out _).mono ?_; rintro e w1 ⟨rfl, hb1⟩; have P1 : Blk w1 w.heap.size 48 #[.int .i64 p, .int .i64 q] := (Blk.newAt rfl).past hb1; have p0 := P1.cellAt 0 rfl; have p1 := P1.cellAt 1 rfl; have pl := P1.lt)
      | (go_at_call 68; refine (HQ.out _).mono ?_; rintro e w2 ⟨rfl, hb2⟩))
    go_ret2
    exact ⟨rfl, pt (pt (pa pr) hb1) hb2⟩
  · rw [h, if_neg (by decide)]
    rw [h] at HC
    clear h
    go_enter Tryd.func22, Tryd.ntmps22
    go_wp2_with (go_at_call 66; refine (HC.out _).mono ?_; rintro e w1 ⟨rfl, hb1⟩)
    go_ret2
    exact ⟨rfl, pt (pa pr) hb1⟩

def hourE (p q : Int) : Int := firstV [phE p q, unlessV (!phB p q 0 0) 11]
set_option maxHeartbeats 2000000 in
set_option maxRecDepth 100000 in
theorem HoursOf_err (p q : Int) (he : hourE p q ≠ 0) (w : World) :
    Calls Tryd.prog 23 #[.agg #[.int .i64 p, .int .i64 q]] w fun e w' => e = .returned (.tuple #[.int .i64 0, .int .i64 (hourE p q)]) ∧ Below w.heap.size w w' := by
  have hne : (hourE p q == 0) = false := by simpa using he
  have HE := Lib.hid (show firstV [phE p q, unlessV (!phB p q 0 0) 11] = hourE p q from rfl)
  generalize hourE p q = E at *
  clear he
  go_enter Tryd.func23, Tryd.ntmps23
  go_wp2
  refine region_below 6 follows_mixed (by kernel_rfl) ?_
  intro C hC
  simp only [List.take_succ_cons, List.take_zero, List.drop_succ_cons, List.drop_zero]
  repeat (first
    | ((with_reducible refine quiet_plain rfl (fun K hK => ?_)); (focus (apply quiet_val; (focus (intro w' hw; obtain ⟨hcq, hfq⟩ := bcell ((hC.out _).1 hw); go_simp; (first | done | rfl | (with_reducible exact call_below hC hw (phasorErr_any _ _ _)) | (with_reducible exact call_same hw (unless_any _ _ _))))); (simp only [Act.put, List.setIfInBounds_toArray, List.set_cons_succ, List.set_cons_zero]); (with_reducible refine hK _ ?_); clear hK K)))
    | ((with_reducible refine quiet_skip ?_ ?_); (focus (first | (simp [Region.wanted, yielded]; done) | (simp [Region.wanted, yielded, undef]; done))); simp only [Act.put, List.setIfInBounds_toArray, List.set_cons_succ, List.set_cons_zero])
    | ((with_reducible refine quiet_go ?_ (fun K hK => ?_)); (focus (first | (simp [Region.wanted, yielded]; done) | (simp [Region.wanted, yielded, undef]; done))); (focus (apply quiet_val; (focus (intro w' hw; obtain ⟨hcq, hfq⟩ := bcell ((hC.out _).1 hw); go_simp; (first | done | rfl | (with_reducible exact call_below hC hw (phasorErr_any _ _ _)) | (with_reducible exact call_same hw (unless_any _ _ _))))); (simp only [Act.put, List.setIfInBounds_toArray, List.set_cons_succ, List.set_cons_zero]); (with_reducible refine hK _ ?_); clear hK K))))
  refine wpQuiet_nil ?_
  intro w1 hb1
  replace hb1 := (hC.out _).1 hb1
  clear hC C
  obtain ⟨hc1, hf1⟩ := bcell hb1
  have S1 := pt (pa pr) hb1
  clear hb1 hc1 hf1
  go_wp2_with (go_at_call 56; refine (gfirst2 _ _ _ _ _ (by first | (go_simp; done) | (go_simp; rfl)) (by first | (go_simp; done) | (go_simp; rfl)) _ HE.out).mono ?_; rintro e w' ⟨rfl, rfl⟩)
  go_ret2
  exact ⟨rfl, pa S1⟩
set_option maxHeartbeats 2000000 in
set_option maxRecDepth 100000 in
theorem HoursOf_ok (p q : Int) (he : hourE p q = 0) (w : World) (hT : TwIn w) :
    Calls Tryd.prog 23 #[.agg #[.int .i64 p, .int .i64 q]] w fun e w' => e = .returned (.tuple #[.int .i64 ((hoursV p q).getD 0), .int .i64 (unlessV (hoursV p q).isSome 12)]) ∧ Below w.heap.size w w' := by
  obtain ⟨h1, h2⟩ := firstV_zero.1 (show firstV [phE p q, unlessV (!phB p q 0 0) 11] = 0 from he)
  have HH := Lib.hid (hour_any p q (phE_sm h1).1 (phE_sm h1).2)
  have HT := Lib.hid (fun w' (h : Below w.heap.size w w') => hT.below h)
  have HE := Lib.hid (show firstV [phE p q, unlessV (!phB p q 0 0) 11] = 0 from he)
  generalize (hoursV p q).getD 0 = x at *
  generalize (hoursV p q).isSome = y at *
  clear he h1 h2 hT
  go_enter Tryd.func23, Tryd.ntmps23
  go_wp2
  refine region_below 6 follows_mixed (by kernel_rfl) ?_
  intro C hC
  simp only [List.take_succ_cons, List.take_zero, List.drop_succ_cons, List.drop_zero]
  repeat (first
    | ((with_reducible refine quiet_plain rfl (fun K hK => ?_)); (focus (apply quiet_val; (focus (intro w' hw; obtain ⟨hcq, hfq⟩ := bcell ((hC.out _).1 hw); go_simp; (first | done | rfl | (with_reducible exact call_below hC hw (phasorErr_any _ _ _)) | (with_reducible exact call_same hw (unless_any _ _ _))))); (simp only [Act.put, List.setIfInBounds_toArray, List.set_cons_succ, List.set_cons_zero]); (with_reducible refine hK _ ?_); clear hK K)))
    | ((with_reducible refine quiet_skip ?_ ?_); (focus (first | (simp [Region.wanted, yielded]; done) | (simp [Region.wanted, yielded, undef]; done))); simp only [Act.put, List.setIfInBounds_toArray, List.set_cons_succ, List.set_cons_zero])
    | ((with_reducible refine quiet_go ?_ (fun K hK => ?_)); (focus (first | (simp [Region.wanted, yielded]; done) | (simp [Region.wanted, yielded, undef]; done))); (focus (apply quiet_val; (focus (intro w' hw; obtain ⟨hcq, hfq⟩ := bcell ((hC.out _).1 hw); go_simp; (first | done | rfl | (with_reducible exact call_below hC hw (phasorErr_any _ _ _)) | (with_reducible exact call_same hw (unless_any _ _ _))))); (simp only [Act.put, List.setIfInBounds_toArray, List.set_cons_succ, List.set_cons_zero]); (with_reducible refine hK _ ?_); clear hK K))))
  refine wpQuiet_nil ?_
  intro w1 hb1
  replace hb1 := (hC.out _).1 hb1
  clear hC C
  obtain ⟨hc1, hf1⟩ := bcell hb1
  have P1 : Blk w1 w.heap.size 48 #[.int .i64 p, .int .i64 q] := (Blk.newAt rfl).past hb1
  have S1 := pt (pa pr) hb1
  clear hb1 hc1 hf1
  have p0 := P1.cellAt 0 rfl
  have p1 := P1.cellAt 1 rfl
  have pl := P1.lt
  go_wp2_with (first
    | (go_at_call 56; refine (gfirst2 _ _ _ _ _ (by first | (go_simp; done) | (go_simp; rfl)) (by first | (go_simp; done) | (go_simp; rfl)) _ HE.out).mono ?_; rintro e w' ⟨rfl, rfl⟩)
    | (go_at_call 69; refine (HH.out _ (HT.out _ (pa S1))).mono ?_; rintro e w2 ⟨rfl, hb2⟩)
    | (go_at_call 57; refine (unless_any _ _ _).mono ?_; rintro e w' ⟨rfl, rfl⟩))
  go_ret2
  exact ⟨rfl, pt (pa S1) hb2⟩

end Go.Proofs.YtnhcamokcggnkaaDoor
