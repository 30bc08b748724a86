/- Contracts: exported functions on phasors: products, squares, hours; the zero voltage; the sequence. -/
import Derived.Test.YtnhcamokcggnkaaGreatDoorGFCur
import Derived.Test.YtnhcamokcggnkaaGreatDoorGEExp
namespace Go.Proofs.YtnhcamokcggnkaaGreatDoor
open Go.RowKit
attribute [local go_sem ↓] Go.wp_at_zero Go.wp_at_succ

theorem apiph_eql (p q r s : Int) (W : World) : (binOp .eql 47 (.agg #[.int .i64 p, .int .i64 q]) (.agg #[.int .i64 r, .int .i64 s])).run Tryz.prog W = .ok (.bool (phB p q r s)) W := by
  simp [go_sem, phB]
  by_cases h1 : p = r <;> by_cases h2 : q = s <;> simp [h1, h2]
theorem apiph_neq (p q r s : Int) (W : World) : (binOp .neq 47 (.agg #[.int .i64 p, .int .i64 q]) (.agg #[.int .i64 r, .int .i64 s])).run Tryz.prog W = .ok (.bool (!phB p q r s)) W := by
  simp [go_sem, phB]
  by_cases h1 : p = r <;> by_cases h2 : q = s <;> simp [h1, h2]
attribute [local go_sem ↓ high] apiph_eql apiph_neq ph_eql

def hourE (p q : Int) : Int := firstV [phE p q, unlessV (!phB p q 0 0) 11]
set_option maxHeartbeats 2000000 in
set_option maxRecDepth 100000 in
theorem HoursOf_err (p q : Int) (he : hourE p q ≠ 0) (w : World) :
    Calls Tryz.prog 39 #[.agg #[.int .i64 p, .int .i64 q]] w fun e w' => e = .returned (.tuple #[.int .i64 0, .int .i64 (hourE p q)]) ∧ Below w.heap.size w w' := by
  have hne : (hourE p q == 0) = false := by simpa using he
  have HE := Lib.hid (show firstV [phE p q, unlessV (!phB p q 0 0) 11] = hourE p q from rfl)
  generalize hourE p q = E at *
  clear he
  go_enter Tryz.func39, Tryz.ntmps39
  go_wp2
  refine region_below 6 follows_mixed (by kernel_rfl) ?_
  intro C hC
  simp only [List.take_succ_cons, List.take_zero, List.drop_succ_cons, List.drop_zero]
  repeat (first
    | ((with_reducible refine quiet_plain rfl (fun K hK => ?_)); (focus (apply quiet_val; (focus (intro w' hw; obtain ⟨hcq, hfq⟩ := bcell ((hC.out _).1 hw); go_simp; (first | done | rfl | (with_reducible exact call_below hC hw (phasorErr_any _ _ _)) | (with_reducible exact call_same hw (unless_any _ _ _))))); (simp only [Act.put, List.setIfInBounds_toArray, List.set_cons_succ, List.set_cons_zero]); (with_reducible refine hK _ ?_); clear hK K)))
    | ((with_reducible refine quiet_skip ?_ ?_); (focus (first | (simp [Region.wanted, yielded]; done) | (simp [Region.wanted, yielded, undef]; done))); simp only [Act.put, List.setIfInBounds_toArray, List.set_cons_succ, List.set_cons_zero])
    | ((with_reducible refine quiet_go ?_ (fun K hK => ?_)); (focus (first | (simp [Region.wanted, yielded]; done) | (simp [Region.wanted, yielded, undef]; done))); (focus (apply quiet_val; (focus (intro w' hw; obtain ⟨hcq, hfq⟩ := bcell ((hC.out _).1 hw); go_simp; (first | done | rfl | (with_reducible exact call_below hC hw (phasorErr_any _ _ _)) | (with_reducible exact call_same hw (unless_any _ _ _))))); (simp only [Act.put, List.setIfInBounds_toArray, List.set_cons_succ, List.set_cons_zero]); (with_reducible refine hK _ ?_); clear hK K))))
  refine wpQuiet_nil ?_
  intro w1 hb1
  replace hb1 := (hC.out _).1 hb1
  clear hC C
  obtain ⟨hc1, hf1⟩ := bcell hb1
  have S1 := pt (pa pr) hb1
  clear hb1 hc1 hf1
  go_wp2_with (go_at_call 48; refine (gfirst2 _ _ _ _ _ (by first | (go_simp; done) | (go_simp; rfl)) (by first | (go_simp; done) | (go_simp; rfl)) _ HE.out).mono ?_; rintro e w' ⟨rfl, rfl⟩)
  go_ret2
  exact ⟨rfl, pa S1⟩
set_option maxHeartbeats 2000000 in
set_option maxRecDepth 100000 in
theorem HoursOf_ok (p q : Int) (he : hourE p q = 0) (w : World) (hT : TwIn w) :
    Calls Tryz.prog 39 #[.agg #[.int .i64 p, .int .i64 q]] w fun e w' => e = .returned (.tuple #[.int .i64 ((hoursV p q).getD 0), .int .i64 (unlessV (hoursV p q).isSome 12)]) ∧ Below w.heap.size w w' := by
  obtain ⟨h1, h2⟩ := firstV_zero.1 (show firstV [phE p q, unlessV (!phB p q 0 0) 11] = 0 from he)
  have HH := Lib.hid (hour_any p q (phE_sm h1).1 (phE_sm h1).2)
  have HT := Lib.hid (fun w' (h : Below w.heap.size w w') => hT.below h)
  have HE := Lib.hid (show firstV [phE p q, unlessV (!phB p q 0 0) 11] = 0 from he)
  generalize (hoursV p q).getD 0 = x at *
  generalize (hoursV p q).isSome = y at *
  clear he h1 h2 hT
  go_enter Tryz.func39, Tryz.ntmps39
  go_wp2
  refine region_below 6 follows_mixed (by kernel_rfl) ?_
  intro C hC
  simp only [List.take_succ_cons, List.take_zero, List.drop_succ_cons, List.drop_zero]
  repeat (first
    | ((with_reducible refine quiet_plain rfl (fun K hK => ?_)); (focus (apply quiet_val; (focus (intro w' hw; obtain ⟨hcq, hfq⟩ := bcell ((hC.out _).1 hw); go_simp; (first | done | rfl | (with_reducible exact call_below hC hw (phasorErr_any _ _ _)) | (with_reducible exact call_same hw (unless_any _ _ _))))); (simp only [Act.put, List.setIfInBounds_toArray, List.set_cons_succ, List.set_cons_zero]); (with_reducible refine hK _ ?_); clear hK K)))
    | ((with_reducible refine quiet_skip ?_ ?_); (focus (first | (simp [Region.wanted, yielded]; done) | (simp [Region.wanted, yielded, undef]; done))); simp only [Act.put, List.setIfInBounds_toArray, List.set_cons_succ, List.set_cons_zero])
    | ((with_reducible refine quiet_go ?_ (fun K hK => ?_)); (focus (first | (simp [Region.wanted, yielded]; done) | (simp [Region.wanted, yielded, undef]; done))); (focus (apply quiet_val; (focus (intro w' hw; obtain ⟨hcq, hfq⟩ := bcell ((hC.out _).1 hw); go_simp; (first | done | rfl | (with_reducible exact call_below hC hw (phasorErr_any _ _ _)) | (with_reducible exact call_same hw (unless_any _ _ _))))); (simp only [Act.put, List.setIfInBounds_toArray, List.set_cons_succ, List.set_cons_zero]); (with_reducible refine hK _ ?_); clear hK K))))
  refine wpQuiet_nil ?_
  intro w1 hb1
  replace hb1 := (hC.out _).1 hb1
  clear hC C
  obtain ⟨hc1, hf1⟩ := bcell hb1
  have P1 : Blk w1 w.heap.size 47 #[.int .i64 p, .int .i64 q] := (Blk.newAt rfl).past hb1
  have S1 := pt (pa pr) hb1
  clear hb1 hc1 hf1
  have p0 := P1.cellAt 0 rfl
  have p1 := P1.cellAt 1 rfl
  have pl := P1.lt
  go_wp2_with (first
    | (go_at_call 48; refine (gfirst2 _ _ _ _ _ (by first | (go_simp; done) | (go_simp; rfl)) (by first | (go_simp; done) | (go_simp; rfl)) _ HE.out).mono ?_; rintro e w' ⟨rfl, rfl⟩)
    | (go_at_call 90; refine (HH.out _ (HT.out _ (pa S1))).mono ?_; rintro e w2 ⟨rfl, hb2⟩)
    | (go_at_call 49; refine (unless_any _ _ _).mono ?_; rintro e w' ⟨rfl, rfl⟩))
  go_ret2
  exact ⟨rfl, pt (pa S1) hb2⟩

end Go.Proofs.YtnhcamokcggnkaaGreatDoor
