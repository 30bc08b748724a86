/- Contracts: the zero voltage of a winding; the sequence of lines; the specification's zero voltage. -/
import Derived.Test.YtnhcamokcggnkaaDoorGRExp
namespace Go.Proofs.YtnhcamokcggnkaaDoor
open Go.RowKit
attribute [local go_sem ↓] Go.wp_at_zero Go.wp_at_succ
attribute [local go_sem ↓ high] apiph_eql apiph_neq ph_eql

def zeroE (k t s : Int) : Int := firstV [windE k t s, unlessV (k != 1) 12]
set_option maxHeartbeats 2000000 in
set_option maxRecDepth 100000 in
theorem ZeroOf_err (k t s : Int) (r : Bool) (he : zeroE k t s ≠ 0) (w : World) :
    Calls Tryd.prog 17 #[.agg #[.int .i64 k, .int .i64 t, .int .i64 s, .bool r]] w fun e w' => e = .returned (.tuple #[.int .i64 0, .int .i64 (zeroE k t s)]) ∧ Below w.heap.size w w' := by
  have hne : (zeroE k t s == 0) = false := by simpa using he
  have HE := Lib.hid (show firstV [windE k t s, unlessV (k != 1) 12] = zeroE k t s from rfl)
  generalize zeroE k t s = E at *
  clear he
  cases hb : (k != 1)
  all_goals
    rw [hb] at HE
    go_enter Tryd.func17, Tryd.ntmps17
    go_wp2
    refine region_below 6 follows_mixed (by kernel_rfl) ?_
    intro C hC
    simp only [List.take_succ_cons, List.take_zero, List.drop_succ_cons, List.drop_zero]
    repeat (first
      | ((with_reducible refine quiet_plain rfl (fun K hK => ?_)); (focus (apply quiet_val; (focus (intro w' hw; obtain ⟨hcq, hfq⟩ := bcell ((hC.out _).1 hw); go_simp; (first | done | rfl | (with_reducible exact call_below hC hw (checkWinding_any _ _ _ _ _)) | (with_reducible exact call_same hw (unless_any _ _ _))))); (simp only [Act.put, List.setIfInBounds_toArray, List.set_cons_succ, List.set_cons_zero]); (with_reducible refine hK _ ?_); clear hK K)))
      | ((with_reducible refine quiet_skip ?_ ?_); (focus (first | (simp [Region.wanted, yielded]; done) | (simp [Region.wanted, yielded, undef]; done))); simp only [Act.put, List.setIfInBounds_toArray, List.set_cons_succ, List.set_cons_zero])
      | ((with_reducible refine quiet_go ?_ (fun K hK => ?_)); (focus (first | (simp [Region.wanted, yielded]; done) | (simp [Region.wanted, yielded, undef]; done))); (focus (apply quiet_val; (focus (intro w' hw; obtain ⟨hcq, hfq⟩ := bcell ((hC.out _).1 hw); go_simp; (first | done | rfl | (with_reducible exact call_below hC hw (checkWinding_any _ _ _ _ _)) | (with_reducible exact call_same hw (unless_any _ _ _))))); (simp only [Act.put, List.setIfInBounds_toArray, List.set_cons_succ, List.set_cons_zero]); (with_reducible refine hK _ ?_); clear hK K))))
    refine wpQuiet_nil ?_
    intro w1 hb1
    replace hb1 := (hC.out _).1 hb1
    clear hC C
    obtain ⟨hc1, hf1⟩ := bcell hb1
    have S1 := pt (pa pr) hb1
    clear hb1 hc1 hf1
    go_wp2_with (go_at_call 56; refine (gfirst2 _ _ _ _ _ (by first | (go_simp; done) | (go_simp; rfl)) (by first | (go_simp; done) | (go_simp; rfl)) _ HE.out).mono ?_; rintro e w' ⟨rfl, rfl⟩)
    go_ret2
    exact ⟨rfl, pa S1⟩

set_option maxHeartbeats 2000000 in
set_option maxRecDepth 100000 in
theorem ZeroOf_s (t s : Int) (r : Bool) (he : windE 0 t s = 0) (w : World) :
    Calls Tryd.prog 17 #[.agg #[.int .i64 0, .int .i64 t, .int .i64 s, .bool r]] w fun e w' => e = .returned (.tuple #[.int .i64 (sgnT t r), .int .i64 0]) ∧ Below w.heap.size w w' := by
  have hu := windE_ok r he
  have HE := Lib.hid (show firstV [windE 0 t s, unlessV true 12] = 0 by rw [he]; rfl)
  have HS := Lib.hid (signed_any 0 t s r (by have := hu.2.2.1; have := hu.2.2.2.1; unfold Sm; dsimp only at *; omega))
  clear he hu
  go_enter Tryd.func17, Tryd.ntmps17
  go_wp2
  refine region_below 6 follows_mixed (by kernel_rfl) ?_
  intro C hC
  simp only [List.take_succ_cons, List.take_zero, List.drop_succ_cons, List.drop_zero]
  repeat (first
    | ((with_reducible refine quiet_plain rfl (fun K hK => ?_)); (focus (apply quiet_val; (focus (intro w' hw; obtain ⟨hcq, hfq⟩ := bcell ((hC.out _).1 hw); go_simp; (first | done | rfl | (with_reducible exact call_below hC hw (checkWinding_any _ _ _ _ _)) | (with_reducible exact call_same hw (unless_any _ _ _))))); (simp only [Act.put, List.setIfInBounds_toArray, List.set_cons_succ, List.set_cons_zero]); (with_reducible refine hK _ ?_); clear hK K)))
    | ((with_reducible refine quiet_skip ?_ ?_); (focus (first | (simp [Region.wanted, yielded]; done) | (simp [Region.wanted, yielded, undef]; done))); simp only [Act.put, List.setIfInBounds_toArray, List.set_cons_succ, List.set_cons_zero])
    | ((with_reducible refine quiet_go ?_ (fun K hK => ?_)); (focus (first | (simp [Region.wanted, yielded]; done) | (simp [Region.wanted, yielded, undef]; done))); (focus (apply quiet_val; (focus (intro w' hw; obtain ⟨hcq, hfq⟩ := bcell ((hC.out _).1 hw); go_simp; (first | done | rfl | (with_reducible exact call_below hC hw (checkWinding_any _ _ _ _ _)) | (with_reducible exact call_same hw (unless_any _ _ _))))); (simp only [Act.put, List.setIfInBounds_toArray, List.set_cons_succ, List.set_cons_zero]); (with_reducible refine hK _ ?_); clear hK K))))
  refine wpQuiet_nil ?_
  intro w1 hb1
  replace hb1 := (hC.out _).1 hb1
  clear hC C
  obtain ⟨hc1, hf1⟩ := bcell hb1
  have P1 : Blk w1 w.heap.size 23 #[.int .i64 0, .int .i64 t, .int .i64 s, .bool r] := (Blk.newAt rfl).past hb1
  have S1 := pt (pa pr) hb1
  clear hb1 hc1 hf1
  have p0 := P1.cellAt 0 rfl
  have p1 := P1.cellAt 1 rfl
  have p2 := P1.cellAt 2 rfl
  have p3 := P1.cellAt 3 rfl
  have pl := P1.lt
  go_wp2_with (first
    | (go_at_call 56; refine (gfirst2 _ _ _ _ _ (by first | (go_simp; done) | (go_simp; rfl)) (by first | (go_simp; done) | (go_simp; rfl)) _ HE.out).mono ?_; rintro e w' ⟨rfl, rfl⟩)
    | (go_at_call 64; refine (HS.out _).mono ?_; rintro e w2 ⟨rfl, hb2⟩))
  go_ret2
  exact ⟨rfl, by first | exact pa S1 | exact pt (pa S1) hb2⟩
set_option maxHeartbeats 2000000 in
set_option maxRecDepth 100000 in
theorem ZeroOf_z (t s : Int) (r : Bool) (he : windE 2 t s = 0) (w : World) :
    Calls Tryd.prog 17 #[.agg #[.int .i64 2, .int .i64 t, .int .i64 s, .bool r]] w fun e w' => e = .returned (.tuple #[.int .i64 0, .int .i64 0]) ∧ Below w.heap.size w w' := by
  have hu := windE_ok r he
  have HE := Lib.hid (show firstV [windE 2 t s, unlessV true 12] = 0 by rw [he]; rfl)
  have HS := Lib.hid (signed_any 2 t s r (by have := hu.2.2.1; have := hu.2.2.2.1; unfold Sm; dsimp only at *; omega))
  clear he hu
  go_enter Tryd.func17, Tryd.ntmps17
  go_wp2
  refine region_below 6 follows_mixed (by kernel_rfl) ?_
  intro C hC
  simp only [List.take_succ_cons, List.take_zero, List.drop_succ_cons, List.drop_zero]
  repeat (first
    | ((with_reducible refine quiet_plain rfl (fun K hK => ?_)); (focus (apply quiet_val; (focus (intro w' hw; obtain ⟨hcq, hfq⟩ := bcell ((hC.out _).1 hw); go_simp; (first | done | rfl | (with_reducible exact call_below hC hw (checkWinding_any _ _ _ _ _)) | (with_reducible exact call_same hw (unless_any _ _ _))))); (simp only [Act.put, List.setIfInBounds_toArray, List.set_cons_succ, List.set_cons_zero]); (with_reducible refine hK _ ?_); clear hK K)))
    | ((with_reducible refine quiet_skip ?_ ?_); (focus (first | (simp [Region.wanted, yielded]; done) | (simp [Region.wanted, yielded, undef]; done))); simp only [Act.put, List.setIfInBounds_toArray, List.set_cons_succ, List.set_cons_zero])
    | ((with_reducible refine quiet_go ?_ (fun K hK => ?_)); (focus (first | (simp [Region.wanted, yielded]; done) | (simp [Region.wanted, yielded, undef]; done))); (focus (apply quiet_val; (focus (intro w' hw; obtain ⟨hcq, hfq⟩ := bcell ((hC.out _).1 hw); go_simp; (first | done | rfl | (with_reducible exact call_below hC hw (checkWinding_any _ _ _ _ _)) | (with_reducible exact call_same hw (unless_any _ _ _))))); (simp only [Act.put, List.setIfInBounds_toArray, List.set_cons_succ, List.set_cons_zero]); (with_reducible refine hK _ ?_); clear hK K))))
  refine wpQuiet_nil ?_
  intro w1 hb1
  replace hb1 := (hC.out _).1 hb1
  clear hC C
  obtain ⟨hc1, hf1⟩ := bcell hb1
  have P1 : Blk w1 w.heap.size 23 #[.int .i64 2, .int .i64 t, .int .i64 s, .bool r] := (Blk.newAt rfl).past hb1
  have S1 := pt (pa pr) hb1
  clear hb1 hc1 hf1
  have p0 := P1.cellAt 0 rfl
  have p1 := P1.cellAt 1 rfl
  have p2 := P1.cellAt 2 rfl
  have p3 := P1.cellAt 3 rfl
  have pl := P1.lt
  go_wp2_with (first
    | (go_at_call 56; refine (gfirst2 _ _ _ _ _ (by first | (go_simp; done) | (go_simp; rfl)) (by first | (go_simp; done) | (go_simp; rfl)) _ HE.out).mono ?_; rintro e w' ⟨rfl, rfl⟩)
    | (go_at_call 64; refine (HS.out _).mono ?_; rintro e w2 ⟨rfl, hb2⟩))
  go_ret2
  exact ⟨rfl, by first | exact pa S1 | exact pt (pa S1) hb2⟩

set_option maxHeartbeats 2000000 in
theorem refZero_d (t s : Int) (r : Bool) (w : World) :
    Calls Tryd.prog 19 #[.agg #[.int .i64 1, .int .i64 t, .int .i64 s, .bool r]] w fun e w' => e = .returned (.tuple #[.int .i64 0, .int .i64 12]) ∧ Below w.heap.size w w' := by
  go_enter Tryd.func19, Tryd.ntmps19
  go_wp2
  go_ret2
  exact ⟨rfl, pa pr⟩
set_option maxHeartbeats 2000000 in
theorem refZero_z (t s : Int) (r : Bool) (w : World) :
    Calls Tryd.prog 19 #[.agg #[.int .i64 2, .int .i64 t, .int .i64 s, .bool r]] w fun e w' => e = .returned (.tuple #[.int .i64 0, .int .i64 0]) ∧ Below w.heap.size w w' := by
  go_enter Tryd.func19, Tryd.ntmps19
  go_wp2
  go_ret2
  exact ⟨rfl, pa pr⟩
set_option maxHeartbeats 2000000 in
set_option maxRecDepth 100000 in
theorem refZero_s (t s G : Int) (r : Bool) (hg : Sm 2000 (G * t)) (hS : ∀ w, Calls Tryd.prog 65 #[.agg #[.int .i64 0, .int .i64 t, .int .i64 s, .bool r]] w fun e w' => e = .returned (.int .i64 G) ∧ Below w.heap.size w w') (w : World) :
    Calls Tryd.prog 19 #[.agg #[.int .i64 0, .int .i64 t, .int .i64 s, .bool r]] w fun e w' => e = .returned (.tuple #[.int .i64 (G * t), .int .i64 0]) ∧ Below w.heap.size w w' := by
  unfold Sm at hg
  have za : IntKind.i64.wrap (G * t) = G * t := IntWalk.i64_in _ (by omega)
  go_enter Tryd.func19, Tryd.ntmps19
  go_wp2
  refine region_below 5 follows_mixed (by kernel_rfl) ?_
  intro C hC
  simp only [List.take_succ_cons, List.take_zero, List.drop_succ_cons, List.drop_zero]
  repeat (first
    | ((with_reducible refine quiet_plain rfl (fun K hK => ?_)); (focus (apply quiet_val; (focus (intro w' hw; obtain ⟨hcq, hfq⟩ := bcell ((hC.out _).1 hw); go_simp; (first | done | rfl | (with_reducible exact call_below hC hw (hS _))))); (simp only [Act.put, List.setIfInBounds_toArray, List.set_cons_succ, List.set_cons_zero]); (with_reducible refine hK _ ?_); clear hK K)))
    | ((with_reducible refine quiet_skip ?_ ?_); (focus (first | (simp [Region.wanted, yielded]; done) | (simp [Region.wanted, yielded, undef]; done))); simp only [Act.put, List.setIfInBounds_toArray, List.set_cons_succ, List.set_cons_zero])
    | ((with_reducible refine quiet_go ?_ (fun K hK => ?_)); (focus (first | (simp [Region.wanted, yielded]; done) | (simp [Region.wanted, yielded, undef]; done))); (focus (apply quiet_val; (focus (intro w' hw; obtain ⟨hcq, hfq⟩ := bcell ((hC.out _).1 hw); go_simp; (first | done | rfl | (with_reducible exact call_below hC hw (hS _))))); (simp only [Act.put, List.setIfInBounds_toArray, List.set_cons_succ, List.set_cons_zero]); (with_reducible refine hK _ ?_); clear hK K))))
  refine wpQuiet_nil ?_
  intro w1 hb1
  replace hb1 := (hC.out _).1 hb1
  clear hC C
  obtain ⟨hc1, hf1⟩ := bcell hb1
  have S1 := pt (pa pr) hb1
  clear hb1 hc1 hf1
  go_wp2
  go_ret2
  exact ⟨rfl, S1⟩

end Go.Proofs.YtnhcamokcggnkaaDoor
