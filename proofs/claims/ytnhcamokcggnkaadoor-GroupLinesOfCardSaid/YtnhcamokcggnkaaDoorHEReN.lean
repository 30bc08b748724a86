/- Contract of group.Renamed. -/
import Derived.Test.YtnhcamokcggnkaaDoorHBRen
import Derived.Test.YtnhcamokcggnkaaDoorHDIsP
import Derived.Test.YtnhcamokcggnkaaDoorGEExp
namespace Go.Proofs.YtnhcamokcggnkaaDoor
open Go.RowKit
attribute [local go_sem ↓] Go.wp_at_zero Go.wp_at_succ

theorem neg_wrap {x : Int} (h : Sm 10000 x) : IntKind.i64.wrap (-x) = -x := IntWalk.i64_in _ (by unfold Sm at h; omega)

theorem renamed_any (x1 x2 x3 x4 x5 x6 x7 x8 x9 a b c : Int) (hp : isPerm ⟨a, b, c⟩ = true) (he : lineE x1 x2 x3 x4 x5 x6 x7 x8 x9 = 0) (M : L3) (hM : renV (⟨⟨x1, x2, x3⟩, ⟨x4, x5, x6⟩, ⟨x7, x8, x9⟩⟩ : L3) ⟨a, b, c⟩ = M) (w : World) :
    Calls Tryd.prog 77 #[.agg #[.int .i64 x1, .int .i64 x2, .int .i64 x3, .int .i64 x4, .int .i64 x5, .int .i64 x6, .int .i64 x7, .int .i64 x8, .int .i64 x9], .agg #[.int .i64 a, .int .i64 b, .int .i64 c]] w fun e w' => e = .returned (.agg #[.int .i64 M.x.a, .int .i64 M.x.b, .int .i64 M.x.c, .int .i64 M.y.a, .int .i64 M.y.b, .int .i64 M.y.c, .int .i64 M.z.a, .int .i64 M.z.b, .int .i64 M.z.c]) ∧ Below w.heap.size w w' := by
  obtain ⟨h1, h2, h3, h4, h5, h6, h7, h8, h9⟩ := lineE_sm he
  subst hM
  rcases isPerm_cases hp with h | h | h | h | h | h
  all_goals
    injection h with ha hb hc
    subst ha hb hc
  · have h := renamed_012 x1 x2 x3 x4 x5 x6 x7 x8 x9 w (neg_wrap h1) (neg_wrap h2) (neg_wrap h3) (neg_wrap h4) (neg_wrap h5) (neg_wrap h6) (neg_wrap h7) (neg_wrap h8) (neg_wrap h9)
    simpa [renV, voltV, rowAt, negV] using h
  · have h := renamed_021 x1 x2 x3 x4 x5 x6 x7 x8 x9 w (neg_wrap h1) (neg_wrap h2) (neg_wrap h3) (neg_wrap h4) (neg_wrap h5) (neg_wrap h6) (neg_wrap h7) (neg_wrap h8) (neg_wrap h9)
    simpa [renV, voltV, rowAt, negV] using h
  · have h := renamed_102 x1 x2 x3 x4 x5 x6 x7 x8 x9 w (neg_wrap h1) (neg_wrap h2) (neg_wrap h3) (neg_wrap h4) (neg_wrap h5) (neg_wrap h6) (neg_wrap h7) (neg_wrap h8) (neg_wrap h9)
    simpa [renV, voltV, rowAt, negV] using h
  · have h := renamed_120 x1 x2 x3 x4 x5 x6 x7 x8 x9 w (neg_wrap h1) (neg_wrap h2) (neg_wrap h3) (neg_wrap h4) (neg_wrap h5) (neg_wrap h6) (neg_wrap h7) (neg_wrap h8) (neg_wrap h9)
    simpa [renV, voltV, rowAt, negV] using h
  · have h := renamed_201 x1 x2 x3 x4 x5 x6 x7 x8 x9 w (neg_wrap h1) (neg_wrap h2) (neg_wrap h3) (neg_wrap h4) (neg_wrap h5) (neg_wrap h6) (neg_wrap h7) (neg_wrap h8) (neg_wrap h9)
    simpa [renV, voltV, rowAt, negV] using h
  · have h := renamed_210 x1 x2 x3 x4 x5 x6 x7 x8 x9 w (neg_wrap h1) (neg_wrap h2) (neg_wrap h3) (neg_wrap h4) (neg_wrap h5) (neg_wrap h6) (neg_wrap h7) (neg_wrap h8) (neg_wrap h9)
    simpa [renV, voltV, rowAt, negV] using h

def renE (e : Int) (p : Bool) : Int := firstV [e, unlessV p 3]
theorem lines9_size : (Tryd.prog.info? 38).map (·.size) = some 9 := by kernel_rfl
theorem lines9_under : Tryd.prog.underlying 38 = some (.array 3 36) := by kernel_rfl
theorem lines9g_under : Tryd.prog.underlying 109 = some (.array 3 36) := by kernel_rfl

set_option maxHeartbeats 4000000 in
set_option maxRecDepth 100000 in
theorem Renamed_err (x1 x2 x3 x4 x5 x6 x7 x8 x9 a b c : Int) (he : renE (lineE x1 x2 x3 x4 x5 x6 x7 x8 x9) (isPerm ⟨a, b, c⟩) ≠ 0) (w : World) :
    Calls Tryd.prog 40 #[.agg #[.int .i64 x1, .int .i64 x2, .int .i64 x3, .int .i64 x4, .int .i64 x5, .int .i64 x6, .int .i64 x7, .int .i64 x8, .int .i64 x9], .agg #[.int .i64 a, .int .i64 b, .int .i64 c]] w fun z w' => z = .returned (.tuple #[.agg #[.int .i64 0, .int .i64 0, .int .i64 0, .int .i64 0, .int .i64 0, .int .i64 0, .int .i64 0, .int .i64 0, .int .i64 0], .int .i64 (renE (lineE x1 x2 x3 x4 x5 x6 x7 x8 x9) (isPerm ⟨a, b, c⟩))]) ∧ Below w.heap.size w w' := by
  have HC := Lib.hid (checkLines_any x1 x2 x3 x4 x5 x6 x7 x8 x9)
  have HP := Lib.hid (isPermutation_any a b c)
  have hne : (renE (lineE x1 x2 x3 x4 x5 x6 x7 x8 x9) (isPerm ⟨a, b, c⟩) == 0) = false := by simpa using he
  have HE := Lib.hid (show firstV [lineE x1 x2 x3 x4 x5 x6 x7 x8 x9, unlessV (isPerm ⟨a, b, c⟩) 3] = renE (lineE x1 x2 x3 x4 x5 x6 x7 x8 x9) (isPerm ⟨a, b, c⟩) from rfl)
  generalize renE (lineE x1 x2 x3 x4 x5 x6 x7 x8 x9) (isPerm ⟨a, b, c⟩) = E at *
  clear he
  generalize lineE x1 x2 x3 x4 x5 x6 x7 x8 x9 = F at *
  generalize isPerm ⟨a, b, c⟩ = q at *
  go_enter Tryd.func40, Tryd.ntmps40
  go_wp2
  refine region_below 5 follows_mixed (by kernel_rfl) ?_
  intro C hC
  simp only [List.take_succ_cons, List.take_zero, List.drop_succ_cons, List.drop_zero]
  repeat (first
    | ((with_reducible refine quiet_plain rfl (fun K hK => ?_)); (focus (apply quiet_val; (focus (intro w' hw; obtain ⟨hcq, hfq⟩ := bcell ((hC.out _).1 hw); go_simp; (first | done | rfl | (with_reducible exact call_below hC hw (HC.out _)) | (with_reducible exact call_below hC hw (HP.out _)) | (with_reducible exact call_same hw (unless_any _ _ _))))); (simp only [Act.put, List.setIfInBounds_toArray, List.set_cons_succ, List.set_cons_zero]); (with_reducible refine hK _ ?_); clear hK K)))
    | ((with_reducible refine quiet_skip ?_ ?_); (focus (first | (simp [Region.wanted, yielded]; done) | (simp [Region.wanted, yielded, undef]; done))); simp only [Act.put, List.setIfInBounds_toArray, List.set_cons_succ, List.set_cons_zero])
    | ((with_reducible refine quiet_go ?_ (fun K hK => ?_)); (focus (first | (simp [Region.wanted, yielded]; done) | (simp [Region.wanted, yielded, undef]; done))); (focus (apply quiet_val; (focus (intro w' hw; obtain ⟨hcq, hfq⟩ := bcell ((hC.out _).1 hw); go_simp; (first | done | rfl | (with_reducible exact call_below hC hw (HC.out _)) | (with_reducible exact call_below hC hw (HP.out _)) | (with_reducible exact call_same hw (unless_any _ _ _))))); (simp only [Act.put, List.setIfInBounds_toArray, List.set_cons_succ, List.set_cons_zero]); (with_reducible refine hK _ ?_); clear hK K))))
  refine wpQuiet_nil ?_
  intro w1 hb1
  replace hb1 := (hC.out _).1 hb1
  clear hC C
  obtain ⟨hc1, hf1⟩ := bcell hb1
  have R1 : Blk w1 (w.heap.size + 1 + 1) 38 #[.int .i64 0, .int .i64 0, .int .i64 0, .int .i64 0, .int .i64 0, .int .i64 0, .int .i64 0, .int .i64 0, .int .i64 0] := (Blk.newAt (by simp)).past hb1
  have S1 := pt (pa (pa (pa pr))) hb1
  clear hb1 hc1 hf1
  go_wp2_with (first
    | (go_at_call 56; refine (gfirst2 _ _ _ _ _ (by first | (go_simp; done) | (go_simp; rfl)) (by first | (go_simp; done) | (go_simp; rfl)) _ HE.out).mono ?_; rintro e w' ⟨rfl, rfl⟩)
    | ((with_reducible refine store_blk (T := 38) (x := .tmp 4) (y := .tmp 16) (vs := #[.int .i64 0, .int .i64 0, .int .i64 0, .int .i64 0, .int .i64 0, .int .i64 0, .int .i64 0, .int .i64 0, .int .i64 0]) R1.alloc ?_ ?_ ?_ ?_ ?_ ?_); (focus rfl); (focus exact lines9_size); (focus (simp [Value.oneCell']; done)); (focus rfl); (focus rfl); intro W2 R2 F2; have S2 := pp (pa S1) F2 (by have := S1.size; omega)))
  have g0 := R2.cellAt 0 rfl; have g1 := R2.cellAt 1 rfl; have g2 := R2.cellAt 2 rfl; have g3 := R2.cellAt 3 rfl; have g4 := R2.cellAt 4 rfl; have g5 := R2.cellAt 5 rfl; have g6 := R2.cellAt 6 rfl; have g7 := R2.cellAt 7 rfl; have g8 := R2.cellAt 8 rfl
  exact bodyPost_ret (v := .tuple #[.agg #[.int .i64 0, .int .i64 0, .int .i64 0, .int .i64 0, .int .i64 0, .int .i64 0, .int .i64 0, .int .i64 0, .int .i64 0], .int .i64 E]) (by simp [results, Tryd.results40, go_sem, g0, g1, g2, g3, g4, g5, g6, g7, g8]) rfl ⟨rfl, S2⟩

set_option maxHeartbeats 4000000 in
set_option maxRecDepth 100000 in
theorem Renamed_ok (x1 x2 x3 x4 x5 x6 x7 x8 x9 a b c : Int) (hp : isPerm ⟨a, b, c⟩ = true) (he : lineE x1 x2 x3 x4 x5 x6 x7 x8 x9 = 0) (M : L3) (hM : renV (⟨⟨x1, x2, x3⟩, ⟨x4, x5, x6⟩, ⟨x7, x8, x9⟩⟩ : L3) ⟨a, b, c⟩ = M) (w : World) :
    Calls Tryd.prog 40 #[.agg #[.int .i64 x1, .int .i64 x2, .int .i64 x3, .int .i64 x4, .int .i64 x5, .int .i64 x6, .int .i64 x7, .int .i64 x8, .int .i64 x9], .agg #[.int .i64 a, .int .i64 b, .int .i64 c]] w fun z w' => z = .returned (.tuple #[.agg #[.int .i64 M.x.a, .int .i64 M.x.b, .int .i64 M.x.c, .int .i64 M.y.a, .int .i64 M.y.b, .int .i64 M.y.c, .int .i64 M.z.a, .int .i64 M.z.b, .int .i64 M.z.c], .int .i64 0]) ∧ Below w.heap.size w w' := by
  have HC := Lib.hid (checkLines_any x1 x2 x3 x4 x5 x6 x7 x8 x9)
  have HP := Lib.hid (isPermutation_any a b c)
  have HR := Lib.hid (renamed_any x1 x2 x3 x4 x5 x6 x7 x8 x9 a b c hp he M hM)
  rw [he] at HC
  rw [hp] at HP
  clear he hp hM
  go_enter Tryd.func40, Tryd.ntmps40
  go_wp2
  refine region_below 5 follows_mixed (by kernel_rfl) ?_
  intro C hC
  simp only [List.take_succ_cons, List.take_zero, List.drop_succ_cons, List.drop_zero]
  repeat (first
    | ((with_reducible refine quiet_plain rfl (fun K hK => ?_)); (focus (apply quiet_val; (focus (intro w' hw; obtain ⟨hcq, hfq⟩ := bcell ((hC.out _).1 hw); go_simp; (first | done | rfl | (with_reducible exact call_below hC hw (HC.out _)) | (with_reducible exact call_below hC hw (HP.out _)) | (with_reducible exact call_same hw (unless_any _ _ _))))); (simp only [Act.put, List.setIfInBounds_toArray, List.set_cons_succ, List.set_cons_zero]); (with_reducible refine hK _ ?_); clear hK K)))
    | ((with_reducible refine quiet_skip ?_ ?_); (focus (first | (simp [Region.wanted, yielded]; done) | (simp [Region.wanted, yielded, undef]; done))); simp only [Act.put, List.setIfInBounds_toArray, List.set_cons_succ, List.set_cons_zero])
    | ((with_reducible refine quiet_go ?_ (fun K hK => ?_)); (focus (first | (simp [Region.wanted, yielded]; done) | (simp [Region.wanted, yielded, undef]; done))); (focus (apply quiet_val; (focus (intro w' hw; obtain ⟨hcq, hfq⟩ := bcell ((hC.out _).1 hw); go_simp; (first | done | rfl | (with_reducible exact call_below hC hw (HC.out _)) | (with_reducible exact call_below hC hw (HP.out _)) | (with_reducible exact call_same hw (unless_any _ _ _))))); (simp only [Act.put, List.setIfInBounds_toArray, List.set_cons_succ, List.set_cons_zero]); (with_reducible refine hK _ ?_); clear hK K))))
  refine wpQuiet_nil ?_
  intro w1 hb1
  replace hb1 := (hC.out _).1 hb1
  clear hC C
  obtain ⟨hc1, hf1⟩ := bcell hb1
  have A1 : Blk w1 w.heap.size 38 #[.int .i64 x1, .int .i64 x2, .int .i64 x3, .int .i64 x4, .int .i64 x5, .int .i64 x6, .int .i64 x7, .int .i64 x8, .int .i64 x9] := ((Blk.newAt rfl).alloc.alloc).past hb1
  have P1 : Blk w1 (w.heap.size + 1) 36 #[.int .i64 a, .int .i64 b, .int .i64 c] := ((Blk.newAt (by simp)).alloc).past hb1
  have R1 : Blk w1 (w.heap.size + 1 + 1) 38 #[.int .i64 0, .int .i64 0, .int .i64 0, .int .i64 0, .int .i64 0, .int .i64 0, .int .i64 0, .int .i64 0, .int .i64 0] := (Blk.newAt (by simp)).past hb1
  have S1 := pt (pa (pa (pa pr))) hb1
  clear hb1 hc1 hf1
  have p0 := P1.cellAt 0 rfl
  have p1 := P1.cellAt 1 rfl
  have p2 := P1.cellAt 2 rfl
  have pl := P1.lt
  go_wp2_with (first
    | (go_at_call 56; refine (gfirst2 _ _ _ _ _ (by first | (go_simp; done) | (go_simp; rfl)) (by first | (go_simp; done) | (go_simp; rfl)) _ (rfl : firstV [0, unlessV true 3] = 0)).mono ?_; rintro e w' ⟨rfl, rfl⟩)
    | ((with_reducible refine load_blk (T := 38) (x := .tmp 2) A1.alloc lines9_under ?_ ?_ ?_ ?_); (focus rfl); (focus exact lines9_size); (focus rfl))
    | (go_at_call 77; refine (HR.out _).mono ?_; rintro e w2 ⟨rfl, hb2⟩; have R2 := R1.alloc.past hb2; have S2 := pt (pa S1) hb2)
    | ((with_reducible refine store_blk (T := 38) (x := .tmp 4) (y := .tmp 20) (vs := #[.int .i64 M.x.a, .int .i64 M.x.b, .int .i64 M.x.c, .int .i64 M.y.a, .int .i64 M.y.b, .int .i64 M.y.c, .int .i64 M.z.a, .int .i64 M.z.b, .int .i64 M.z.c]) R2 ?_ ?_ ?_ ?_ ?_ ?_); (focus rfl); (focus exact lines9_size); (focus (simp [Value.oneCell']; done)); (focus rfl); (focus rfl); intro W3 R3 F3; have S3 := pp S2 F3 (by omega)))
  have g0 := R3.cellAt 0 rfl; have g1 := R3.cellAt 1 rfl; have g2 := R3.cellAt 2 rfl; have g3 := R3.cellAt 3 rfl; have g4 := R3.cellAt 4 rfl; have g5 := R3.cellAt 5 rfl; have g6 := R3.cellAt 6 rfl; have g7 := R3.cellAt 7 rfl; have g8 := R3.cellAt 8 rfl
  exact bodyPost_ret (v := .tuple #[.agg #[.int .i64 M.x.a, .int .i64 M.x.b, .int .i64 M.x.c, .int .i64 M.y.a, .int .i64 M.y.b, .int .i64 M.y.c, .int .i64 M.z.a, .int .i64 M.z.b, .int .i64 M.z.c], .int .i64 0]) (by simp [results, Tryd.results40, go_sem, g0, g1, g2, g3, g4, g5, g6, g7, g8]) rfl ⟨rfl, S3⟩

end Go.Proofs.YtnhcamokcggnkaaDoor
