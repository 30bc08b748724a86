/- The walk of the law on windings: it returns true. -/
import Derived.Test.YtnhcamokcggnkaaDoorGVRefAll
import Derived.Test.YtnhcamokcggnkaaDoorGWZero
import Derived.Test.YtnhcamokcggnkaaDoorGJAwake
import Derived.Test.YtnhcamokcggnkaaDoorGYEql
namespace Go.Proofs.YtnhcamokcggnkaaDoor
open Go.RowKit
attribute [local go_sem ↓] Go.wp_at_zero Go.wp_at_succ

attribute [local go_sem ↓ high] apil_eql

set_option maxHeartbeats 8000000 in
set_option maxRecDepth 100000 in
theorem windings_bad (k t s : Int) (r : Bool) (he : windE k t s ≠ 0) (w : World) (hT : TwIn w) (hP : PatIn w) :
    Calls Tryd.prog 4 #[.agg #[.int .i64 k, .int .i64 t, .int .i64 s, .bool r]] w fun e w' => e = .returned (.bool true) ∧ Below w.heap.size w w' := by
  have HT := Lib.hid (fun w' (h : Below w.heap.size w w') => hT.below h)
  have HP := Lib.hid (fun w' (h : Below w.heap.size w w') => hP.below h)
  clear hT hP
  have hz : zeroE k t s = windE k t s := by unfold zeroE; simp [firstV, he]
  have HL := Lib.hid (LinesOf_err k t s r he)
  have HZ := Lib.hid (ZeroOf_err k t s r (by rw [hz]; exact he))
  rw [hz] at HZ
  have HR := Lib.hid (refWindingErr_any k t s r)
  have HC := Lib.hid (checkWinding_any k t s r)
  have hne : (windE k t s == 0) = false := by simpa using he
  generalize windE k t s = E at *
  clear he hz
  go_enter Tryd.func4, Tryd.ntmps4
  go_wp2_with (first
    | (go_at_call 11; refine (awake_any _ (HT.out _ (pa pr)) (HP.out _ (pa pr))).mono ?_; rintro e w1 ⟨rfl, hb1⟩; have P1 : Blk w1 w.heap.size 23 #[.int .i64 k, .int .i64 t, .int .i64 s, .bool r] := (Blk.newAt rfl).past hb1; have S1 := pt (pa pr) hb1; have p0 := P1.cellAt 0 rfl; have p1 := P1.cellAt 1 rfl; have p2 := P1.cellAt 2 rfl; have p3 := P1.cellAt 3 rfl; have pl := P1.lt)
    | (go_at_call 16; refine (HL.out _).mono ?_; rintro e w2 ⟨rfl, hb2⟩; have P2 := P1.past hb2; have S2 := pt S1 hb2; have R1 : Blk (w2.alloc (.cells #[.int .i64 0, .int .i64 0, .int .i64 0, .int .i64 0, .int .i64 0, .int .i64 0, .int .i64 0, .int .i64 0, .int .i64 0] 38)) w2.heap.size 38 #[.int .i64 0, .int .i64 0, .int .i64 0, .int .i64 0, .int .i64 0, .int .i64 0, .int .i64 0, .int .i64 0, .int .i64 0] := Blk.new _ _ _)
    | ((with_reducible refine store_blk (T := 38) (x := .tmp 3) (y := .tmp 15) (vs := #[.int .i64 0, .int .i64 0, .int .i64 0, .int .i64 0, .int .i64 0, .int .i64 0, .int .i64 0, .int .i64 0, .int .i64 0]) R1 ?_ ?_ ?_ ?_ ?_ ?_); (focus rfl); (focus exact apiLines_size); (focus (simp [Value.oneCell']; done)); (focus rfl); (focus rfl); intro w3 R3 F3; have P3 := P2.alloc.put F3 (by have := P2.lt; omega); have S3 := pp (pa S2) F3 S2.size; clear p0 p1 p2 p3 pl; have p0 := P3.cellAt 0 rfl; have p1 := P3.cellAt 1 rfl; have p2 := P3.cellAt 2 rfl; have p3 := P3.cellAt 3 rfl; have pl := P3.lt)
    | (go_at_call 17; refine (HZ.out _).mono ?_; rintro e w4 ⟨rfl, hb4⟩; have P4 := P3.past hb4; have R4 := R3.past hb4; have S4 := pt S3 hb4; clear p0 p1 p2 p3 pl; have p0 := P4.cellAt 0 rfl; have p1 := P4.cellAt 1 rfl; have p2 := P4.cellAt 2 rfl; have p3 := P4.cellAt 3 rfl; have pl := P4.lt)
    | (go_at_call 13; refine (HR.out _).mono ?_; rintro e w5 ⟨rfl, hb5⟩; have P5 := P4.past hb5; have R5 := R4.past hb5; have S5 := pt S4 hb5; clear p0 p1 p2 p3 pl; have p0 := P5.cellAt 0 rfl; have p1 := P5.cellAt 1 rfl; have p2 := P5.cellAt 2 rfl; have p3 := P5.cellAt 3 rfl; have pl := P5.lt)
    | (go_at_call 18; refine (HC.out _).mono ?_; rintro e w6 ⟨rfl, hb6⟩; have R6 := R5.past hb6; have S6 := pt S5 hb6; have l0 := R6.cellAt 0 rfl; have l1 := R6.cellAt 1 rfl; have l2 := R6.cellAt 2 rfl; have l3 := R6.cellAt 3 rfl; have l4 := R6.cellAt 4 rfl; have l5 := R6.cellAt 5 rfl; have l6 := R6.cellAt 6 rfl; have l7 := R6.cellAt 7 rfl; have l8 := R6.cellAt 8 rfl; have ll := R6.lt)
    | ((with_reducible refine load_blk (T := 38) (x := .tmp 3) R6 Tryd.underlying38 ?_ ?_ ?_ ?_); (focus rfl); (focus exact apiLines_size); (focus rfl)))
  all_goals
    go_ret
    exact ⟨rfl, S6⟩

set_option maxHeartbeats 8000000 in
set_option maxRecDepth 100000 in
theorem windings_s (t s : Int) (r : Bool) (he : windE 0 t s = 0) (w : World) (hT : TwIn w) (hP : PatIn w)
    (hz : ∀ w, Calls Tryd.prog 17 #[.agg #[.int .i64 0, .int .i64 t, .int .i64 s, .bool r]] w fun e w' => e = .returned (.tuple #[.int .i64 (sgnT t r), .int .i64 0]) ∧ Below w.heap.size w w')
    (hrz : ∀ w, Calls Tryd.prog 19 #[.agg #[.int .i64 0, .int .i64 t, .int .i64 s, .bool r]] w fun e w' => e = .returned (.tuple #[.int .i64 (sgnT t r), .int .i64 0]) ∧ Below w.heap.size w w') :
    Calls Tryd.prog 4 #[.agg #[.int .i64 0, .int .i64 t, .int .i64 s, .bool r]] w fun e w' => e = .returned (.bool true) ∧ Below w.heap.size w w' := by
  have HT := Lib.hid (fun w' (h : Below w.heap.size w w') => hT.below h)
  have HP := Lib.hid (fun w' (h : Below w.heap.size w w') => hP.below h)
  clear hT hP
  have hu := windE_ok r he
  obtain ⟨L, hL⟩ : ∃ L, linesV ⟨0, t, s, r⟩ = L := ⟨_, rfl⟩
  have HL := Lib.hid (LinesOf_ok 0 t s r hu L hL)
  have HRL := Lib.hid (refLines_any 0 t s r hu L hL)
  have HZ := Lib.hid hz
  have HRZ := Lib.hid hrz
  have HR := Lib.hid (refWindingErr_any 0 t s r)
  have HC := Lib.hid (checkWinding_any 0 t s r)
  rw [he] at HR HC
  clear he hu hL hz hrz
  try generalize sgnT t r = G at *
  go_enter Tryd.func4, Tryd.ntmps4
  go_wp2_with (first
    | (go_at_call 11; refine (awake_any _ (HT.out _ (pa pr)) (HP.out _ (pa pr))).mono ?_; rintro e w1 ⟨rfl, hb1⟩; have P1 : Blk w1 w.heap.size 23 #[.int .i64 0, .int .i64 t, .int .i64 s, .bool r] := (Blk.newAt rfl).past hb1; have S1 := pt (pa pr) hb1; have p0 := P1.cellAt 0 rfl; have p1 := P1.cellAt 1 rfl; have p2 := P1.cellAt 2 rfl; have p3 := P1.cellAt 3 rfl; have pl := P1.lt)
    | (go_at_call 16; refine (HL.out _ (HP.out _ S1)).mono ?_; rintro e w2 ⟨rfl, hb2⟩; have P2 := P1.past hb2; have S2 := pt S1 hb2; have R1 : Blk (w2.alloc (.cells #[.int .i64 0, .int .i64 0, .int .i64 0, .int .i64 0, .int .i64 0, .int .i64 0, .int .i64 0, .int .i64 0, .int .i64 0] 38)) w2.heap.size 38 #[.int .i64 0, .int .i64 0, .int .i64 0, .int .i64 0, .int .i64 0, .int .i64 0, .int .i64 0, .int .i64 0, .int .i64 0] := Blk.new _ _ _)
    | ((with_reducible refine store_blk (T := 38) (x := .tmp 3) (y := .tmp 15) (vs := #[.int .i64 L.x.a, .int .i64 L.x.b, .int .i64 L.x.c, .int .i64 L.y.a, .int .i64 L.y.b, .int .i64 L.y.c, .int .i64 L.z.a, .int .i64 L.z.b, .int .i64 L.z.c]) R1 ?_ ?_ ?_ ?_ ?_ ?_); (focus rfl); (focus exact apiLines_size); (focus (simp [Value.oneCell']; done)); (focus rfl); (focus rfl); intro w3 R3 F3; have P3 := P2.alloc.put F3 (by have := P2.lt; omega); have S3 := pp (pa S2) F3 S2.size; clear p0 p1 p2 p3 pl; have p0 := P3.cellAt 0 rfl; have p1 := P3.cellAt 1 rfl; have p2 := P3.cellAt 2 rfl; have p3 := P3.cellAt 3 rfl; have pl := P3.lt)
    | (go_at_call 17; refine (HZ.out _).mono ?_; rintro e w4 ⟨rfl, hb4⟩; have P4 := P3.past hb4; have R4 := R3.past hb4; have S4 := pt S3 hb4; clear p0 p1 p2 p3 pl; have p0 := P4.cellAt 0 rfl; have p1 := P4.cellAt 1 rfl; have p2 := P4.cellAt 2 rfl; have p3 := P4.cellAt 3 rfl; have pl := P4.lt)
    | (go_at_call 13; refine (HR.out _).mono ?_; rintro e w5 ⟨rfl, hb5⟩; have P5 := P4.past hb5; have R5 := R4.past hb5; have S5 := pt S4 hb5; clear p0 p1 p2 p3 pl; have p0 := P5.cellAt 0 rfl; have p1 := P5.cellAt 1 rfl; have p2 := P5.cellAt 2 rfl; have p3 := P5.cellAt 3 rfl; have pl := P5.lt)
    | (go_at_call 18; refine (HC.out _).mono ?_; rintro e w6 ⟨rfl, hb6⟩; have P6 := P5.past hb6; have R6 := R5.past hb6; have S6 := pt S5 hb6; clear p0 p1 p2 p3 pl; have p0 := P6.cellAt 0 rfl; have p1 := P6.cellAt 1 rfl; have p2 := P6.cellAt 2 rfl; have p3 := P6.cellAt 3 rfl; have pl := P6.lt)
    | (go_at_call 19; refine (HRZ.out _).mono ?_; rintro e w7 ⟨rfl, hb7⟩; have P7 := P6.past hb7; have R7 := R6.past hb7; have S7 := pt S6 hb7; clear p0 p1 p2 p3 pl; have p0 := P7.cellAt 0 rfl; have p1 := P7.cellAt 1 rfl; have p2 := P7.cellAt 2 rfl; have p3 := P7.cellAt 3 rfl; have pl := P7.lt; have l0 := R7.cellAt 0 rfl; have l1 := R7.cellAt 1 rfl; have l2 := R7.cellAt 2 rfl; have l3 := R7.cellAt 3 rfl; have l4 := R7.cellAt 4 rfl; have l5 := R7.cellAt 5 rfl; have l6 := R7.cellAt 6 rfl; have l7 := R7.cellAt 7 rfl; have l8 := R7.cellAt 8 rfl; have ll := R7.lt))
  refine region_below 18 follows_mixed (by kernel_rfl) ?_
  intro C hC
  simp only [List.take_succ_cons, List.take_zero, List.drop_succ_cons, List.drop_zero]
  repeat (first
    | ((with_reducible refine quiet_plain rfl (fun K hK => ?_)); (focus (apply quiet_val; (focus (intro w' hw; obtain ⟨hcq, hfq⟩ := bcell ((hC.out _).1 hw); go_simp; (first | done | rfl | (with_reducible exact call_below hC hw (HRL.out _))))); (simp only [Act.put, List.setIfInBounds_toArray, List.set_cons_succ, List.set_cons_zero]); (with_reducible refine hK _ ?_); clear hK K)))
    | ((with_reducible refine quiet_skip ?_ ?_); (focus (first | (simp [Region.wanted, yielded]; done) | (simp [Region.wanted, yielded, undef]; done))); simp only [Act.put, List.setIfInBounds_toArray, List.set_cons_succ, List.set_cons_zero])
    | ((with_reducible refine quiet_go ?_ (fun K hK => ?_)); (focus (first | (simp [Region.wanted, yielded]; done) | (simp [Region.wanted, yielded, undef]; done))); (focus (apply quiet_val; (focus (intro w' hw; obtain ⟨hcq, hfq⟩ := bcell ((hC.out _).1 hw); go_simp; (first | done | rfl | (with_reducible exact call_below hC hw (HRL.out _))))); (simp only [Act.put, List.setIfInBounds_toArray, List.set_cons_succ, List.set_cons_zero]); (with_reducible refine hK _ ?_); clear hK K))))
  refine wpQuiet_nil ?_
  intro w1 hb1
  replace hb1 := (hC.out _).1 hb1
  clear hC C
  obtain ⟨hc1, hf1⟩ := bcell hb1
  have S8 := pt S7 hb1
  clear hb1 hc1 hf1
  go_wp2
  go_ret
  exact ⟨rfl, S8⟩
set_option maxHeartbeats 8000000 in
set_option maxRecDepth 100000 in
theorem windings_d (t s : Int) (r : Bool) (he : windE 1 t s = 0) (w : World) (hT : TwIn w) (hP : PatIn w)
    (hz : ∀ w, Calls Tryd.prog 17 #[.agg #[.int .i64 1, .int .i64 t, .int .i64 s, .bool r]] w fun e w' => e = .returned (.tuple #[.int .i64 0, .int .i64 12]) ∧ Below w.heap.size w w')
    (hrz : ∀ w, Calls Tryd.prog 19 #[.agg #[.int .i64 1, .int .i64 t, .int .i64 s, .bool r]] w fun e w' => e = .returned (.tuple #[.int .i64 0, .int .i64 12]) ∧ Below w.heap.size w w') :
    Calls Tryd.prog 4 #[.agg #[.int .i64 1, .int .i64 t, .int .i64 s, .bool r]] w fun e w' => e = .returned (.bool true) ∧ Below w.heap.size w w' := by
  have HT := Lib.hid (fun w' (h : Below w.heap.size w w') => hT.below h)
  have HP := Lib.hid (fun w' (h : Below w.heap.size w w') => hP.below h)
  clear hT hP
  have hu := windE_ok r he
  obtain ⟨L, hL⟩ : ∃ L, linesV ⟨1, t, s, r⟩ = L := ⟨_, rfl⟩
  have HL := Lib.hid (LinesOf_ok 1 t s r hu L hL)
  have HRL := Lib.hid (refLines_any 1 t s r hu L hL)
  have HZ := Lib.hid hz
  have HRZ := Lib.hid hrz
  have HR := Lib.hid (refWindingErr_any 1 t s r)
  have HC := Lib.hid (checkWinding_any 1 t s r)
  rw [he] at HR HC
  clear he hu hL hz hrz
  try generalize sgnT t r = G at *
  go_enter Tryd.func4, Tryd.ntmps4
  go_wp2_with (first
    | (go_at_call 11; refine (awake_any _ (HT.out _ (pa pr)) (HP.out _ (pa pr))).mono ?_; rintro e w1 ⟨rfl, hb1⟩; have P1 : Blk w1 w.heap.size 23 #[.int .i64 1, .int .i64 t, .int .i64 s, .bool r] := (Blk.newAt rfl).past hb1; have S1 := pt (pa pr) hb1; have p0 := P1.cellAt 0 rfl; have p1 := P1.cellAt 1 rfl; have p2 := P1.cellAt 2 rfl; have p3 := P1.cellAt 3 rfl; have pl := P1.lt)
    | (go_at_call 16; refine (HL.out _ (HP.out _ S1)).mono ?_; rintro e w2 ⟨rfl, hb2⟩; have P2 := P1.past hb2; have S2 := pt S1 hb2; have R1 : Blk (w2.alloc (.cells #[.int .i64 0, .int .i64 0, .int .i64 0, .int .i64 0, .int .i64 0, .int .i64 0, .int .i64 0, .int .i64 0, .int .i64 0] 38)) w2.heap.size 38 #[.int .i64 0, .int .i64 0, .int .i64 0, .int .i64 0, .int .i64 0, .int .i64 0, .int .i64 0, .int .i64 0, .int .i64 0] := Blk.new _ _ _)
    | ((with_reducible refine store_blk (T := 38) (x := .tmp 3) (y := .tmp 15) (vs := #[.int .i64 L.x.a, .int .i64 L.x.b, .int .i64 L.x.c, .int .i64 L.y.a, .int .i64 L.y.b, .int .i64 L.y.c, .int .i64 L.z.a, .int .i64 L.z.b, .int .i64 L.z.c]) R1 ?_ ?_ ?_ ?_ ?_ ?_); (focus rfl); (focus exact apiLines_size); (focus (simp [Value.oneCell']; done)); (focus rfl); (focus rfl); intro w3 R3 F3; have P3 := P2.alloc.put F3 (by have := P2.lt; omega); have S3 := pp (pa S2) F3 S2.size; clear p0 p1 p2 p3 pl; have p0 := P3.cellAt 0 rfl; have p1 := P3.cellAt 1 rfl; have p2 := P3.cellAt 2 rfl; have p3 := P3.cellAt 3 rfl; have pl := P3.lt)
    | (go_at_call 17; refine (HZ.out _).mono ?_; rintro e w4 ⟨rfl, hb4⟩; have P4 := P3.past hb4; have R4 := R3.past hb4; have S4 := pt S3 hb4; clear p0 p1 p2 p3 pl; have p0 := P4.cellAt 0 rfl; have p1 := P4.cellAt 1 rfl; have p2 := P4.cellAt 2 rfl; have p3 := P4.cellAt 3 rfl; have pl := P4.lt)
    | (go_at_call 13; refine (HR.out _).mono ?_; rintro e w5 ⟨rfl, hb5⟩; have P5 := P4.past hb5; have R5 := R4.past hb5; have S5 := pt S4 hb5; clear p0 p1 p2 p3 pl; have p0 := P5.cellAt 0 rfl; have p1 := P5.cellAt 1 rfl; have p2 := P5.cellAt 2 rfl; have p3 := P5.cellAt 3 rfl; have pl := P5.lt)
    | (go_at_call 18; refine (HC.out _).mono ?_; rintro e w6 ⟨rfl, hb6⟩; have P6 := P5.past hb6; have R6 := R5.past hb6; have S6 := pt S5 hb6; clear p0 p1 p2 p3 pl; have p0 := P6.cellAt 0 rfl; have p1 := P6.cellAt 1 rfl; have p2 := P6.cellAt 2 rfl; have p3 := P6.cellAt 3 rfl; have pl := P6.lt)
    | (go_at_call 19; refine (HRZ.out _).mono ?_; rintro e w7 ⟨rfl, hb7⟩; have P7 := P6.past hb7; have R7 := R6.past hb7; have S7 := pt S6 hb7; clear p0 p1 p2 p3 pl; have p0 := P7.cellAt 0 rfl; have p1 := P7.cellAt 1 rfl; have p2 := P7.cellAt 2 rfl; have p3 := P7.cellAt 3 rfl; have pl := P7.lt; have l0 := R7.cellAt 0 rfl; have l1 := R7.cellAt 1 rfl; have l2 := R7.cellAt 2 rfl; have l3 := R7.cellAt 3 rfl; have l4 := R7.cellAt 4 rfl; have l5 := R7.cellAt 5 rfl; have l6 := R7.cellAt 6 rfl; have l7 := R7.cellAt 7 rfl; have l8 := R7.cellAt 8 rfl; have ll := R7.lt))
  refine region_below 18 follows_mixed (by kernel_rfl) ?_
  intro C hC
  simp only [List.take_succ_cons, List.take_zero, List.drop_succ_cons, List.drop_zero]
  repeat (first
    | ((with_reducible refine quiet_plain rfl (fun K hK => ?_)); (focus (apply quiet_val; (focus (intro w' hw; obtain ⟨hcq, hfq⟩ := bcell ((hC.out _).1 hw); go_simp; (first | done | rfl | (with_reducible exact call_below hC hw (HRL.out _))))); (simp only [Act.put, List.setIfInBounds_toArray, List.set_cons_succ, List.set_cons_zero]); (with_reducible refine hK _ ?_); clear hK K)))
    | ((with_reducible refine quiet_skip ?_ ?_); (focus (first | (simp [Region.wanted, yielded]; done) | (simp [Region.wanted, yielded, undef]; done))); simp only [Act.put, List.setIfInBounds_toArray, List.set_cons_succ, List.set_cons_zero])
    | ((with_reducible refine quiet_go ?_ (fun K hK => ?_)); (focus (first | (simp [Region.wanted, yielded]; done) | (simp [Region.wanted, yielded, undef]; done))); (focus (apply quiet_val; (focus (intro w' hw; obtain ⟨hcq, hfq⟩ := bcell ((hC.out _).1 hw); go_simp; (first | done | rfl | (with_reducible exact call_below hC hw (HRL.out _))))); (simp only [Act.put, List.setIfInBounds_toArray, List.set_cons_succ, List.set_cons_zero]); (with_reducible refine hK _ ?_); clear hK K))))
  refine wpQuiet_nil ?_
  intro w1 hb1
  replace hb1 := (hC.out _).1 hb1
  clear hC C
  obtain ⟨hc1, hf1⟩ := bcell hb1
  have S8 := pt S7 hb1
  clear hb1 hc1 hf1
  go_wp2
  go_ret
  exact ⟨rfl, S8⟩
set_option maxHeartbeats 8000000 in
set_option maxRecDepth 100000 in
theorem windings_z (t s : Int) (r : Bool) (he : windE 2 t s = 0) (w : World) (hT : TwIn w) (hP : PatIn w)
    (hz : ∀ w, Calls Tryd.prog 17 #[.agg #[.int .i64 2, .int .i64 t, .int .i64 s, .bool r]] w fun e w' => e = .returned (.tuple #[.int .i64 0, .int .i64 0]) ∧ Below w.heap.size w w')
    (hrz : ∀ w, Calls Tryd.prog 19 #[.agg #[.int .i64 2, .int .i64 t, .int .i64 s, .bool r]] w fun e w' => e = .returned (.tuple #[.int .i64 0, .int .i64 0]) ∧ Below w.heap.size w w') :
    Calls Tryd.prog 4 #[.agg #[.int .i64 2, .int .i64 t, .int .i64 s, .bool r]] w fun e w' => e = .returned (.bool true) ∧ Below w.heap.size w w' := by
  have HT := Lib.hid (fun w' (h : Below w.heap.size w w') => hT.below h)
  have HP := Lib.hid (fun w' (h : Below w.heap.size w w') => hP.below h)
  clear hT hP
  have hu := windE_ok r he
  obtain ⟨L, hL⟩ : ∃ L, linesV ⟨2, t, s, r⟩ = L := ⟨_, rfl⟩
  have HL := Lib.hid (LinesOf_ok 2 t s r hu L hL)
  have HRL := Lib.hid (refLines_any 2 t s r hu L hL)
  have HZ := Lib.hid hz
  have HRZ := Lib.hid hrz
  have HR := Lib.hid (refWindingErr_any 2 t s r)
  have HC := Lib.hid (checkWinding_any 2 t s r)
  rw [he] at HR HC
  clear he hu hL hz hrz
  try generalize sgnT t r = G at *
  go_enter Tryd.func4, Tryd.ntmps4
  go_wp2_with (first
    | (go_at_call 11; refine (awake_any _ (HT.out _ (pa pr)) (HP.out _ (pa pr))).mono ?_; rintro e w1 ⟨rfl, hb1⟩; have P1 : Blk w1 w.heap.size 23 #[.int .i64 2, .int .i64 t, .int .i64 s, .bool r] := (Blk.newAt rfl).past hb1; have S1 := pt (pa pr) hb1; have p0 := P1.cellAt 0 rfl; have p1 := P1.cellAt 1 rfl; have p2 := P1.cellAt 2 rfl; have p3 := P1.cellAt 3 rfl; have pl := P1.lt)
    | (go_at_call 16; refine (HL.out _ (HP.out _ S1)).mono ?_; rintro e w2 ⟨rfl, hb2⟩; have P2 := P1.past hb2; have S2 := pt S1 hb2; have R1 : Blk (w2.alloc (.cells #[.int .i64 0, .int .i64 0, .int .i64 0, .int .i64 0, .int .i64 0, .int .i64 0, .int .i64 0, .int .i64 0, .int .i64 0] 38)) w2.heap.size 38 #[.int .i64 0, .int .i64 0, .int .i64 0, .int .i64 0, .int .i64 0, .int .i64 0, .int .i64 0, .int .i64 0, .int .i64 0] := Blk.new _ _ _)
    | ((with_reducible refine store_blk (T := 38) (x := .tmp 3) (y := .tmp 15) (vs := #[.int .i64 L.x.a, .int .i64 L.x.b, .int .i64 L.x.c, .int .i64 L.y.a, .int .i64 L.y.b, .int .i64 L.y.c, .int .i64 L.z.a, .int .i64 L.z.b, .int .i64 L.z.c]) R1 ?_ ?_ ?_ ?_ ?_ ?_); (focus rfl); (focus exact apiLines_size); (focus (simp [Value.oneCell']; done)); (focus rfl); (focus rfl); intro w3 R3 F3; have P3 := P2.alloc.put F3 (by have := P2.lt; omega); have S3 := pp (pa S2) F3 S2.size; clear p0 p1 p2 p3 pl; have p0 := P3.cellAt 0 rfl; have p1 := P3.cellAt 1 rfl; have p2 := P3.cellAt 2 rfl; have p3 := P3.cellAt 3 rfl; have pl := P3.lt)
    | (go_at_call 17; refine (HZ.out _).mono ?_; rintro e w4 ⟨rfl, hb4⟩; have P4 := P3.past hb4; have R4 := R3.past hb4; have S4 := pt S3 hb4; clear p0 p1 p2 p3 pl; have p0 := P4.cellAt 0 rfl; have p1 := P4.cellAt 1 rfl; have p2 := P4.cellAt 2 rfl; have p3 := P4.cellAt 3 rfl; have pl := P4.lt)
    | (go_at_call 13; refine (HR.out _).mono ?_; rintro e w5 ⟨rfl, hb5⟩; have P5 := P4.past hb5; have R5 := R4.past hb5; have S5 := pt S4 hb5; clear p0 p1 p2 p3 pl; have p0 := P5.cellAt 0 rfl; have p1 := P5.cellAt 1 rfl; have p2 := P5.cellAt 2 rfl; have p3 := P5.cellAt 3 rfl; have pl := P5.lt)
    | (go_at_call 18; refine (HC.out _).mono ?_; rintro e w6 ⟨rfl, hb6⟩; have P6 := P5.past hb6; have R6 := R5.past hb6; have S6 := pt S5 hb6; clear p0 p1 p2 p3 pl; have p0 := P6.cellAt 0 rfl; have p1 := P6.cellAt 1 rfl; have p2 := P6.cellAt 2 rfl; have p3 := P6.cellAt 3 rfl; have pl := P6.lt)
    | (go_at_call 19; refine (HRZ.out _).mono ?_; rintro e w7 ⟨rfl, hb7⟩; have P7 := P6.past hb7; have R7 := R6.past hb7; have S7 := pt S6 hb7; clear p0 p1 p2 p3 pl; have p0 := P7.cellAt 0 rfl; have p1 := P7.cellAt 1 rfl; have p2 := P7.cellAt 2 rfl; have p3 := P7.cellAt 3 rfl; have pl := P7.lt; have l0 := R7.cellAt 0 rfl; have l1 := R7.cellAt 1 rfl; have l2 := R7.cellAt 2 rfl; have l3 := R7.cellAt 3 rfl; have l4 := R7.cellAt 4 rfl; have l5 := R7.cellAt 5 rfl; have l6 := R7.cellAt 6 rfl; have l7 := R7.cellAt 7 rfl; have l8 := R7.cellAt 8 rfl; have ll := R7.lt))
  refine region_below 18 follows_mixed (by kernel_rfl) ?_
  intro C hC
  simp only [List.take_succ_cons, List.take_zero, List.drop_succ_cons, List.drop_zero]
  repeat (first
    | ((with_reducible refine quiet_plain rfl (fun K hK => ?_)); (focus (apply quiet_val; (focus (intro w' hw; obtain ⟨hcq, hfq⟩ := bcell ((hC.out _).1 hw); go_simp; (first | done | rfl | (with_reducible exact call_below hC hw (HRL.out _))))); (simp only [Act.put, List.setIfInBounds_toArray, List.set_cons_succ, List.set_cons_zero]); (with_reducible refine hK _ ?_); clear hK K)))
    | ((with_reducible refine quiet_skip ?_ ?_); (focus (first | (simp [Region.wanted, yielded]; done) | (simp [Region.wanted, yielded, undef]; done))); simp only [Act.put, List.setIfInBounds_toArray, List.set_cons_succ, List.set_cons_zero])
    | ((with_reducible refine quiet_go ?_ (fun K hK => ?_)); (focus (first | (simp [Region.wanted, yielded]; done) | (simp [Region.wanted, yielded, undef]; done))); (focus (apply quiet_val; (focus (intro w' hw; obtain ⟨hcq, hfq⟩ := bcell ((hC.out _).1 hw); go_simp; (first | done | rfl | (with_reducible exact call_below hC hw (HRL.out _))))); (simp only [Act.put, List.setIfInBounds_toArray, List.set_cons_succ, List.set_cons_zero]); (with_reducible refine hK _ ?_); clear hK K))))
  refine wpQuiet_nil ?_
  intro w1 hb1
  replace hb1 := (hC.out _).1 hb1
  clear hC C
  obtain ⟨hc1, hf1⟩ := bcell hb1
  have S8 := pt S7 hb1
  clear hb1 hc1 hf1
  go_wp2
  go_ret
  exact ⟨rfl, S8⟩

theorem windings_walk (k t s : Int) (r : Bool) (w : World) (hT : TwIn w) (hP : PatIn w) :
    Calls Tryd.prog 4 #[.agg #[.int .i64 k, .int .i64 t, .int .i64 s, .bool r]] w fun e w' => e = .returned (.bool true) ∧ Below w.heap.size w w' := by
  by_cases he : windE k t s = 0
  · have hu := windE_ok r he
    have hg : Sm 2000 ((if r then -1 else 1) * t) := by have := hu.2.2.1; have := hu.2.2.2.1; dsimp only at *; unfold Sm; cases r <;> simp <;> omega
    have hk : (k = 0 ∨ k = 1 ∨ k = 2) := by have := hu.1; have := hu.2.1; dsimp only at *; omega
    rcases hk with rfl | rfl | rfl
    · refine windings_s t s r he w hT hP (ZeroOf_s t s r he) ?_
      have h := refZero_s t s (if r then -1 else 1) r hg (sign_any 0 t s r)
      rw [show (if r then (-1 : Int) else 1) * t = sgnT t r by unfold sgnT; cases r <;> simp] at h
      exact h
    · have hz : zeroE 1 t s = 12 := by unfold zeroE; rw [he]; rfl
      have h := ZeroOf_err 1 t s r (by rw [hz]; decide)
      rw [hz] at h
      exact windings_d t s r he w hT hP h (refZero_d t s r)
    · exact windings_z t s r he w hT hP (ZeroOf_z t s r he) (refZero_z t s r)
  · exact windings_bad k t s r he w hT hP

end Go.Proofs.YtnhcamokcggnkaaDoor
