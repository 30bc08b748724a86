/- The walk of the law on strings of units: it returns true. Printed by a program (gen_strlaw.py). -/
import Derived.Test.YtccpkheiokjcdaaGreatDoorKVRef
import Derived.Test.YtccpkheiokjcdaaGreatDoorKORef
import Derived.Test.YtccpkheiokjcdaaGreatDoorO7
namespace Go.Proofs.YtccpkheiokjcdaaGreatDoor
open Go.RowKit
attribute [local go_sem ↓] Go.wp_at_zero Go.wp_at_succ

theorem unit_eqlS (a1 a2 a3 : Int) (b1 : Bool) (a4 a5 a6 : Int) (b2 : Bool) (a7 : Int) (W : World) : (binOp .eql 25 (.agg #[.int .i64 a1, .int .i64 a2, .int .i64 a3, .bool b1, .int .i64 a4, .int .i64 a5, .int .i64 a6, .bool b2, .int .i64 a7]) (.agg #[.int .i64 a1, .int .i64 a2, .int .i64 a3, .bool b1, .int .i64 a4, .int .i64 a5, .int .i64 a6, .bool b2, .int .i64 a7])).run Tryz.prog W = .ok (.bool true) W := by
  simp [go_sem]
theorem unit_neqS (a1 a2 a3 : Int) (b1 : Bool) (a4 a5 a6 : Int) (b2 : Bool) (a7 : Int) (W : World) : (binOp .neq 25 (.agg #[.int .i64 a1, .int .i64 a2, .int .i64 a3, .bool b1, .int .i64 a4, .int .i64 a5, .int .i64 a6, .bool b2, .int .i64 a7]) (.agg #[.int .i64 a1, .int .i64 a2, .int .i64 a3, .bool b1, .int .i64 a4, .int .i64 a5, .int .i64 a6, .bool b2, .int .i64 a7])).run Tryz.prog W = .ok (.bool false) W := by
  simp [go_sem]
attribute [local go_sem ↓ high] unit_eqlS unit_neqS
theorem unitOut_form (o : Option (Wind × Wind × Int)) : ∃ (a1 a2 a3 : Int) (b1 : Bool) (a4 a5 a6 : Int) (b2 : Bool) (a7 e : Int), unitOut o = (.agg #[.int .i64 a1, .int .i64 a2, .int .i64 a3, .bool b1, .int .i64 a4, .int .i64 a5, .int .i64 a6, .bool b2, .int .i64 a7], e) := by
  unfold unitOut
  rcases o with _ | ⟨x, y, n⟩
  · exact ⟨_, _, _, _, _, _, _, _, _, _, rfl⟩
  · dsimp only
    split
    · exact ⟨_, _, _, _, _, _, _, _, _, _, rfl⟩
    · exact ⟨_, _, _, _, _, _, _, _, _, _, rfl⟩

set_option maxHeartbeats 16000000 in
set_option maxRecDepth 100000 in
theorem strlaw_long (x y : Wind) (n : Int) (hx1 : I64 x.turns) (hx2 : I64 x.shift) (hy1 : I64 y.turns) (hy2 : I64 y.shift) (hn : I64 n) (l : List UInt8) (hl : 60 < l.length) (w : World) (hT : TwIn w) (hP : PatIn w) (hS : StrIn w) :
    Calls Tryz.prog 3 #[.agg #[.int .i64 x.kind, .int .i64 x.turns, .int .i64 x.shift, .bool x.rev, .int .i64 y.kind, .int .i64 y.turns, .int .i64 y.shift, .bool y.rev, .int .i64 n], .string ⟨l.toArray⟩] w fun e w' => e = .returned (.bool true) ∧ Below w.heap.size w w' := by
  have HT := Lib.hid (fun w' (h : Below w.heap.size w w') => hT.below h)
  have HP := Lib.hid (fun w' (h : Below w.heap.size w w') => hP.below h)
  have HS := Lib.hid (fun w' (h : Below w.heap.size w w') => hS.kept h)
  have hbs := bsize l
  clear hT hP hS
  have hl2 : (60 : Int) < (l.length : Int) := by omega
  go_enter Tryz.func3, Tryz.ntmps3
  go_wp2_with (first
    | (go_at_call 4; (with_reducible refine (awake_any _ (HT.out _ (pa (pr))) (HP.out _ (pa (pr)))).mono ?_); rintro e w1_ ⟨rfl, h1_⟩; have U_1 : Blk w1_ (w.heap.size) 25 #[.int .i64 x.kind, .int .i64 x.turns, .int .i64 x.shift, .bool x.rev, .int .i64 y.kind, .int .i64 y.turns, .int .i64 y.shift, .bool y.rev, .int .i64 n] := (Blk.newAt (by simp)).past h1_; have S_1 := pt (pa (pr)) h1_; clear h1_))
  go_ret
  exact ⟨rfl, by repeat (first | exact S_1 | refine pa ?_)⟩

set_option maxHeartbeats 16000000 in
set_option maxRecDepth 100000 in
theorem strlaw_bad (x y : Wind) (n : Int) (hx1 : I64 x.turns) (hx2 : I64 x.shift) (hy1 : I64 y.turns) (hy2 : I64 y.shift) (hn : I64 n) (l : List UInt8) (hl : l.length ≤ 60) (E : Int) (hE : unitE x.kind x.turns x.shift y.kind y.turns y.shift n = E) (hne : (E != 0) = true) (w : World) (hT : TwIn w) (hP : PatIn w) (hS : StrIn w) :
    Calls Tryz.prog 3 #[.agg #[.int .i64 x.kind, .int .i64 x.turns, .int .i64 x.shift, .bool x.rev, .int .i64 y.kind, .int .i64 y.turns, .int .i64 y.shift, .bool y.rev, .int .i64 n], .string ⟨l.toArray⟩] w fun e w' => e = .returned (.bool true) ∧ Below w.heap.size w w' := by
  have HT := Lib.hid (fun w' (h : Below w.heap.size w w') => hT.below h)
  have HP := Lib.hid (fun w' (h : Below w.heap.size w w') => hP.below h)
  have HS := Lib.hid (fun w' (h : Below w.heap.size w w') => hS.kept h)
  have hbs := bsize l
  clear hT hP hS
  have hl2 : ¬ (60 : Int) < (l.length : Int) := by omega
  have HF := Lib.hid (fun w' hS hP => FormatUnit_any x y n hx1 hx2 hy1 hy2 hn w' hS hP)
  have HG := Lib.hid (fun w' => refFormatUnit_any x y n hx1 hx2 hy1 hy2 hn w')
  have HA := fun w' hS hP => ParseUnit_any l (by omega) w' hS hP
  have HB := fun w' => refParseUnit_any l (by omega) w'
  obtain ⟨a1, a2, a3, b1, a4, a5, a6, b2, a7, er, hu⟩ := unitOut_form (parseU l)
  rw [hu] at HA HB
  have HA := Lib.hid HA
  have HB := Lib.hid HB
  have HE := refUnitErr_any x.kind x.turns x.shift x.rev y.kind y.turns y.shift y.rev n
  rw [hE] at HE
  have HE := Lib.hid HE
  generalize fmtU x y n = S at *
  clear hE hu hx1 hx2 hy1 hy2 hn hl
  go_enter Tryz.func3, Tryz.ntmps3
  go_wp2_with (first
    | (go_at_call 4; (with_reducible refine (awake_any _ (HT.out _ (pa (pr))) (HP.out _ (pa (pr)))).mono ?_); rintro e w1_ ⟨rfl, h1_⟩; have U_1 : Blk w1_ (w.heap.size) 25 #[.int .i64 x.kind, .int .i64 x.turns, .int .i64 x.shift, .bool x.rev, .int .i64 y.kind, .int .i64 y.turns, .int .i64 y.shift, .bool y.rev, .int .i64 n] := (Blk.newAt (by simp)).past h1_; have S_1 := pt (pa (pr)) h1_; clear h1_)
    | ((with_reducible refine load_sub (T := 25) (x := .tmp 2) (o := 0) (vs := #[.int .i64 x.kind, .int .i64 x.turns, .int .i64 x.shift, .bool x.rev, .int .i64 y.kind, .int .i64 y.turns, .int .i64 y.shift, .bool y.rev, .int .i64 n]) (show Blk _ (w.heap.size) 25 #[.int .i64 x.kind, .int .i64 x.turns, .int .i64 x.shift, .bool x.rev, .int .i64 y.kind, .int .i64 y.turns, .int .i64 y.shift, .bool y.rev, .int .i64 n] from (U_1)) ?_ ?_ Tryz.underlying25 ?_ ?_ ?_); (focus rfl); (focus rfl); (focus rfl); (focus exact pUnit_size))
    | (go_at_call 5; (with_reducible refine (HF.out _ (HS.out _ (S_1)) (HP.out _ (S_1))).mono ?_); rintro e w2_ ⟨rfl, h2_⟩; have U_2 : Blk w2_ (w.heap.size) 25 #[.int .i64 x.kind, .int .i64 x.turns, .int .i64 x.shift, .bool x.rev, .int .i64 y.kind, .int .i64 y.turns, .int .i64 y.shift, .bool y.rev, .int .i64 n] := (U_1).past h2_; have S_2 := pt (S_1) h2_; clear U_1 S_1; clear h2_)
    | (go_at_call 6; (with_reducible refine (HA.out _ (HS.out _ (S_2)) (HP.out _ (S_2))).mono ?_); rintro e w3_ ⟨rfl, h3_⟩; have U_3 : Blk w3_ (w.heap.size) 25 #[.int .i64 x.kind, .int .i64 x.turns, .int .i64 x.shift, .bool x.rev, .int .i64 y.kind, .int .i64 y.turns, .int .i64 y.shift, .bool y.rev, .int .i64 n] := (U_2).past h3_; have S_3 := pt (S_2) h3_; clear U_2 S_2; clear h3_)
    | (go_at_call 7; (with_reducible refine (HB.out _).mono ?_); rintro e w4_ ⟨rfl, h4_⟩; have U_4 : Blk w4_ (w.heap.size) 25 #[.int .i64 x.kind, .int .i64 x.turns, .int .i64 x.shift, .bool x.rev, .int .i64 y.kind, .int .i64 y.turns, .int .i64 y.shift, .bool y.rev, .int .i64 n] := (U_3.alloc).past h4_; have X_4 : Blk w4_ (w3_.heap.size) 25 #[.int .i64 a1, .int .i64 a2, .int .i64 a3, .bool b1, .int .i64 a4, .int .i64 a5, .int .i64 a6, .bool b2, .int .i64 a7] := (Blk.newAt (by simp)).past h4_; have S_4 := pt (pa (S_3)) h4_; clear U_3 S_3; clear h4_)
    | ((with_reducible refine load_sub (T := 25) (x := .tmp 2) (o := 0) (vs := #[.int .i64 x.kind, .int .i64 x.turns, .int .i64 x.shift, .bool x.rev, .int .i64 y.kind, .int .i64 y.turns, .int .i64 y.shift, .bool y.rev, .int .i64 n]) (show Blk _ (w.heap.size) 25 #[.int .i64 x.kind, .int .i64 x.turns, .int .i64 x.shift, .bool x.rev, .int .i64 y.kind, .int .i64 y.turns, .int .i64 y.shift, .bool y.rev, .int .i64 n] from (U_4.alloc)) ?_ ?_ Tryz.underlying25 ?_ ?_ ?_); (focus rfl); (focus rfl); (focus rfl); (focus exact pUnit_size))
    | (go_at_call 8; (with_reducible refine (HG.out _).mono ?_); rintro e w5_ ⟨rfl, h5_⟩; have U_5 : Blk w5_ (w.heap.size) 25 #[.int .i64 x.kind, .int .i64 x.turns, .int .i64 x.shift, .bool x.rev, .int .i64 y.kind, .int .i64 y.turns, .int .i64 y.shift, .bool y.rev, .int .i64 n] := (U_4.alloc).past h5_; have X_5 : Blk w5_ (w3_.heap.size) 25 #[.int .i64 a1, .int .i64 a2, .int .i64 a3, .bool b1, .int .i64 a4, .int .i64 a5, .int .i64 a6, .bool b2, .int .i64 a7] := (X_4.alloc).past h5_; have Y_5 : Blk w5_ (w4_.heap.size) 25 #[.int .i64 a1, .int .i64 a2, .int .i64 a3, .bool b1, .int .i64 a4, .int .i64 a5, .int .i64 a6, .bool b2, .int .i64 a7] := (Blk.newAt (by simp)).past h5_; have S_5 := pt (pa (S_4)) h5_; clear U_4 X_4 S_4; have Xc0 := X_5.cellAt 0 rfl; have Xc1 := X_5.cellAt 1 rfl; have Xc2 := X_5.cellAt 2 rfl; have Xc3 := X_5.cellAt 3 rfl; have Xc4 := X_5.cellAt 4 rfl; have Xc5 := X_5.cellAt 5 rfl; have Xc6 := X_5.cellAt 6 rfl; have Xc7 := X_5.cellAt 7 rfl; have Xc8 := X_5.cellAt 8 rfl; have Xl := X_5.lt; have Yc0 := Y_5.cellAt 0 rfl; have Yc1 := Y_5.cellAt 1 rfl; have Yc2 := Y_5.cellAt 2 rfl; have Yc3 := Y_5.cellAt 3 rfl; have Yc4 := Y_5.cellAt 4 rfl; have Yc5 := Y_5.cellAt 5 rfl; have Yc6 := Y_5.cellAt 6 rfl; have Yc7 := Y_5.cellAt 7 rfl; have Yc8 := Y_5.cellAt 8 rfl; have Yl := Y_5.lt; clear h5_)
    | ((with_reducible refine load_sub (T := 25) (x := .tmp 2) (o := 0) (vs := #[.int .i64 x.kind, .int .i64 x.turns, .int .i64 x.shift, .bool x.rev, .int .i64 y.kind, .int .i64 y.turns, .int .i64 y.shift, .bool y.rev, .int .i64 n]) (show Blk _ (w.heap.size) 25 #[.int .i64 x.kind, .int .i64 x.turns, .int .i64 x.shift, .bool x.rev, .int .i64 y.kind, .int .i64 y.turns, .int .i64 y.shift, .bool y.rev, .int .i64 n] from (U_5)) ?_ ?_ Tryz.underlying25 ?_ ?_ ?_); (focus rfl); (focus rfl); (focus rfl); (focus exact pUnit_size))
    | (go_at_call 9; (with_reducible refine (HE.out _).mono ?_); rintro e w6_ ⟨rfl, h6_⟩; have U_6 : Blk w6_ (w.heap.size) 25 #[.int .i64 x.kind, .int .i64 x.turns, .int .i64 x.shift, .bool x.rev, .int .i64 y.kind, .int .i64 y.turns, .int .i64 y.shift, .bool y.rev, .int .i64 n] := (U_5).past h6_; have X_6 : Blk w6_ (w3_.heap.size) 25 #[.int .i64 a1, .int .i64 a2, .int .i64 a3, .bool b1, .int .i64 a4, .int .i64 a5, .int .i64 a6, .bool b2, .int .i64 a7] := (X_5).past h6_; have Y_6 : Blk w6_ (w4_.heap.size) 25 #[.int .i64 a1, .int .i64 a2, .int .i64 a3, .bool b1, .int .i64 a4, .int .i64 a5, .int .i64 a6, .bool b2, .int .i64 a7] := (Y_5).past h6_; have S_6 := pt (S_5) h6_; clear U_5 X_5 Y_5 S_5 Xc0 Xc1 Xc2 Xc3 Xc4 Xc5 Xc6 Xc7 Xc8 Xl Yc0 Yc1 Yc2 Yc3 Yc4 Yc5 Yc6 Yc7 Yc8 Yl; clear h6_))
  go_ret
  exact ⟨rfl, by repeat (first | exact S_6 | refine pa ?_)⟩

set_option maxHeartbeats 16000000 in
set_option maxRecDepth 100000 in
theorem strlaw_good (x y : Wind) (n : Int) (hx1 : I64 x.turns) (hx2 : I64 x.shift) (hy1 : I64 y.turns) (hy2 : I64 y.shift) (hn : I64 n) (l : List UInt8) (hl : l.length ≤ 60) (hE : unitE x.kind x.turns x.shift y.kind y.turns y.shift n = 0) (hs : (fmtU x y n).length ≤ 1000) (hq : unitOut (parseU (fmtU x y n)) = (unitV x y n, 0)) (w : World) (hT : TwIn w) (hP : PatIn w) (hS : StrIn w) :
    Calls Tryz.prog 3 #[.agg #[.int .i64 x.kind, .int .i64 x.turns, .int .i64 x.shift, .bool x.rev, .int .i64 y.kind, .int .i64 y.turns, .int .i64 y.shift, .bool y.rev, .int .i64 n], .string ⟨l.toArray⟩] w fun e w' => e = .returned (.bool true) ∧ Below w.heap.size w w' := by
  have HT := Lib.hid (fun w' (h : Below w.heap.size w w') => hT.below h)
  have HP := Lib.hid (fun w' (h : Below w.heap.size w w') => hP.below h)
  have HS := Lib.hid (fun w' (h : Below w.heap.size w w') => hS.kept h)
  have hbs := bsize l
  clear hT hP hS
  have hl2 : ¬ (60 : Int) < (l.length : Int) := by omega
  have HF := Lib.hid (fun w' hS hP => FormatUnit_any x y n hx1 hx2 hy1 hy2 hn w' hS hP)
  have HG := Lib.hid (fun w' => refFormatUnit_any x y n hx1 hx2 hy1 hy2 hn w')
  have HA := fun w' hS hP => ParseUnit_any l (by omega) w' hS hP
  have HB := fun w' => refParseUnit_any l (by omega) w'
  obtain ⟨a1, a2, a3, b1, a4, a5, a6, b2, a7, er, hu⟩ := unitOut_form (parseU l)
  rw [hu] at HA HB
  have HA := Lib.hid HA
  have HB := Lib.hid HB
  have HE := refUnitErr_any x.kind x.turns x.shift x.rev y.kind y.turns y.shift y.rev n
  rw [hE] at HE
  have HE := Lib.hid HE
  have HC := fun w' hS hP => ParseUnit_any (fmtU x y n) hs w' hS hP
  rw [hq] at HC
  have HC := Lib.hid HC
  unfold unitV at HC
  generalize fmtU x y n = S at *
  clear hE hu hq hs hx1 hx2 hy1 hy2 hn hl
  go_enter Tryz.func3, Tryz.ntmps3
  go_wp2_with (first
    | (go_at_call 4; (with_reducible refine (awake_any _ (HT.out _ (pa (pr))) (HP.out _ (pa (pr)))).mono ?_); rintro e w1_ ⟨rfl, h1_⟩; have U_1 : Blk w1_ (w.heap.size) 25 #[.int .i64 x.kind, .int .i64 x.turns, .int .i64 x.shift, .bool x.rev, .int .i64 y.kind, .int .i64 y.turns, .int .i64 y.shift, .bool y.rev, .int .i64 n] := (Blk.newAt (by simp)).past h1_; have S_1 := pt (pa (pr)) h1_; clear h1_)
    | ((with_reducible refine load_sub (T := 25) (x := .tmp 2) (o := 0) (vs := #[.int .i64 x.kind, .int .i64 x.turns, .int .i64 x.shift, .bool x.rev, .int .i64 y.kind, .int .i64 y.turns, .int .i64 y.shift, .bool y.rev, .int .i64 n]) (show Blk _ (w.heap.size) 25 #[.int .i64 x.kind, .int .i64 x.turns, .int .i64 x.shift, .bool x.rev, .int .i64 y.kind, .int .i64 y.turns, .int .i64 y.shift, .bool y.rev, .int .i64 n] from (U_1)) ?_ ?_ Tryz.underlying25 ?_ ?_ ?_); (focus rfl); (focus rfl); (focus rfl); (focus exact pUnit_size))
    | (go_at_call 5; (with_reducible refine (HF.out _ (HS.out _ (S_1)) (HP.out _ (S_1))).mono ?_); rintro e w2_ ⟨rfl, h2_⟩; have U_2 : Blk w2_ (w.heap.size) 25 #[.int .i64 x.kind, .int .i64 x.turns, .int .i64 x.shift, .bool x.rev, .int .i64 y.kind, .int .i64 y.turns, .int .i64 y.shift, .bool y.rev, .int .i64 n] := (U_1).past h2_; have S_2 := pt (S_1) h2_; clear U_1 S_1; clear h2_)
    | (go_at_call 6; (with_reducible refine (HA.out _ (HS.out _ (S_2)) (HP.out _ (S_2))).mono ?_); rintro e w3_ ⟨rfl, h3_⟩; have U_3 : Blk w3_ (w.heap.size) 25 #[.int .i64 x.kind, .int .i64 x.turns, .int .i64 x.shift, .bool x.rev, .int .i64 y.kind, .int .i64 y.turns, .int .i64 y.shift, .bool y.rev, .int .i64 n] := (U_2).past h3_; have S_3 := pt (S_2) h3_; clear U_2 S_2; clear h3_)
    | (go_at_call 7; (with_reducible refine (HB.out _).mono ?_); rintro e w4_ ⟨rfl, h4_⟩; have U_4 : Blk w4_ (w.heap.size) 25 #[.int .i64 x.kind, .int .i64 x.turns, .int .i64 x.shift, .bool x.rev, .int .i64 y.kind, .int .i64 y.turns, .int .i64 y.shift, .bool y.rev, .int .i64 n] := (U_3.alloc).past h4_; have X_4 : Blk w4_ (w3_.heap.size) 25 #[.int .i64 a1, .int .i64 a2, .int .i64 a3, .bool b1, .int .i64 a4, .int .i64 a5, .int .i64 a6, .bool b2, .int .i64 a7] := (Blk.newAt (by simp)).past h4_; have S_4 := pt (pa (S_3)) h4_; clear U_3 S_3; clear h4_)
    | ((with_reducible refine load_sub (T := 25) (x := .tmp 2) (o := 0) (vs := #[.int .i64 x.kind, .int .i64 x.turns, .int .i64 x.shift, .bool x.rev, .int .i64 y.kind, .int .i64 y.turns, .int .i64 y.shift, .bool y.rev, .int .i64 n]) (show Blk _ (w.heap.size) 25 #[.int .i64 x.kind, .int .i64 x.turns, .int .i64 x.shift, .bool x.rev, .int .i64 y.kind, .int .i64 y.turns, .int .i64 y.shift, .bool y.rev, .int .i64 n] from (U_4.alloc)) ?_ ?_ Tryz.underlying25 ?_ ?_ ?_); (focus rfl); (focus rfl); (focus rfl); (focus exact pUnit_size))
    | (go_at_call 8; (with_reducible refine (HG.out _).mono ?_); rintro e w5_ ⟨rfl, h5_⟩; have U_5 : Blk w5_ (w.heap.size) 25 #[.int .i64 x.kind, .int .i64 x.turns, .int .i64 x.shift, .bool x.rev, .int .i64 y.kind, .int .i64 y.turns, .int .i64 y.shift, .bool y.rev, .int .i64 n] := (U_4.alloc).past h5_; have X_5 : Blk w5_ (w3_.heap.size) 25 #[.int .i64 a1, .int .i64 a2, .int .i64 a3, .bool b1, .int .i64 a4, .int .i64 a5, .int .i64 a6, .bool b2, .int .i64 a7] := (X_4.alloc).past h5_; have Y_5 : Blk w5_ (w4_.heap.size) 25 #[.int .i64 a1, .int .i64 a2, .int .i64 a3, .bool b1, .int .i64 a4, .int .i64 a5, .int .i64 a6, .bool b2, .int .i64 a7] := (Blk.newAt (by simp)).past h5_; have S_5 := pt (pa (S_4)) h5_; clear U_4 X_4 S_4; have Xc0 := X_5.cellAt 0 rfl; have Xc1 := X_5.cellAt 1 rfl; have Xc2 := X_5.cellAt 2 rfl; have Xc3 := X_5.cellAt 3 rfl; have Xc4 := X_5.cellAt 4 rfl; have Xc5 := X_5.cellAt 5 rfl; have Xc6 := X_5.cellAt 6 rfl; have Xc7 := X_5.cellAt 7 rfl; have Xc8 := X_5.cellAt 8 rfl; have Xl := X_5.lt; have Yc0 := Y_5.cellAt 0 rfl; have Yc1 := Y_5.cellAt 1 rfl; have Yc2 := Y_5.cellAt 2 rfl; have Yc3 := Y_5.cellAt 3 rfl; have Yc4 := Y_5.cellAt 4 rfl; have Yc5 := Y_5.cellAt 5 rfl; have Yc6 := Y_5.cellAt 6 rfl; have Yc7 := Y_5.cellAt 7 rfl; have Yc8 := Y_5.cellAt 8 rfl; have Yl := Y_5.lt; clear h5_)
    | ((with_reducible refine load_sub (T := 25) (x := .tmp 2) (o := 0) (vs := #[.int .i64 x.kind, .int .i64 x.turns, .int .i64 x.shift, .bool x.rev, .int .i64 y.kind, .int .i64 y.turns, .int .i64 y.shift, .bool y.rev, .int .i64 n]) (show Blk _ (w.heap.size) 25 #[.int .i64 x.kind, .int .i64 x.turns, .int .i64 x.shift, .bool x.rev, .int .i64 y.kind, .int .i64 y.turns, .int .i64 y.shift, .bool y.rev, .int .i64 n] from (U_5)) ?_ ?_ Tryz.underlying25 ?_ ?_ ?_); (focus rfl); (focus rfl); (focus rfl); (focus exact pUnit_size))
    | (go_at_call 9; (with_reducible refine (HE.out _).mono ?_); rintro e w6_ ⟨rfl, h6_⟩; have U_6 : Blk w6_ (w.heap.size) 25 #[.int .i64 x.kind, .int .i64 x.turns, .int .i64 x.shift, .bool x.rev, .int .i64 y.kind, .int .i64 y.turns, .int .i64 y.shift, .bool y.rev, .int .i64 n] := (U_5).past h6_; have X_6 : Blk w6_ (w3_.heap.size) 25 #[.int .i64 a1, .int .i64 a2, .int .i64 a3, .bool b1, .int .i64 a4, .int .i64 a5, .int .i64 a6, .bool b2, .int .i64 a7] := (X_5).past h6_; have Y_6 : Blk w6_ (w4_.heap.size) 25 #[.int .i64 a1, .int .i64 a2, .int .i64 a3, .bool b1, .int .i64 a4, .int .i64 a5, .int .i64 a6, .bool b2, .int .i64 a7] := (Y_5).past h6_; have S_6 := pt (S_5) h6_; clear U_5 X_5 Y_5 S_5 Xc0 Xc1 Xc2 Xc3 Xc4 Xc5 Xc6 Xc7 Xc8 Xl Yc0 Yc1 Yc2 Yc3 Yc4 Yc5 Yc6 Yc7 Yc8 Yl; clear h6_)
    | (go_at_call 6; (with_reducible refine (HC.out _ (HS.out _ (S_6)) (HP.out _ (S_6))).mono ?_); rintro e w7_ ⟨rfl, h7_⟩; have U_7 : Blk w7_ (w.heap.size) 25 #[.int .i64 x.kind, .int .i64 x.turns, .int .i64 x.shift, .bool x.rev, .int .i64 y.kind, .int .i64 y.turns, .int .i64 y.shift, .bool y.rev, .int .i64 n] := (U_6).past h7_; have X_7 : Blk w7_ (w3_.heap.size) 25 #[.int .i64 a1, .int .i64 a2, .int .i64 a3, .bool b1, .int .i64 a4, .int .i64 a5, .int .i64 a6, .bool b2, .int .i64 a7] := (X_6).past h7_; have Y_7 : Blk w7_ (w4_.heap.size) 25 #[.int .i64 a1, .int .i64 a2, .int .i64 a3, .bool b1, .int .i64 a4, .int .i64 a5, .int .i64 a6, .bool b2, .int .i64 a7] := (Y_6).past h7_; have S_7 := pt (S_6) h7_; clear U_6 X_6 Y_6 S_6; have Uc0 := U_7.cellAt 0 rfl; have Uc1 := U_7.cellAt 1 rfl; have Uc2 := U_7.cellAt 2 rfl; have Uc3 := U_7.cellAt 3 rfl; have Uc4 := U_7.cellAt 4 rfl; have Uc5 := U_7.cellAt 5 rfl; have Uc6 := U_7.cellAt 6 rfl; have Uc7 := U_7.cellAt 7 rfl; have Uc8 := U_7.cellAt 8 rfl; have Ul := U_7.lt; clear h7_))
  go_ret
  exact ⟨rfl, by repeat (first | exact S_7 | refine pa ?_)⟩

end Go.Proofs.YtccpkheiokjcdaaGreatDoor
