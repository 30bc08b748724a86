/- The walk of the law on units: it returns true. Printed by a program (gen_unitlaw.py). -/
import Derived.Test.YtnhcamokcggnkaaGreatDoorHLTap
import Derived.Test.YtnhcamokcggnkaaGreatDoorHMName
import Derived.Test.YtnhcamokcggnkaaGreatDoorGJAwake
namespace Go.Proofs.YtnhcamokcggnkaaGreatDoor
open Go.RowKit
attribute [local go_sem ↓] Go.wp_at_zero Go.wp_at_succ

theorem unit_eql (a1 a2 a3 : Int) (b1 : Bool) (a4 a5 a6 : Int) (b2 : Bool) (a7 : Int) (W : World) : (binOp .eql 25 (.agg #[.int .i64 a1, .int .i64 a2, .int .i64 a3, .bool b1, .int .i64 a4, .int .i64 a5, .int .i64 a6, .bool b2, .int .i64 a7]) (.agg #[.int .i64 a1, .int .i64 a2, .int .i64 a3, .bool b1, .int .i64 a4, .int .i64 a5, .int .i64 a6, .bool b2, .int .i64 a7])).run Tryz.prog W = .ok (.bool true) W := by
  simp [go_sem]
theorem frac_eql (a b : Int) (W : World) : (binOp .eql 33 (.agg #[.int .i64 a, .int .i64 b]) (.agg #[.int .i64 a, .int .i64 b])).run Tryz.prog W = .ok (.bool true) W := by
  simp [go_sem]
theorem str_eql (a : ByteArray) (W : World) : (binOp .eql 9 (.string a) (.string a)).run Tryz.prog W = .ok (.bool true) W := by
  simp [go_sem]
attribute [local go_sem ↓ high] unit_eql frac_eql str_eql

set_option maxHeartbeats 4000000 in
theorem NameOf_err (k t s : Int) (r : Bool) (k2 t2 s2 : Int) (r2 : Bool) (n : Int) (he : unitE k t s k2 t2 s2 n ≠ 0) (w : World) :
    Calls Tryz.prog 9 #[.agg #[.int .i64 k, .int .i64 t, .int .i64 s, .bool r, .int .i64 k2, .int .i64 t2, .int .i64 s2, .bool r2, .int .i64 n]] w fun z w' => z = .returned (.tuple #[.string ⟨#[]⟩, .int .i64 (unitE k t s k2 t2 s2 n)]) ∧ Below w.heap.size w w' := by
  have HC := Lib.hid (checkUnit_any k t s r k2 t2 s2 r2 n)
  have hne : (unitE k t s k2 t2 s2 n == 0) = false := by simpa using he
  generalize unitE k t s k2 t2 s2 n = E at *
  clear he
  go_enter Tryz.func9, Tryz.ntmps9
  go_wp2_with (go_at_call 13; refine (HC.out _).mono ?_; rintro e w1 ⟨rfl, hb1⟩; have S1 := pt (pa pr) hb1)
  go_ret2
  exact ⟨rfl, S1⟩


set_option maxHeartbeats 4000000 in
theorem RatioSquare_err (k t s : Int) (r : Bool) (k2 t2 s2 : Int) (r2 : Bool) (n : Int) (he : unitE k t s k2 t2 s2 n ≠ 0) (w : World) :
    Calls Tryz.prog 10 #[.agg #[.int .i64 k, .int .i64 t, .int .i64 s, .bool r, .int .i64 k2, .int .i64 t2, .int .i64 s2, .bool r2, .int .i64 n]] w fun z w' => z = .returned (.tuple #[.agg #[.int .i64 0, .int .i64 0], .int .i64 (unitE k t s k2 t2 s2 n)]) ∧ Below w.heap.size w w' := by
  have HC := Lib.hid (checkUnit_any k t s r k2 t2 s2 r2 n)
  have hne : (unitE k t s k2 t2 s2 n == 0) = false := by simpa using he
  generalize unitE k t s k2 t2 s2 n = E at *
  clear he
  go_enter Tryz.func10, Tryz.ntmps10
  go_wp2_with (first
    | (go_at_call 13; (with_reducible refine (HC.out _).mono ?_); rintro e w1_ ⟨rfl, h1_⟩; have A_1 : Blk w1_ (w.heap.size) 25 #[.int .i64 k, .int .i64 t, .int .i64 s, .bool r, .int .i64 k2, .int .i64 t2, .int .i64 s2, .bool r2, .int .i64 n] := (Blk.newAt (by simp)).alloc.past h1_; have R_1 : Blk w1_ (w.heap.size + 1) 33 #[.int .i64 0, .int .i64 0] := (Blk.newAt (by simp)).past h1_; have ne_R_A : w.heap.size + 1 ≠ w.heap.size := (by omega); have ge_R : w.heap.size ≤ w.heap.size + 1 := (by omega); have S_1 := pt (pa (pa (pr))) h1_; have Ac0 := A_1.cellAt 0 rfl; have Ac1 := A_1.cellAt 1 rfl; have Ac2 := A_1.cellAt 2 rfl; have Ac3 := A_1.cellAt 3 rfl; have Ac4 := A_1.cellAt 4 rfl; have Ac5 := A_1.cellAt 5 rfl; have Ac6 := A_1.cellAt 6 rfl; have Ac7 := A_1.cellAt 7 rfl; have Ac8 := A_1.cellAt 8 rfl; have Al := A_1.lt; have Rc0 := R_1.cellAt 0 rfl; have Rc1 := R_1.cellAt 1 rfl; have Rl := R_1.lt; clear h1_)
    | ((with_reducible refine store_sub (T := 33) (x := .tmp 2) (y := .tmp 9) (o := 0) (cs' := #[.int .i64 0, .int .i64 0]) (vs := #[.int .i64 0, .int .i64 0]) (show Blk _ (w.heap.size + 1) 33 #[.int .i64 0, .int .i64 0] from (R_1)) ?_ ?_ ?_ ?_ ?_ ?_ ?_); (focus rfl); (focus rfl); (focus rfl); (focus exact Nat.le_of_ble_eq_true rfl); (focus exact frac_size); (focus (simp [Value.oneCell']; done)); intro w2_ b2_ h2_; have A_2 : Blk w2_ (w.heap.size) 25 #[.int .i64 k, .int .i64 t, .int .i64 s, .bool r, .int .i64 k2, .int .i64 t2, .int .i64 s2, .bool r2, .int .i64 n] := (A_1).put h2_ (Ne.symm ne_R_A); have R_2 : Blk w2_ (w.heap.size + 1) 33 #[.int .i64 0, .int .i64 0] := b2_; have S_2 := pp (S_1) h2_ ge_R; clear A_1 R_1 S_1 Ac0 Ac1 Ac2 Ac3 Ac4 Ac5 Ac6 Ac7 Ac8 Al Rc0 Rc1 Rl; clear h2_ b2_))
  have z0 := R_2.cellAt 0 rfl
  have z1 := R_2.cellAt 1 rfl
  exact bodyPost_ret (v := .tuple #[.agg #[.int .i64 0, .int .i64 0], .int .i64 E]) (by simp [results, Tryz.results10, go_sem, z0, z1]) rfl ⟨rfl, S_2⟩

set_option maxHeartbeats 4000000 in
theorem RatioSquare_ok (k t s : Int) (r : Bool) (k2 t2 s2 : Int) (r2 : Bool) (n : Int) (he : unitE k t s k2 t2 s2 n = 0) (w : World) (hP : PatIn w) :
    Calls Tryz.prog 10 #[.agg #[.int .i64 k, .int .i64 t, .int .i64 s, .bool r, .int .i64 k2, .int .i64 t2, .int .i64 s2, .bool r2, .int .i64 n]] w fun z w' => z = .returned (.tuple #[.agg #[.int .i64 (ratN (sqW k t) (sqW k2 t2)), .int .i64 (ratD (sqW k t) (sqW k2 t2))], .int .i64 0]) ∧ Below w.heap.size w w' := by
  have HC := Lib.hid (checkUnit_any k t s r k2 t2 s2 r2 n)
  obtain ⟨u1, u2, _, _⟩ := unitE_ok r r2 he
  rw [he] at HC
  have HR := Lib.hid (ratio_any k t s r k2 t2 s2 r2 n u1 u2)
  have HP := Lib.hid (fun w' (h : Below w.heap.size w w') => hP.below h)
  generalize ratN (sqW k t) (sqW k2 t2) = x at *
  generalize ratD (sqW k t) (sqW k2 t2) = y at *
  clear he u1 u2 hP
  go_enter Tryz.func10, Tryz.ntmps10
  go_wp2_with (first
    | (go_at_call 13; (with_reducible refine (HC.out _).mono ?_); rintro e w1_ ⟨rfl, h1_⟩; have A_1 : Blk w1_ (w.heap.size) 25 #[.int .i64 k, .int .i64 t, .int .i64 s, .bool r, .int .i64 k2, .int .i64 t2, .int .i64 s2, .bool r2, .int .i64 n] := (Blk.newAt (by simp)).alloc.past h1_; have R_1 : Blk w1_ (w.heap.size + 1) 33 #[.int .i64 0, .int .i64 0] := (Blk.newAt (by simp)).past h1_; have ne_R_A : w.heap.size + 1 ≠ w.heap.size := (by omega); have ge_R : w.heap.size ≤ w.heap.size + 1 := (by omega); have S_1 := pt (pa (pa (pr))) h1_; have Rc0 := R_1.cellAt 0 rfl; have Rc1 := R_1.cellAt 1 rfl; have Rl := R_1.lt; clear h1_)
    | ((with_reducible refine load_sub (T := 25) (x := .tmp 1) (o := 0) (vs := #[.int .i64 k, .int .i64 t, .int .i64 s, .bool r, .int .i64 k2, .int .i64 t2, .int .i64 s2, .bool r2, .int .i64 n]) (show Blk _ (w.heap.size) 25 #[.int .i64 k, .int .i64 t, .int .i64 s, .bool r, .int .i64 k2, .int .i64 t2, .int .i64 s2, .bool r2, .int .i64 n] from (A_1)) ?_ ?_ Tryz.underlying25 ?_ ?_ ?_); (focus rfl); (focus rfl); (focus rfl); (focus exact apiUnit_size))
    | (go_at_call 47; (with_reducible refine (HR.out _ (HP.out _ (S_1))).mono ?_); rintro e w2_ ⟨rfl, h2_⟩; have A_2 : Blk w2_ (w.heap.size) 25 #[.int .i64 k, .int .i64 t, .int .i64 s, .bool r, .int .i64 k2, .int .i64 t2, .int .i64 s2, .bool r2, .int .i64 n] := (A_1).past h2_; have R_2 : Blk w2_ (w.heap.size + 1) 33 #[.int .i64 0, .int .i64 0] := (R_1).past h2_; have S_2 := pt (S_1) h2_; clear A_1 R_1 S_1 Rc0 Rc1 Rl; have Rc0 := R_2.cellAt 0 rfl; have Rc1 := R_2.cellAt 1 rfl; have Rl := R_2.lt; clear h2_)
    | ((with_reducible refine store_sub (T := 33) (x := .tmp 2) (y := .tmp 12) (o := 0) (cs' := #[.int .i64 x, .int .i64 y]) (vs := #[.int .i64 x, .int .i64 y]) (show Blk _ (w.heap.size + 1) 33 #[.int .i64 0, .int .i64 0] from (R_2)) ?_ ?_ ?_ ?_ ?_ ?_ ?_); (focus rfl); (focus rfl); (focus rfl); (focus exact Nat.le_of_ble_eq_true rfl); (focus exact frac_size); (focus (simp [Value.oneCell']; done)); intro w3_ b3_ h3_; have A_3 : Blk w3_ (w.heap.size) 25 #[.int .i64 k, .int .i64 t, .int .i64 s, .bool r, .int .i64 k2, .int .i64 t2, .int .i64 s2, .bool r2, .int .i64 n] := (A_2).put h3_ (Ne.symm ne_R_A); have R_3 : Blk w3_ (w.heap.size + 1) 33 #[.int .i64 x, .int .i64 y] := b3_; have S_3 := pp (S_2) h3_ ge_R; clear A_2 R_2 S_2 Rc0 Rc1 Rl; clear h3_ b3_))
  have z0 := R_3.cellAt 0 rfl
  have z1 := R_3.cellAt 1 rfl
  exact bodyPost_ret (v := .tuple #[.agg #[.int .i64 x, .int .i64 y], .int .i64 0]) (by simp [results, Tryz.results10, go_sem, z0, z1]) rfl ⟨rfl, S_3⟩

set_option maxHeartbeats 16000000 in
set_option maxRecDepth 100000 in
theorem units_bad (k t s : Int) (r : Bool) (k2 t2 s2 : Int) (r2 : Bool) (n tap : Int) (E : Int) (he : unitE k t s k2 t2 s2 n = E) (h0 : (E == 0) = false) (w : World) (hT : TwIn w) (hP : PatIn w) :
    Calls Tryz.prog 3 #[.agg #[.int .i64 k, .int .i64 t, .int .i64 s, .bool r, .int .i64 k2, .int .i64 t2, .int .i64 s2, .bool r2, .int .i64 n], .int .i64 tap] w fun e w' => e = .returned (.bool true) ∧ Below w.heap.size w w' := by
  have HT := Lib.hid (fun w' (h : Below w.heap.size w w') => hT.below h)
  have HP := Lib.hid (fun w' (h : Below w.heap.size w w') => hP.below h)
  clear hT hP
  have HE := Lib.hid (refUnitErr_any k t s r k2 t2 s2 r2 n)
  have HC := Lib.hid (checkUnit_any k t s r k2 t2 s2 r2 n)
  have hne : unitE k t s k2 t2 s2 n ≠ 0 := fun h => by rw [he] at h; subst h; cases h0
  have HK := Lib.hid (ClockOf_err k t s r k2 t2 s2 r2 n hne)
  have HN := Lib.hid (NameOf_err k t s r k2 t2 s2 r2 n hne)
  have HR := Lib.hid (RatioSquare_err k t s r k2 t2 s2 r2 n hne)
  have ht : tapE k t s k2 t2 s2 n tap = unitE k t s k2 t2 s2 n := by unfold tapE; simp [firstV, hne]
  have HG := Lib.hid (Tapped_bad k t s r k2 t2 s2 r2 n tap (by rw [ht]; exact hne))
  rw [ht] at HG
  rw [he] at HK HN HR HG HE HC
  have h0' : ¬ E = 0 := fun h => by subst h; cases h0
  have g0 : (E != 0) = true := by simp [h0']
  clear hne he ht
  go_enter Tryz.func3, Tryz.ntmps3
  go_wp2_with (first
    | (go_at_call 7; (with_reducible refine (awake_any _ (HT.out _ (pa (pr))) (HP.out _ (pa (pr)))).mono ?_); rintro e w1_ ⟨rfl, h1_⟩; have U_1 : Blk w1_ (w.heap.size) 25 #[.int .i64 k, .int .i64 t, .int .i64 s, .bool r, .int .i64 k2, .int .i64 t2, .int .i64 s2, .bool r2, .int .i64 n] := (Blk.newAt (by simp)).past h1_; have S_1 := pt (pa (pr)) h1_; clear h1_)
    | ((with_reducible refine load_sub (T := 25) (x := .tmp 2) (o := 0) (vs := #[.int .i64 k, .int .i64 t, .int .i64 s, .bool r, .int .i64 k2, .int .i64 t2, .int .i64 s2, .bool r2, .int .i64 n]) (show Blk _ (w.heap.size) 25 #[.int .i64 k, .int .i64 t, .int .i64 s, .bool r, .int .i64 k2, .int .i64 t2, .int .i64 s2, .bool r2, .int .i64 n] from (U_1)) ?_ ?_ Tryz.underlying25 ?_ ?_ ?_); (focus rfl); (focus rfl); (focus rfl); (focus exact apiUnit_size))
    | (go_at_call 8; (with_reducible refine (HK.out _).mono ?_); rintro e w2_ ⟨rfl, h2_⟩; have U_2 : Blk w2_ (w.heap.size) 25 #[.int .i64 k, .int .i64 t, .int .i64 s, .bool r, .int .i64 k2, .int .i64 t2, .int .i64 s2, .bool r2, .int .i64 n] := (U_1).past h2_; have S_2 := pt (S_1) h2_; clear U_1 S_1; clear h2_)
    | ((with_reducible refine load_sub (T := 25) (x := .tmp 2) (o := 0) (vs := #[.int .i64 k, .int .i64 t, .int .i64 s, .bool r, .int .i64 k2, .int .i64 t2, .int .i64 s2, .bool r2, .int .i64 n]) (show Blk _ (w.heap.size) 25 #[.int .i64 k, .int .i64 t, .int .i64 s, .bool r, .int .i64 k2, .int .i64 t2, .int .i64 s2, .bool r2, .int .i64 n] from (U_2)) ?_ ?_ Tryz.underlying25 ?_ ?_ ?_); (focus rfl); (focus rfl); (focus rfl); (focus exact apiUnit_size))
    | (go_at_call 9; (with_reducible refine (HN.out _).mono ?_); rintro e w3_ ⟨rfl, h3_⟩; have U_3 : Blk w3_ (w.heap.size) 25 #[.int .i64 k, .int .i64 t, .int .i64 s, .bool r, .int .i64 k2, .int .i64 t2, .int .i64 s2, .bool r2, .int .i64 n] := (U_2).past h3_; have S_3 := pt (S_2) h3_; clear U_2 S_2; clear h3_)
    | ((with_reducible refine load_sub (T := 25) (x := .tmp 2) (o := 0) (vs := #[.int .i64 k, .int .i64 t, .int .i64 s, .bool r, .int .i64 k2, .int .i64 t2, .int .i64 s2, .bool r2, .int .i64 n]) (show Blk _ (w.heap.size) 25 #[.int .i64 k, .int .i64 t, .int .i64 s, .bool r, .int .i64 k2, .int .i64 t2, .int .i64 s2, .bool r2, .int .i64 n] from (U_3)) ?_ ?_ Tryz.underlying25 ?_ ?_ ?_); (focus rfl); (focus rfl); (focus rfl); (focus exact apiUnit_size))
    | (go_at_call 10; (with_reducible refine (HR.out _).mono ?_); rintro e w4_ ⟨rfl, h4_⟩; have U_4 : Blk w4_ (w.heap.size) 25 #[.int .i64 k, .int .i64 t, .int .i64 s, .bool r, .int .i64 k2, .int .i64 t2, .int .i64 s2, .bool r2, .int .i64 n] := (U_3).past h4_; have S_4 := pt (S_3) h4_; clear U_3 S_3; clear h4_)
    | ((with_reducible refine load_sub (T := 25) (x := .tmp 2) (o := 0) (vs := #[.int .i64 k, .int .i64 t, .int .i64 s, .bool r, .int .i64 k2, .int .i64 t2, .int .i64 s2, .bool r2, .int .i64 n]) (show Blk _ (w.heap.size) 25 #[.int .i64 k, .int .i64 t, .int .i64 s, .bool r, .int .i64 k2, .int .i64 t2, .int .i64 s2, .bool r2, .int .i64 n] from (U_4.alloc)) ?_ ?_ Tryz.underlying25 ?_ ?_ ?_); (focus rfl); (focus rfl); (focus rfl); (focus exact apiUnit_size))
    | (go_at_call 11; (with_reducible refine (HG.out _).mono ?_); rintro e w5_ ⟨rfl, h5_⟩; have U_5 : Blk w5_ (w.heap.size) 25 #[.int .i64 k, .int .i64 t, .int .i64 s, .bool r, .int .i64 k2, .int .i64 t2, .int .i64 s2, .bool r2, .int .i64 n] := (U_4.alloc).past h5_; have F_5 : Blk w5_ (w4_.heap.size) 33 #[.int .i64 0, .int .i64 0] := (Blk.newAt (by simp)).past h5_; have S_5 := pt (pa (S_4)) h5_; clear U_4 S_4; clear h5_)
    | ((with_reducible refine load_sub (T := 25) (x := .tmp 2) (o := 0) (vs := #[.int .i64 k, .int .i64 t, .int .i64 s, .bool r, .int .i64 k2, .int .i64 t2, .int .i64 s2, .bool r2, .int .i64 n]) (show Blk _ (w.heap.size) 25 #[.int .i64 k, .int .i64 t, .int .i64 s, .bool r, .int .i64 k2, .int .i64 t2, .int .i64 s2, .bool r2, .int .i64 n] from (U_5.alloc)) ?_ ?_ Tryz.underlying25 ?_ ?_ ?_); (focus rfl); (focus rfl); (focus rfl); (focus exact apiUnit_size))
    | (go_at_call 12; (with_reducible refine (HE.out _).mono ?_); rintro e w6_ ⟨rfl, h6_⟩; have U_6 : Blk w6_ (w.heap.size) 25 #[.int .i64 k, .int .i64 t, .int .i64 s, .bool r, .int .i64 k2, .int .i64 t2, .int .i64 s2, .bool r2, .int .i64 n] := (U_5.alloc).past h6_; have F_6 : Blk w6_ (w4_.heap.size) 33 #[.int .i64 0, .int .i64 0] := (F_5.alloc).past h6_; have T_6 : Blk w6_ (w5_.heap.size) 25 #[.int .i64 0, .int .i64 0, .int .i64 0, .bool false, .int .i64 0, .int .i64 0, .int .i64 0, .bool false, .int .i64 0] := (Blk.newAt (by simp)).past h6_; have S_6 := pt (pa (S_5)) h6_; clear U_5 F_5 S_5; clear h6_)
    | ((with_reducible refine load_sub (T := 25) (x := .tmp 2) (o := 0) (vs := #[.int .i64 k, .int .i64 t, .int .i64 s, .bool r, .int .i64 k2, .int .i64 t2, .int .i64 s2, .bool r2, .int .i64 n]) (show Blk _ (w.heap.size) 25 #[.int .i64 k, .int .i64 t, .int .i64 s, .bool r, .int .i64 k2, .int .i64 t2, .int .i64 s2, .bool r2, .int .i64 n] from (U_6)) ?_ ?_ Tryz.underlying25 ?_ ?_ ?_); (focus rfl); (focus rfl); (focus rfl); (focus exact apiUnit_size))
    | (go_at_call 13; (with_reducible refine (HC.out _).mono ?_); rintro e w7_ ⟨rfl, h7_⟩; have U_7 : Blk w7_ (w.heap.size) 25 #[.int .i64 k, .int .i64 t, .int .i64 s, .bool r, .int .i64 k2, .int .i64 t2, .int .i64 s2, .bool r2, .int .i64 n] := (U_6).past h7_; have F_7 : Blk w7_ (w4_.heap.size) 33 #[.int .i64 0, .int .i64 0] := (F_6).past h7_; have T_7 : Blk w7_ (w5_.heap.size) 25 #[.int .i64 0, .int .i64 0, .int .i64 0, .bool false, .int .i64 0, .int .i64 0, .int .i64 0, .bool false, .int .i64 0] := (T_6).past h7_; have S_7 := pt (S_6) h7_; clear U_6 F_6 T_6 S_6; have Fc0 := F_7.cellAt 0 rfl; have Fc1 := F_7.cellAt 1 rfl; have Fl := F_7.lt; have Tc0 := T_7.cellAt 0 rfl; have Tc1 := T_7.cellAt 1 rfl; have Tc2 := T_7.cellAt 2 rfl; have Tc3 := T_7.cellAt 3 rfl; have Tc4 := T_7.cellAt 4 rfl; have Tc5 := T_7.cellAt 5 rfl; have Tc6 := T_7.cellAt 6 rfl; have Tc7 := T_7.cellAt 7 rfl; have Tc8 := T_7.cellAt 8 rfl; have Tl := T_7.lt; clear h7_)
    | ((with_reducible refine load_sub (T := 25) (x := .tmp 2) (o := 0) (vs := #[.int .i64 k, .int .i64 t, .int .i64 s, .bool r, .int .i64 k2, .int .i64 t2, .int .i64 s2, .bool r2, .int .i64 n]) (show Blk _ (w.heap.size) 25 #[.int .i64 k, .int .i64 t, .int .i64 s, .bool r, .int .i64 k2, .int .i64 t2, .int .i64 s2, .bool r2, .int .i64 n] from (U_7)) ?_ ?_ Tryz.underlying25 ?_ ?_ ?_); (focus rfl); (focus rfl); (focus rfl); (focus exact apiUnit_size)))
  go_ret
  exact ⟨rfl, by repeat (first | exact S_7 | refine pa ?_)⟩

set_option maxHeartbeats 16000000 in
set_option maxRecDepth 100000 in
theorem units_ok (k t s : Int) (r : Bool) (k2 t2 s2 : Int) (r2 : Bool) (n tap : Int) (he : unitE k t s k2 t2 s2 n = 0) (c : Int) (nm : ByteArray) (a1 a2 a3 : Int) (b1 : Bool) (a4 a5 a6 : Int) (b2 : Bool) (a7 E2 : Int)
    (hk : (whV k s r - whV k2 s2 r2) % 12 = c)
    (hn : ∀ w, TwIn w → PatIn w → Calls Tryz.prog 9 #[.agg #[.int .i64 k, .int .i64 t, .int .i64 s, .bool r, .int .i64 k2, .int .i64 t2, .int .i64 s2, .bool r2, .int .i64 n]] w fun z w' => z = .returned (.tuple #[.string nm, .int .i64 0]) ∧ Below w.heap.size w w')
    (hrn : ∀ w, Calls Tryz.prog 16 #[.agg #[.int .i64 k, .int .i64 t, .int .i64 s, .bool r, .int .i64 k2, .int .i64 t2, .int .i64 s2, .bool r2, .int .i64 n]] w fun z w' => z = .returned (.string nm) ∧ Below w.heap.size w w')
    (hg : ∀ w, Calls Tryz.prog 11 #[.agg #[.int .i64 k, .int .i64 t, .int .i64 s, .bool r, .int .i64 k2, .int .i64 t2, .int .i64 s2, .bool r2, .int .i64 n], .int .i64 tap] w fun z w' => z = .returned (.tuple #[.agg #[.int .i64 a1, .int .i64 a2, .int .i64 a3, .bool b1, .int .i64 a4, .int .i64 a5, .int .i64 a6, .bool b2, .int .i64 a7], .int .i64 E2]) ∧ Below w.heap.size w w')
    (hrg : ∀ w, Calls Tryz.prog 14 #[.agg #[.int .i64 k, .int .i64 t, .int .i64 s, .bool r, .int .i64 k2, .int .i64 t2, .int .i64 s2, .bool r2, .int .i64 n], .int .i64 tap] w fun z w' => z = .returned (.tuple #[.agg #[.int .i64 a1, .int .i64 a2, .int .i64 a3, .bool b1, .int .i64 a4, .int .i64 a5, .int .i64 a6, .bool b2, .int .i64 a7], .int .i64 E2]) ∧ Below w.heap.size w w') (w : World) (hT : TwIn w) (hP : PatIn w) :
    Calls Tryz.prog 3 #[.agg #[.int .i64 k, .int .i64 t, .int .i64 s, .bool r, .int .i64 k2, .int .i64 t2, .int .i64 s2, .bool r2, .int .i64 n], .int .i64 tap] w fun e w' => e = .returned (.bool true) ∧ Below w.heap.size w w' := by
  have HT := Lib.hid (fun w' (h : Below w.heap.size w w') => hT.below h)
  have HP := Lib.hid (fun w' (h : Below w.heap.size w w') => hP.below h)
  clear hT hP
  have HE := Lib.hid (refUnitErr_any k t s r k2 t2 s2 r2 n)
  have HC := Lib.hid (checkUnit_any k t s r k2 t2 s2 r2 n)
  obtain ⟨u1, u2, _, _⟩ := unitE_ok r r2 he
  have HK := Lib.hid (ClockOf_ok k t s r k2 t2 s2 r2 n he)
  have RK := Lib.hid (refClock_any k t s r k2 t2 s2 r2 n u1 u2)
  have HN := Lib.hid hn
  have RN := Lib.hid hrn
  have HR := Lib.hid (RatioSquare_ok k t s r k2 t2 s2 r2 n he)
  have RR := Lib.hid (refRatio_any k t s r k2 t2 s2 r2 n u1 u2)
  have HG := Lib.hid hg
  have RG := Lib.hid hrg
  rw [hk] at HK RK
  rw [he] at HE HC
  generalize ratN (sqW k t) (sqW k2 t2) = x at *
  generalize ratD (sqW k t) (sqW k2 t2) = y at *
  clear hk hn hrn hg hrg he u1 u2
  go_enter Tryz.func3, Tryz.ntmps3
  go_wp2_with (first
    | (go_at_call 7; (with_reducible refine (awake_any _ (HT.out _ (pa (pr))) (HP.out _ (pa (pr)))).mono ?_); rintro e w1_ ⟨rfl, h1_⟩; have U_1 : Blk w1_ (w.heap.size) 25 #[.int .i64 k, .int .i64 t, .int .i64 s, .bool r, .int .i64 k2, .int .i64 t2, .int .i64 s2, .bool r2, .int .i64 n] := (Blk.newAt (by simp)).past h1_; have S_1 := pt (pa (pr)) h1_; clear h1_)
    | ((with_reducible refine load_sub (T := 25) (x := .tmp 2) (o := 0) (vs := #[.int .i64 k, .int .i64 t, .int .i64 s, .bool r, .int .i64 k2, .int .i64 t2, .int .i64 s2, .bool r2, .int .i64 n]) (show Blk _ (w.heap.size) 25 #[.int .i64 k, .int .i64 t, .int .i64 s, .bool r, .int .i64 k2, .int .i64 t2, .int .i64 s2, .bool r2, .int .i64 n] from (U_1)) ?_ ?_ Tryz.underlying25 ?_ ?_ ?_); (focus rfl); (focus rfl); (focus rfl); (focus exact apiUnit_size))
    | (go_at_call 8; (with_reducible refine (HK.out _ (HT.out _ (S_1)) (HP.out _ (S_1))).mono ?_); rintro e w2_ ⟨rfl, h2_⟩; have U_2 : Blk w2_ (w.heap.size) 25 #[.int .i64 k, .int .i64 t, .int .i64 s, .bool r, .int .i64 k2, .int .i64 t2, .int .i64 s2, .bool r2, .int .i64 n] := (U_1).past h2_; have S_2 := pt (S_1) h2_; clear U_1 S_1; clear h2_)
    | ((with_reducible refine load_sub (T := 25) (x := .tmp 2) (o := 0) (vs := #[.int .i64 k, .int .i64 t, .int .i64 s, .bool r, .int .i64 k2, .int .i64 t2, .int .i64 s2, .bool r2, .int .i64 n]) (show Blk _ (w.heap.size) 25 #[.int .i64 k, .int .i64 t, .int .i64 s, .bool r, .int .i64 k2, .int .i64 t2, .int .i64 s2, .bool r2, .int .i64 n] from (U_2)) ?_ ?_ Tryz.underlying25 ?_ ?_ ?_); (focus rfl); (focus rfl); (focus rfl); (focus exact apiUnit_size))
    | (go_at_call 9; (with_reducible refine (HN.out _ (HT.out _ (S_2)) (HP.out _ (S_2))).mono ?_); rintro e w3_ ⟨rfl, h3_⟩; have U_3 : Blk w3_ (w.heap.size) 25 #[.int .i64 k, .int .i64 t, .int .i64 s, .bool r, .int .i64 k2, .int .i64 t2, .int .i64 s2, .bool r2, .int .i64 n] := (U_2).past h3_; have S_3 := pt (S_2) h3_; clear U_2 S_2; clear h3_)
    | ((with_reducible refine load_sub (T := 25) (x := .tmp 2) (o := 0) (vs := #[.int .i64 k, .int .i64 t, .int .i64 s, .bool r, .int .i64 k2, .int .i64 t2, .int .i64 s2, .bool r2, .int .i64 n]) (show Blk _ (w.heap.size) 25 #[.int .i64 k, .int .i64 t, .int .i64 s, .bool r, .int .i64 k2, .int .i64 t2, .int .i64 s2, .bool r2, .int .i64 n] from (U_3)) ?_ ?_ Tryz.underlying25 ?_ ?_ ?_); (focus rfl); (focus rfl); (focus rfl); (focus exact apiUnit_size))
    | (go_at_call 10; (with_reducible refine (HR.out _ (HP.out _ (S_3))).mono ?_); rintro e w4_ ⟨rfl, h4_⟩; have U_4 : Blk w4_ (w.heap.size) 25 #[.int .i64 k, .int .i64 t, .int .i64 s, .bool r, .int .i64 k2, .int .i64 t2, .int .i64 s2, .bool r2, .int .i64 n] := (U_3).past h4_; have S_4 := pt (S_3) h4_; clear U_3 S_3; clear h4_)
    | ((with_reducible refine load_sub (T := 25) (x := .tmp 2) (o := 0) (vs := #[.int .i64 k, .int .i64 t, .int .i64 s, .bool r, .int .i64 k2, .int .i64 t2, .int .i64 s2, .bool r2, .int .i64 n]) (show Blk _ (w.heap.size) 25 #[.int .i64 k, .int .i64 t, .int .i64 s, .bool r, .int .i64 k2, .int .i64 t2, .int .i64 s2, .bool r2, .int .i64 n] from (U_4.alloc)) ?_ ?_ Tryz.underlying25 ?_ ?_ ?_); (focus rfl); (focus rfl); (focus rfl); (focus exact apiUnit_size))
    | (go_at_call 11; (with_reducible refine (HG.out _).mono ?_); rintro e w5_ ⟨rfl, h5_⟩; have U_5 : Blk w5_ (w.heap.size) 25 #[.int .i64 k, .int .i64 t, .int .i64 s, .bool r, .int .i64 k2, .int .i64 t2, .int .i64 s2, .bool r2, .int .i64 n] := (U_4.alloc).past h5_; have F_5 : Blk w5_ (w4_.heap.size) 33 #[.int .i64 x, .int .i64 y] := (Blk.newAt (by simp)).past h5_; have S_5 := pt (pa (S_4)) h5_; clear U_4 S_4; clear h5_)
    | ((with_reducible refine load_sub (T := 25) (x := .tmp 2) (o := 0) (vs := #[.int .i64 k, .int .i64 t, .int .i64 s, .bool r, .int .i64 k2, .int .i64 t2, .int .i64 s2, .bool r2, .int .i64 n]) (show Blk _ (w.heap.size) 25 #[.int .i64 k, .int .i64 t, .int .i64 s, .bool r, .int .i64 k2, .int .i64 t2, .int .i64 s2, .bool r2, .int .i64 n] from (U_5.alloc)) ?_ ?_ Tryz.underlying25 ?_ ?_ ?_); (focus rfl); (focus rfl); (focus rfl); (focus exact apiUnit_size))
    | (go_at_call 12; (with_reducible refine (HE.out _).mono ?_); rintro e w6_ ⟨rfl, h6_⟩; have U_6 : Blk w6_ (w.heap.size) 25 #[.int .i64 k, .int .i64 t, .int .i64 s, .bool r, .int .i64 k2, .int .i64 t2, .int .i64 s2, .bool r2, .int .i64 n] := (U_5.alloc).past h6_; have F_6 : Blk w6_ (w4_.heap.size) 33 #[.int .i64 x, .int .i64 y] := (F_5.alloc).past h6_; have T_6 : Blk w6_ (w5_.heap.size) 25 #[.int .i64 a1, .int .i64 a2, .int .i64 a3, .bool b1, .int .i64 a4, .int .i64 a5, .int .i64 a6, .bool b2, .int .i64 a7] := (Blk.newAt (by simp)).past h6_; have S_6 := pt (pa (S_5)) h6_; clear U_5 F_5 S_5; clear h6_)
    | ((with_reducible refine load_sub (T := 25) (x := .tmp 2) (o := 0) (vs := #[.int .i64 k, .int .i64 t, .int .i64 s, .bool r, .int .i64 k2, .int .i64 t2, .int .i64 s2, .bool r2, .int .i64 n]) (show Blk _ (w.heap.size) 25 #[.int .i64 k, .int .i64 t, .int .i64 s, .bool r, .int .i64 k2, .int .i64 t2, .int .i64 s2, .bool r2, .int .i64 n] from (U_6)) ?_ ?_ Tryz.underlying25 ?_ ?_ ?_); (focus rfl); (focus rfl); (focus rfl); (focus exact apiUnit_size))
    | (go_at_call 13; (with_reducible refine (HC.out _).mono ?_); rintro e w7_ ⟨rfl, h7_⟩; have U_7 : Blk w7_ (w.heap.size) 25 #[.int .i64 k, .int .i64 t, .int .i64 s, .bool r, .int .i64 k2, .int .i64 t2, .int .i64 s2, .bool r2, .int .i64 n] := (U_6).past h7_; have F_7 : Blk w7_ (w4_.heap.size) 33 #[.int .i64 x, .int .i64 y] := (F_6).past h7_; have T_7 : Blk w7_ (w5_.heap.size) 25 #[.int .i64 a1, .int .i64 a2, .int .i64 a3, .bool b1, .int .i64 a4, .int .i64 a5, .int .i64 a6, .bool b2, .int .i64 a7] := (T_6).past h7_; have S_7 := pt (S_6) h7_; clear U_6 F_6 T_6 S_6; have Fc0 := F_7.cellAt 0 rfl; have Fc1 := F_7.cellAt 1 rfl; have Fl := F_7.lt; have Tc0 := T_7.cellAt 0 rfl; have Tc1 := T_7.cellAt 1 rfl; have Tc2 := T_7.cellAt 2 rfl; have Tc3 := T_7.cellAt 3 rfl; have Tc4 := T_7.cellAt 4 rfl; have Tc5 := T_7.cellAt 5 rfl; have Tc6 := T_7.cellAt 6 rfl; have Tc7 := T_7.cellAt 7 rfl; have Tc8 := T_7.cellAt 8 rfl; have Tl := T_7.lt; clear h7_)
    | ((with_reducible refine load_sub (T := 25) (x := .tmp 2) (o := 0) (vs := #[.int .i64 k, .int .i64 t, .int .i64 s, .bool r, .int .i64 k2, .int .i64 t2, .int .i64 s2, .bool r2, .int .i64 n]) (show Blk _ (w.heap.size) 25 #[.int .i64 k, .int .i64 t, .int .i64 s, .bool r, .int .i64 k2, .int .i64 t2, .int .i64 s2, .bool r2, .int .i64 n] from (U_7)) ?_ ?_ Tryz.underlying25 ?_ ?_ ?_); (focus rfl); (focus rfl); (focus rfl); (focus exact apiUnit_size))
    | (go_at_call 14; (with_reducible refine (RG.out _).mono ?_); rintro e w8_ ⟨rfl, h8_⟩; have U_8 : Blk w8_ (w.heap.size) 25 #[.int .i64 k, .int .i64 t, .int .i64 s, .bool r, .int .i64 k2, .int .i64 t2, .int .i64 s2, .bool r2, .int .i64 n] := (U_7).past h8_; have F_8 : Blk w8_ (w4_.heap.size) 33 #[.int .i64 x, .int .i64 y] := (F_7).past h8_; have T_8 : Blk w8_ (w5_.heap.size) 25 #[.int .i64 a1, .int .i64 a2, .int .i64 a3, .bool b1, .int .i64 a4, .int .i64 a5, .int .i64 a6, .bool b2, .int .i64 a7] := (T_7).past h8_; have S_8 := pt (S_7) h8_; clear U_7 F_7 T_7 S_7 Fc0 Fc1 Fl Tc0 Tc1 Tc2 Tc3 Tc4 Tc5 Tc6 Tc7 Tc8 Tl; clear h8_))
  have U_9 : Blk (w8_.alloc (.cells #[.int .i64 a1, .int .i64 a2, .int .i64 a3, .bool b1, .int .i64 a4, .int .i64 a5, .int .i64 a6, .bool b2, .int .i64 a7] 25)) (w.heap.size) 25 #[.int .i64 k, .int .i64 t, .int .i64 s, .bool r, .int .i64 k2, .int .i64 t2, .int .i64 s2, .bool r2, .int .i64 n] := (U_8.alloc)
  have F_9 : Blk (w8_.alloc (.cells #[.int .i64 a1, .int .i64 a2, .int .i64 a3, .bool b1, .int .i64 a4, .int .i64 a5, .int .i64 a6, .bool b2, .int .i64 a7] 25)) (w4_.heap.size) 33 #[.int .i64 x, .int .i64 y] := (F_8.alloc)
  have T_9 : Blk (w8_.alloc (.cells #[.int .i64 a1, .int .i64 a2, .int .i64 a3, .bool b1, .int .i64 a4, .int .i64 a5, .int .i64 a6, .bool b2, .int .i64 a7] 25)) (w5_.heap.size) 25 #[.int .i64 a1, .int .i64 a2, .int .i64 a3, .bool b1, .int .i64 a4, .int .i64 a5, .int .i64 a6, .bool b2, .int .i64 a7] := (T_8.alloc)
  have V_9 : Blk (w8_.alloc (.cells #[.int .i64 a1, .int .i64 a2, .int .i64 a3, .bool b1, .int .i64 a4, .int .i64 a5, .int .i64 a6, .bool b2, .int .i64 a7] 25)) (w8_.heap.size) 25 #[.int .i64 a1, .int .i64 a2, .int .i64 a3, .bool b1, .int .i64 a4, .int .i64 a5, .int .i64 a6, .bool b2, .int .i64 a7] := (Blk.newAt (by simp))
  have S_9 := (show Below w.heap.size w (w8_.alloc (.cells #[.int .i64 a1, .int .i64 a2, .int .i64 a3, .bool b1, .int .i64 a4, .int .i64 a5, .int .i64 a6, .bool b2, .int .i64 a7] 25)) from pa (S_8))
  clear U_8 F_8 T_8 S_8
  generalize w8_.alloc (.cells #[.int .i64 a1, .int .i64 a2, .int .i64 a3, .bool b1, .int .i64 a4, .int .i64 a5, .int .i64 a6, .bool b2, .int .i64 a7] 25) = w9_ at *
  have Uc0 := U_9.cellAt 0 rfl
  have Uc1 := U_9.cellAt 1 rfl
  have Uc2 := U_9.cellAt 2 rfl
  have Uc3 := U_9.cellAt 3 rfl
  have Uc4 := U_9.cellAt 4 rfl
  have Uc5 := U_9.cellAt 5 rfl
  have Uc6 := U_9.cellAt 6 rfl
  have Uc7 := U_9.cellAt 7 rfl
  have Uc8 := U_9.cellAt 8 rfl
  have Ul := U_9.lt
  have Fc0 := F_9.cellAt 0 rfl
  have Fc1 := F_9.cellAt 1 rfl
  have Fl := F_9.lt
  have Tc0 := T_9.cellAt 0 rfl
  have Tc1 := T_9.cellAt 1 rfl
  have Tc2 := T_9.cellAt 2 rfl
  have Tc3 := T_9.cellAt 3 rfl
  have Tc4 := T_9.cellAt 4 rfl
  have Tc5 := T_9.cellAt 5 rfl
  have Tc6 := T_9.cellAt 6 rfl
  have Tc7 := T_9.cellAt 7 rfl
  have Tc8 := T_9.cellAt 8 rfl
  have Tl := T_9.lt
  have Vc0 := V_9.cellAt 0 rfl
  have Vc1 := V_9.cellAt 1 rfl
  have Vc2 := V_9.cellAt 2 rfl
  have Vc3 := V_9.cellAt 3 rfl
  have Vc4 := V_9.cellAt 4 rfl
  have Vc5 := V_9.cellAt 5 rfl
  have Vc6 := V_9.cellAt 6 rfl
  have Vc7 := V_9.cellAt 7 rfl
  have Vc8 := V_9.cellAt 8 rfl
  have Vl := V_9.lt
  refine region_below 38 follows_mixed (by kernel_rfl) ?_
  intro C hC
  simp only [List.take_succ_cons, List.take_zero, List.drop_succ_cons, List.drop_zero]
  repeat (first
    | ((with_reducible refine quiet_plain rfl (fun K hK => ?_)); (focus (apply quiet_val; (focus (intro w' hw; obtain ⟨hcq, hfq⟩ := bcell ((hC.out _).1 hw); go_simp; (first | done | rfl | (with_reducible exact call_below hC hw (RK.out _)) | (with_reducible exact call_below hC hw (RN.out _)) | (with_reducible exact call_below hC hw (RR.out _))))); (simp only [Act.put, List.setIfInBounds_toArray, List.set_cons_succ, List.set_cons_zero]); (with_reducible refine hK _ ?_); clear hK K)))
    | ((with_reducible refine quiet_skip ?_ ?_); (focus (first | (simp [Region.wanted, yielded]; done) | (simp [Region.wanted, yielded, undef]; done))); simp only [Act.put, List.setIfInBounds_toArray, List.set_cons_succ, List.set_cons_zero])
    | ((with_reducible refine quiet_go ?_ (fun K hK => ?_)); (focus (first | (simp [Region.wanted, yielded]; done) | (simp [Region.wanted, yielded, undef]; done))); (focus (apply quiet_val; (focus (intro w' hw; obtain ⟨hcq, hfq⟩ := bcell ((hC.out _).1 hw); go_simp; (first | done | rfl | (with_reducible exact call_below hC hw (RK.out _)) | (with_reducible exact call_below hC hw (RN.out _)) | (with_reducible exact call_below hC hw (RR.out _))))); (simp only [Act.put, List.setIfInBounds_toArray, List.set_cons_succ, List.set_cons_zero]); (with_reducible refine hK _ ?_); clear hK K))))
  refine wpQuiet_nil ?_
  intro w1 hb1
  replace hb1 := (hC.out _).1 hb1
  clear hC C
  obtain ⟨hc1, hf1⟩ := bcell hb1
  have U_10 : Blk w1 (w.heap.size) 25 #[.int .i64 k, .int .i64 t, .int .i64 s, .bool r, .int .i64 k2, .int .i64 t2, .int .i64 s2, .bool r2, .int .i64 n] := (U_9).past hb1
  have F_10 : Blk w1 (w4_.heap.size) 33 #[.int .i64 x, .int .i64 y] := (F_9).past hb1
  have T_10 : Blk w1 (w5_.heap.size) 25 #[.int .i64 a1, .int .i64 a2, .int .i64 a3, .bool b1, .int .i64 a4, .int .i64 a5, .int .i64 a6, .bool b2, .int .i64 a7] := (T_9).past hb1
  have V_10 : Blk w1 (w8_.heap.size) 25 #[.int .i64 a1, .int .i64 a2, .int .i64 a3, .bool b1, .int .i64 a4, .int .i64 a5, .int .i64 a6, .bool b2, .int .i64 a7] := (V_9).past hb1
  have S_10 := pt (S_9) hb1
  clear U_9 F_9 T_9 V_9 S_9 Uc0 Uc1 Uc2 Uc3 Uc4 Uc5 Uc6 Uc7 Uc8 Ul Fc0 Fc1 Fl Tc0 Tc1 Tc2 Tc3 Tc4 Tc5 Tc6 Tc7 Tc8 Tl Vc0 Vc1 Vc2 Vc3 Vc4 Vc5 Vc6 Vc7 Vc8 Vl
  clear hb1 hc1 hf1
  obtain ⟨w10_, rfl⟩ : ∃ v, v = w1 := ⟨_, rfl⟩
  go_wp2
  go_ret
  exact ⟨rfl, by repeat (first | exact S_10 | refine pa ?_)⟩

end Go.Proofs.YtnhcamokcggnkaaGreatDoor
