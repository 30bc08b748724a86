/- The walk of the law on units side by side (TopGroupParallel), from the contracts of what it calls. Printed by a program (gen_parlaw.py). -/
import Derived.Test.YtpdkbhjcpddnpaaGreatDoorNN
import Derived.Test.YtpdkbhjcpddnpaaGreatDoorNX
import Derived.Test.YtpdkbhjcpddnpaaGreatDoorNb2
import Derived.Test.YtpdkbhjcpddnpaaGreatDoorND
import Derived.Test.YtpdkbhjcpddnpaaGreatDoorN7
import Derived.Test.YtpdkbhjcpddnpaaGreatDoorN9
import Derived.Deep.DeepCutAuto

section
namespace Go.Proofs.YtpdkbhjcpddnpaaGreatDoor
open Go.RowKit
attribute [local go_sem ↓] Go.wp_at_zero Go.wp_at_succ

theorem unitP_neq (a1 a2 a3 : Int) (b1 : Bool) (a4 a5 a6 : Int) (b2 : Bool) (a7 : Int) (W : World) : (binOp .neq 48 (.agg #[.int .i64 a1, .int .i64 a2, .int .i64 a3, .bool b1, .int .i64 a4, .int .i64 a5, .int .i64 a6, .bool b2, .int .i64 a7]) (.agg #[.int .i64 a1, .int .i64 a2, .int .i64 a3, .bool b1, .int .i64 a4, .int .i64 a5, .int .i64 a6, .bool b2, .int .i64 a7])).run Tryz.prog W = .ok (.bool false) W := by
  simp [go_sem]
attribute [local go_sem ↓ high] unitP_neq apiph_eql

set_option maxHeartbeats 16000000 in
set_option maxRecDepth 100000 in
theorem par_e1 (ak au av : Int) (az : Bool) (bk bu bv : Int) (bz : Bool) (ck cu cv : Int) (cz : Bool) (dk du dv : Int) (dz : Bool) (n m i1 j1 i2 j2 p q : Int)
    (E : Int)
    (HE1 : ∀ w, Calls Tryz.prog 28 #[.agg #[.int .i64 ak, .int .i64 au, .int .i64 av, .bool az, .int .i64 bk, .int .i64 bu, .int .i64 bv, .bool bz, .int .i64 n]] w fun e w' => e = .returned (.int .i64 E) ∧ Below w.heap.size w w')
    (he : E ≠ 0)
    (w : World) (hT : TwIn w) (hP : PatIn w) (hS : StrIn w) :
    Calls Tryz.prog 5 #[.agg #[.int .i64 ak, .int .i64 au, .int .i64 av, .bool az, .int .i64 bk, .int .i64 bu, .int .i64 bv, .bool bz, .int .i64 n, .int .i64 ck, .int .i64 cu, .int .i64 cv, .bool cz, .int .i64 dk, .int .i64 du, .int .i64 dv, .bool dz, .int .i64 m, .int .i64 i1, .int .i64 j1, .int .i64 i2, .int .i64 j2, .int .i64 p, .int .i64 q]] w fun e w' => e = .returned (.bool true) ∧ Below w.heap.size w w' := by
  have HT := Lib.hid (fun w' (h : Below w.heap.size w w') => hT.below h)
  have HP := Lib.hid (fun w' (h : Below w.heap.size w w') => hP.below h)
  have HS := Lib.hid (fun w' (h : Below w.heap.size w w') => hS.kept h)
  clear hT hP hS
  have e1 : (E != 0) = true := by simpa using he
  have e2 : ¬ E = 0 := he
  clear he
  replace HE1 := Lib.hid HE1
  go_enter Tryz.func5, Tryz.ntmps5
  go_wp2_with (first
    | (go_at_call 16; (with_reducible refine (topAwake_any _ (HT.out _ (pa (pr))) (HP.out _ (pa (pr))) (HS.out _ (pa (pr)))).mono ?_); rintro e w1_ ⟨rfl, h1_⟩; have X_1 : Blk w1_ (w.heap.size) 76 #[.int .i64 ak, .int .i64 au, .int .i64 av, .bool az, .int .i64 bk, .int .i64 bu, .int .i64 bv, .bool bz, .int .i64 n, .int .i64 ck, .int .i64 cu, .int .i64 cv, .bool cz, .int .i64 dk, .int .i64 du, .int .i64 dv, .bool dz, .int .i64 m, .int .i64 i1, .int .i64 j1, .int .i64 i2, .int .i64 j2, .int .i64 p, .int .i64 q] := (Blk.newAt (by simp)).past h1_; have S_1 := pt (pa (pr)) h1_; clear h1_)
    | ((with_reducible refine load_sub (T := 48) (x := .tmp 23) (o := 0) (vs := #[.int .i64 ak, .int .i64 au, .int .i64 av, .bool az, .int .i64 bk, .int .i64 bu, .int .i64 bv, .bool bz, .int .i64 n]) (show Blk _ (w.heap.size) 76 #[.int .i64 ak, .int .i64 au, .int .i64 av, .bool az, .int .i64 bk, .int .i64 bu, .int .i64 bv, .bool bz, .int .i64 n, .int .i64 ck, .int .i64 cu, .int .i64 cv, .bool cz, .int .i64 dk, .int .i64 du, .int .i64 dv, .bool dz, .int .i64 m, .int .i64 i1, .int .i64 j1, .int .i64 i2, .int .i64 j2, .int .i64 p, .int .i64 q] from (X_1)) ?_ ?_ Tryz.underlying48 ?_ ?_ ?_); (focus rfl); (focus rfl); (focus rfl); (focus exact apiUnit_size))
    | (go_at_call 28; (with_reducible refine (HE1.out _).mono ?_); rintro e w2_ ⟨rfl, h2_⟩; have X_2 : Blk w2_ (w.heap.size) 76 #[.int .i64 ak, .int .i64 au, .int .i64 av, .bool az, .int .i64 bk, .int .i64 bu, .int .i64 bv, .bool bz, .int .i64 n, .int .i64 ck, .int .i64 cu, .int .i64 cv, .bool cz, .int .i64 dk, .int .i64 du, .int .i64 dv, .bool dz, .int .i64 m, .int .i64 i1, .int .i64 j1, .int .i64 i2, .int .i64 j2, .int .i64 p, .int .i64 q] := (X_1).past h2_; have S_2 := pt (S_1) h2_; clear X_1 S_1; have Xc0 := X_2.cellAt 0 rfl; have Xc1 := X_2.cellAt 1 rfl; have Xc2 := X_2.cellAt 2 rfl; have Xc3 := X_2.cellAt 3 rfl; have Xc4 := X_2.cellAt 4 rfl; have Xc5 := X_2.cellAt 5 rfl; have Xc6 := X_2.cellAt 6 rfl; have Xc7 := X_2.cellAt 7 rfl; have Xc8 := X_2.cellAt 8 rfl; have Xc9 := X_2.cellAt 9 rfl; have Xc10 := X_2.cellAt 10 rfl; have Xc11 := X_2.cellAt 11 rfl; have Xc12 := X_2.cellAt 12 rfl; have Xc13 := X_2.cellAt 13 rfl; have Xc14 := X_2.cellAt 14 rfl; have Xc15 := X_2.cellAt 15 rfl; have Xc16 := X_2.cellAt 16 rfl; have Xc17 := X_2.cellAt 17 rfl; have Xc18 := X_2.cellAt 18 rfl; have Xc19 := X_2.cellAt 19 rfl; have Xc20 := X_2.cellAt 20 rfl; have Xc21 := X_2.cellAt 21 rfl; have Xc22 := X_2.cellAt 22 rfl; have Xc23 := X_2.cellAt 23 rfl; have Xl := X_2.lt; clear h2_))
  go_ret
  exact ⟨rfl, by repeat (first | exact S_2 | refine pa ?_)⟩

set_option maxHeartbeats 16000000 in
set_option maxRecDepth 100000 in
theorem par_e2 (ak au av : Int) (az : Bool) (bk bu bv : Int) (bz : Bool) (ck cu cv : Int) (cz : Bool) (dk du dv : Int) (dz : Bool) (n m i1 j1 i2 j2 p q : Int)
    (E : Int)
    (HE1 : ∀ w, Calls Tryz.prog 28 #[.agg #[.int .i64 ak, .int .i64 au, .int .i64 av, .bool az, .int .i64 bk, .int .i64 bu, .int .i64 bv, .bool bz, .int .i64 n]] w fun e w' => e = .returned (.int .i64 0) ∧ Below w.heap.size w w')
    (HE2 : ∀ w, Calls Tryz.prog 28 #[.agg #[.int .i64 ck, .int .i64 cu, .int .i64 cv, .bool cz, .int .i64 dk, .int .i64 du, .int .i64 dv, .bool dz, .int .i64 m]] w fun e w' => e = .returned (.int .i64 E) ∧ Below w.heap.size w w')
    (he : E ≠ 0)
    (w : World) (hT : TwIn w) (hP : PatIn w) (hS : StrIn w) :
    Calls Tryz.prog 5 #[.agg #[.int .i64 ak, .int .i64 au, .int .i64 av, .bool az, .int .i64 bk, .int .i64 bu, .int .i64 bv, .bool bz, .int .i64 n, .int .i64 ck, .int .i64 cu, .int .i64 cv, .bool cz, .int .i64 dk, .int .i64 du, .int .i64 dv, .bool dz, .int .i64 m, .int .i64 i1, .int .i64 j1, .int .i64 i2, .int .i64 j2, .int .i64 p, .int .i64 q]] w fun e w' => e = .returned (.bool true) ∧ Below w.heap.size w w' := by
  have HT := Lib.hid (fun w' (h : Below w.heap.size w w') => hT.below h)
  have HP := Lib.hid (fun w' (h : Below w.heap.size w w') => hP.below h)
  have HS := Lib.hid (fun w' (h : Below w.heap.size w w') => hS.kept h)
  clear hT hP hS
  have e1 : (E != 0) = true := by simpa using he
  have e2 : ¬ E = 0 := he
  clear he
  replace HE1 := Lib.hid HE1
  replace HE2 := Lib.hid HE2
  go_enter Tryz.func5, Tryz.ntmps5
  go_wp2_with (first
    | (go_at_call 16; (with_reducible refine (topAwake_any _ (HT.out _ (pa (pr))) (HP.out _ (pa (pr))) (HS.out _ (pa (pr)))).mono ?_); rintro e w1_ ⟨rfl, h1_⟩; have X_1 : Blk w1_ (w.heap.size) 76 #[.int .i64 ak, .int .i64 au, .int .i64 av, .bool az, .int .i64 bk, .int .i64 bu, .int .i64 bv, .bool bz, .int .i64 n, .int .i64 ck, .int .i64 cu, .int .i64 cv, .bool cz, .int .i64 dk, .int .i64 du, .int .i64 dv, .bool dz, .int .i64 m, .int .i64 i1, .int .i64 j1, .int .i64 i2, .int .i64 j2, .int .i64 p, .int .i64 q] := (Blk.newAt (by simp)).past h1_; have S_1 := pt (pa (pr)) h1_; clear h1_)
    | ((with_reducible refine load_sub (T := 48) (x := .tmp 23) (o := 0) (vs := #[.int .i64 ak, .int .i64 au, .int .i64 av, .bool az, .int .i64 bk, .int .i64 bu, .int .i64 bv, .bool bz, .int .i64 n]) (show Blk _ (w.heap.size) 76 #[.int .i64 ak, .int .i64 au, .int .i64 av, .bool az, .int .i64 bk, .int .i64 bu, .int .i64 bv, .bool bz, .int .i64 n, .int .i64 ck, .int .i64 cu, .int .i64 cv, .bool cz, .int .i64 dk, .int .i64 du, .int .i64 dv, .bool dz, .int .i64 m, .int .i64 i1, .int .i64 j1, .int .i64 i2, .int .i64 j2, .int .i64 p, .int .i64 q] from (X_1)) ?_ ?_ Tryz.underlying48 ?_ ?_ ?_); (focus rfl); (focus rfl); (focus rfl); (focus exact apiUnit_size))
    | (go_at_call 28; (with_reducible refine (HE1.out _).mono ?_); rintro e w2_ ⟨rfl, h2_⟩; have X_2 : Blk w2_ (w.heap.size) 76 #[.int .i64 ak, .int .i64 au, .int .i64 av, .bool az, .int .i64 bk, .int .i64 bu, .int .i64 bv, .bool bz, .int .i64 n, .int .i64 ck, .int .i64 cu, .int .i64 cv, .bool cz, .int .i64 dk, .int .i64 du, .int .i64 dv, .bool dz, .int .i64 m, .int .i64 i1, .int .i64 j1, .int .i64 i2, .int .i64 j2, .int .i64 p, .int .i64 q] := (X_1).past h2_; have S_2 := pt (S_1) h2_; clear X_1 S_1; have Xc0 := X_2.cellAt 0 rfl; have Xc1 := X_2.cellAt 1 rfl; have Xc2 := X_2.cellAt 2 rfl; have Xc3 := X_2.cellAt 3 rfl; have Xc4 := X_2.cellAt 4 rfl; have Xc5 := X_2.cellAt 5 rfl; have Xc6 := X_2.cellAt 6 rfl; have Xc7 := X_2.cellAt 7 rfl; have Xc8 := X_2.cellAt 8 rfl; have Xc9 := X_2.cellAt 9 rfl; have Xc10 := X_2.cellAt 10 rfl; have Xc11 := X_2.cellAt 11 rfl; have Xc12 := X_2.cellAt 12 rfl; have Xc13 := X_2.cellAt 13 rfl; have Xc14 := X_2.cellAt 14 rfl; have Xc15 := X_2.cellAt 15 rfl; have Xc16 := X_2.cellAt 16 rfl; have Xc17 := X_2.cellAt 17 rfl; have Xc18 := X_2.cellAt 18 rfl; have Xc19 := X_2.cellAt 19 rfl; have Xc20 := X_2.cellAt 20 rfl; have Xc21 := X_2.cellAt 21 rfl; have Xc22 := X_2.cellAt 22 rfl; have Xc23 := X_2.cellAt 23 rfl; have Xl := X_2.lt; clear h2_)
    | (go_at_call 28; (with_reducible refine (HE2.out _).mono ?_); rintro e w3_ ⟨rfl, h3_⟩; have X_3 : Blk w3_ (w.heap.size) 76 #[.int .i64 ak, .int .i64 au, .int .i64 av, .bool az, .int .i64 bk, .int .i64 bu, .int .i64 bv, .bool bz, .int .i64 n, .int .i64 ck, .int .i64 cu, .int .i64 cv, .bool cz, .int .i64 dk, .int .i64 du, .int .i64 dv, .bool dz, .int .i64 m, .int .i64 i1, .int .i64 j1, .int .i64 i2, .int .i64 j2, .int .i64 p, .int .i64 q] := (X_2).past h3_; have S_3 := pt (S_2) h3_; clear X_2 S_2 Xc0 Xc1 Xc2 Xc3 Xc4 Xc5 Xc6 Xc7 Xc8 Xc9 Xc10 Xc11 Xc12 Xc13 Xc14 Xc15 Xc16 Xc17 Xc18 Xc19 Xc20 Xc21 Xc22 Xc23 Xl; have Xc0 := X_3.cellAt 0 rfl; have Xc1 := X_3.cellAt 1 rfl; have Xc2 := X_3.cellAt 2 rfl; have Xc3 := X_3.cellAt 3 rfl; have Xc4 := X_3.cellAt 4 rfl; have Xc5 := X_3.cellAt 5 rfl; have Xc6 := X_3.cellAt 6 rfl; have Xc7 := X_3.cellAt 7 rfl; have Xc8 := X_3.cellAt 8 rfl; have Xc9 := X_3.cellAt 9 rfl; have Xc10 := X_3.cellAt 10 rfl; have Xc11 := X_3.cellAt 11 rfl; have Xc12 := X_3.cellAt 12 rfl; have Xc13 := X_3.cellAt 13 rfl; have Xc14 := X_3.cellAt 14 rfl; have Xc15 := X_3.cellAt 15 rfl; have Xc16 := X_3.cellAt 16 rfl; have Xc17 := X_3.cellAt 17 rfl; have Xc18 := X_3.cellAt 18 rfl; have Xc19 := X_3.cellAt 19 rfl; have Xc20 := X_3.cellAt 20 rfl; have Xc21 := X_3.cellAt 21 rfl; have Xc22 := X_3.cellAt 22 rfl; have Xc23 := X_3.cellAt 23 rfl; have Xl := X_3.lt; clear h3_))
  go_ret
  exact ⟨rfl, by repeat (first | exact S_3 | refine pa ?_)⟩

set_option maxHeartbeats 16000000 in
set_option maxRecDepth 100000 in
theorem par_t0 (ak au av : Int) (az : Bool) (bk bu bv : Int) (bz : Bool) (ck cu cv : Int) (cz : Bool) (dk du dv : Int) (dz : Bool) (n m i1 j1 i2 j2 p q : Int)
    (HE1 : ∀ w, Calls Tryz.prog 28 #[.agg #[.int .i64 ak, .int .i64 au, .int .i64 av, .bool az, .int .i64 bk, .int .i64 bu, .int .i64 bv, .bool bz, .int .i64 n]] w fun e w' => e = .returned (.int .i64 0) ∧ Below w.heap.size w w')
    (HE2 : ∀ w, Calls Tryz.prog 28 #[.agg #[.int .i64 ck, .int .i64 cu, .int .i64 cv, .bool cz, .int .i64 dk, .int .i64 du, .int .i64 dv, .bool dz, .int .i64 m]] w fun e w' => e = .returned (.int .i64 0) ∧ Below w.heap.size w w')
    (t0 : (40 : Int) < au)
    (w : World) (hT : TwIn w) (hP : PatIn w) (hS : StrIn w) :
    Calls Tryz.prog 5 #[.agg #[.int .i64 ak, .int .i64 au, .int .i64 av, .bool az, .int .i64 bk, .int .i64 bu, .int .i64 bv, .bool bz, .int .i64 n, .int .i64 ck, .int .i64 cu, .int .i64 cv, .bool cz, .int .i64 dk, .int .i64 du, .int .i64 dv, .bool dz, .int .i64 m, .int .i64 i1, .int .i64 j1, .int .i64 i2, .int .i64 j2, .int .i64 p, .int .i64 q]] w fun e w' => e = .returned (.bool true) ∧ Below w.heap.size w w' := by
  have HT := Lib.hid (fun w' (h : Below w.heap.size w w') => hT.below h)
  have HP := Lib.hid (fun w' (h : Below w.heap.size w w') => hP.below h)
  have HS := Lib.hid (fun w' (h : Below w.heap.size w w') => hS.kept h)
  clear hT hP hS
  replace HE1 := Lib.hid HE1
  replace HE2 := Lib.hid HE2
  go_enter Tryz.func5, Tryz.ntmps5
  go_wp2_with (first
    | (go_at_call 16; (with_reducible refine (topAwake_any _ (HT.out _ (pa (pr))) (HP.out _ (pa (pr))) (HS.out _ (pa (pr)))).mono ?_); rintro e w1_ ⟨rfl, h1_⟩; have X_1 : Blk w1_ (w.heap.size) 76 #[.int .i64 ak, .int .i64 au, .int .i64 av, .bool az, .int .i64 bk, .int .i64 bu, .int .i64 bv, .bool bz, .int .i64 n, .int .i64 ck, .int .i64 cu, .int .i64 cv, .bool cz, .int .i64 dk, .int .i64 du, .int .i64 dv, .bool dz, .int .i64 m, .int .i64 i1, .int .i64 j1, .int .i64 i2, .int .i64 j2, .int .i64 p, .int .i64 q] := (Blk.newAt (by simp)).past h1_; have S_1 := pt (pa (pr)) h1_; clear h1_)
    | ((with_reducible refine load_sub (T := 48) (x := .tmp 23) (o := 0) (vs := #[.int .i64 ak, .int .i64 au, .int .i64 av, .bool az, .int .i64 bk, .int .i64 bu, .int .i64 bv, .bool bz, .int .i64 n]) (show Blk _ (w.heap.size) 76 #[.int .i64 ak, .int .i64 au, .int .i64 av, .bool az, .int .i64 bk, .int .i64 bu, .int .i64 bv, .bool bz, .int .i64 n, .int .i64 ck, .int .i64 cu, .int .i64 cv, .bool cz, .int .i64 dk, .int .i64 du, .int .i64 dv, .bool dz, .int .i64 m, .int .i64 i1, .int .i64 j1, .int .i64 i2, .int .i64 j2, .int .i64 p, .int .i64 q] from (X_1)) ?_ ?_ Tryz.underlying48 ?_ ?_ ?_); (focus rfl); (focus rfl); (focus rfl); (focus exact apiUnit_size))
    | (go_at_call 28; (with_reducible refine (HE1.out _).mono ?_); rintro e w2_ ⟨rfl, h2_⟩; have X_2 : Blk w2_ (w.heap.size) 76 #[.int .i64 ak, .int .i64 au, .int .i64 av, .bool az, .int .i64 bk, .int .i64 bu, .int .i64 bv, .bool bz, .int .i64 n, .int .i64 ck, .int .i64 cu, .int .i64 cv, .bool cz, .int .i64 dk, .int .i64 du, .int .i64 dv, .bool dz, .int .i64 m, .int .i64 i1, .int .i64 j1, .int .i64 i2, .int .i64 j2, .int .i64 p, .int .i64 q] := (X_1).past h2_; have S_2 := pt (S_1) h2_; clear X_1 S_1; have Xc0 := X_2.cellAt 0 rfl; have Xc1 := X_2.cellAt 1 rfl; have Xc2 := X_2.cellAt 2 rfl; have Xc3 := X_2.cellAt 3 rfl; have Xc4 := X_2.cellAt 4 rfl; have Xc5 := X_2.cellAt 5 rfl; have Xc6 := X_2.cellAt 6 rfl; have Xc7 := X_2.cellAt 7 rfl; have Xc8 := X_2.cellAt 8 rfl; have Xc9 := X_2.cellAt 9 rfl; have Xc10 := X_2.cellAt 10 rfl; have Xc11 := X_2.cellAt 11 rfl; have Xc12 := X_2.cellAt 12 rfl; have Xc13 := X_2.cellAt 13 rfl; have Xc14 := X_2.cellAt 14 rfl; have Xc15 := X_2.cellAt 15 rfl; have Xc16 := X_2.cellAt 16 rfl; have Xc17 := X_2.cellAt 17 rfl; have Xc18 := X_2.cellAt 18 rfl; have Xc19 := X_2.cellAt 19 rfl; have Xc20 := X_2.cellAt 20 rfl; have Xc21 := X_2.cellAt 21 rfl; have Xc22 := X_2.cellAt 22 rfl; have Xc23 := X_2.cellAt 23 rfl; have Xl := X_2.lt; clear h2_)
    | (go_at_call 28; (with_reducible refine (HE2.out _).mono ?_); rintro e w3_ ⟨rfl, h3_⟩; have X_3 : Blk w3_ (w.heap.size) 76 #[.int .i64 ak, .int .i64 au, .int .i64 av, .bool az, .int .i64 bk, .int .i64 bu, .int .i64 bv, .bool bz, .int .i64 n, .int .i64 ck, .int .i64 cu, .int .i64 cv, .bool cz, .int .i64 dk, .int .i64 du, .int .i64 dv, .bool dz, .int .i64 m, .int .i64 i1, .int .i64 j1, .int .i64 i2, .int .i64 j2, .int .i64 p, .int .i64 q] := (X_2).past h3_; have S_3 := pt (S_2) h3_; clear X_2 S_2 Xc0 Xc1 Xc2 Xc3 Xc4 Xc5 Xc6 Xc7 Xc8 Xc9 Xc10 Xc11 Xc12 Xc13 Xc14 Xc15 Xc16 Xc17 Xc18 Xc19 Xc20 Xc21 Xc22 Xc23 Xl; have Xc0 := X_3.cellAt 0 rfl; have Xc1 := X_3.cellAt 1 rfl; have Xc2 := X_3.cellAt 2 rfl; have Xc3 := X_3.cellAt 3 rfl; have Xc4 := X_3.cellAt 4 rfl; have Xc5 := X_3.cellAt 5 rfl; have Xc6 := X_3.cellAt 6 rfl; have Xc7 := X_3.cellAt 7 rfl; have Xc8 := X_3.cellAt 8 rfl; have Xc9 := X_3.cellAt 9 rfl; have Xc10 := X_3.cellAt 10 rfl; have Xc11 := X_3.cellAt 11 rfl; have Xc12 := X_3.cellAt 12 rfl; have Xc13 := X_3.cellAt 13 rfl; have Xc14 := X_3.cellAt 14 rfl; have Xc15 := X_3.cellAt 15 rfl; have Xc16 := X_3.cellAt 16 rfl; have Xc17 := X_3.cellAt 17 rfl; have Xc18 := X_3.cellAt 18 rfl; have Xc19 := X_3.cellAt 19 rfl; have Xc20 := X_3.cellAt 20 rfl; have Xc21 := X_3.cellAt 21 rfl; have Xc22 := X_3.cellAt 22 rfl; have Xc23 := X_3.cellAt 23 rfl; have Xl := X_3.lt; clear h3_))
  go_ret
  exact ⟨rfl, by repeat (first | exact S_3 | refine pa ?_)⟩

set_option maxHeartbeats 16000000 in
set_option maxRecDepth 100000 in
theorem par_t1 (ak au av : Int) (az : Bool) (bk bu bv : Int) (bz : Bool) (ck cu cv : Int) (cz : Bool) (dk du dv : Int) (dz : Bool) (n m i1 j1 i2 j2 p q : Int)
    (HE1 : ∀ w, Calls Tryz.prog 28 #[.agg #[.int .i64 ak, .int .i64 au, .int .i64 av, .bool az, .int .i64 bk, .int .i64 bu, .int .i64 bv, .bool bz, .int .i64 n]] w fun e w' => e = .returned (.int .i64 0) ∧ Below w.heap.size w w')
    (HE2 : ∀ w, Calls Tryz.prog 28 #[.agg #[.int .i64 ck, .int .i64 cu, .int .i64 cv, .bool cz, .int .i64 dk, .int .i64 du, .int .i64 dv, .bool dz, .int .i64 m]] w fun e w' => e = .returned (.int .i64 0) ∧ Below w.heap.size w w')
    (t0 : ¬ (40 : Int) < au)
    (t1 : (40 : Int) < bu)
    (w : World) (hT : TwIn w) (hP : PatIn w) (hS : StrIn w) :
    Calls Tryz.prog 5 #[.agg #[.int .i64 ak, .int .i64 au, .int .i64 av, .bool az, .int .i64 bk, .int .i64 bu, .int .i64 bv, .bool bz, .int .i64 n, .int .i64 ck, .int .i64 cu, .int .i64 cv, .bool cz, .int .i64 dk, .int .i64 du, .int .i64 dv, .bool dz, .int .i64 m, .int .i64 i1, .int .i64 j1, .int .i64 i2, .int .i64 j2, .int .i64 p, .int .i64 q]] w fun e w' => e = .returned (.bool true) ∧ Below w.heap.size w w' := by
  have HT := Lib.hid (fun w' (h : Below w.heap.size w w') => hT.below h)
  have HP := Lib.hid (fun w' (h : Below w.heap.size w w') => hP.below h)
  have HS := Lib.hid (fun w' (h : Below w.heap.size w w') => hS.kept h)
  clear hT hP hS
  replace HE1 := Lib.hid HE1
  replace HE2 := Lib.hid HE2
  go_enter Tryz.func5, Tryz.ntmps5
  go_wp2_with (first
    | (go_at_call 16; (with_reducible refine (topAwake_any _ (HT.out _ (pa (pr))) (HP.out _ (pa (pr))) (HS.out _ (pa (pr)))).mono ?_); rintro e w1_ ⟨rfl, h1_⟩; have X_1 : Blk w1_ (w.heap.size) 76 #[.int .i64 ak, .int .i64 au, .int .i64 av, .bool az, .int .i64 bk, .int .i64 bu, .int .i64 bv, .bool bz, .int .i64 n, .int .i64 ck, .int .i64 cu, .int .i64 cv, .bool cz, .int .i64 dk, .int .i64 du, .int .i64 dv, .bool dz, .int .i64 m, .int .i64 i1, .int .i64 j1, .int .i64 i2, .int .i64 j2, .int .i64 p, .int .i64 q] := (Blk.newAt (by simp)).past h1_; have S_1 := pt (pa (pr)) h1_; clear h1_)
    | ((with_reducible refine load_sub (T := 48) (x := .tmp 23) (o := 0) (vs := #[.int .i64 ak, .int .i64 au, .int .i64 av, .bool az, .int .i64 bk, .int .i64 bu, .int .i64 bv, .bool bz, .int .i64 n]) (show Blk _ (w.heap.size) 76 #[.int .i64 ak, .int .i64 au, .int .i64 av, .bool az, .int .i64 bk, .int .i64 bu, .int .i64 bv, .bool bz, .int .i64 n, .int .i64 ck, .int .i64 cu, .int .i64 cv, .bool cz, .int .i64 dk, .int .i64 du, .int .i64 dv, .bool dz, .int .i64 m, .int .i64 i1, .int .i64 j1, .int .i64 i2, .int .i64 j2, .int .i64 p, .int .i64 q] from (X_1)) ?_ ?_ Tryz.underlying48 ?_ ?_ ?_); (focus rfl); (focus rfl); (focus rfl); (focus exact apiUnit_size))
    | (go_at_call 28; (with_reducible refine (HE1.out _).mono ?_); rintro e w2_ ⟨rfl, h2_⟩; have X_2 : Blk w2_ (w.heap.size) 76 #[.int .i64 ak, .int .i64 au, .int .i64 av, .bool az, .int .i64 bk, .int .i64 bu, .int .i64 bv, .bool bz, .int .i64 n, .int .i64 ck, .int .i64 cu, .int .i64 cv, .bool cz, .int .i64 dk, .int .i64 du, .int .i64 dv, .bool dz, .int .i64 m, .int .i64 i1, .int .i64 j1, .int .i64 i2, .int .i64 j2, .int .i64 p, .int .i64 q] := (X_1).past h2_; have S_2 := pt (S_1) h2_; clear X_1 S_1; have Xc0 := X_2.cellAt 0 rfl; have Xc1 := X_2.cellAt 1 rfl; have Xc2 := X_2.cellAt 2 rfl; have Xc3 := X_2.cellAt 3 rfl; have Xc4 := X_2.cellAt 4 rfl; have Xc5 := X_2.cellAt 5 rfl; have Xc6 := X_2.cellAt 6 rfl; have Xc7 := X_2.cellAt 7 rfl; have Xc8 := X_2.cellAt 8 rfl; have Xc9 := X_2.cellAt 9 rfl; have Xc10 := X_2.cellAt 10 rfl; have Xc11 := X_2.cellAt 11 rfl; have Xc12 := X_2.cellAt 12 rfl; have Xc13 := X_2.cellAt 13 rfl; have Xc14 := X_2.cellAt 14 rfl; have Xc15 := X_2.cellAt 15 rfl; have Xc16 := X_2.cellAt 16 rfl; have Xc17 := X_2.cellAt 17 rfl; have Xc18 := X_2.cellAt 18 rfl; have Xc19 := X_2.cellAt 19 rfl; have Xc20 := X_2.cellAt 20 rfl; have Xc21 := X_2.cellAt 21 rfl; have Xc22 := X_2.cellAt 22 rfl; have Xc23 := X_2.cellAt 23 rfl; have Xl := X_2.lt; clear h2_)
    | (go_at_call 28; (with_reducible refine (HE2.out _).mono ?_); rintro e w3_ ⟨rfl, h3_⟩; have X_3 : Blk w3_ (w.heap.size) 76 #[.int .i64 ak, .int .i64 au, .int .i64 av, .bool az, .int .i64 bk, .int .i64 bu, .int .i64 bv, .bool bz, .int .i64 n, .int .i64 ck, .int .i64 cu, .int .i64 cv, .bool cz, .int .i64 dk, .int .i64 du, .int .i64 dv, .bool dz, .int .i64 m, .int .i64 i1, .int .i64 j1, .int .i64 i2, .int .i64 j2, .int .i64 p, .int .i64 q] := (X_2).past h3_; have S_3 := pt (S_2) h3_; clear X_2 S_2 Xc0 Xc1 Xc2 Xc3 Xc4 Xc5 Xc6 Xc7 Xc8 Xc9 Xc10 Xc11 Xc12 Xc13 Xc14 Xc15 Xc16 Xc17 Xc18 Xc19 Xc20 Xc21 Xc22 Xc23 Xl; have Xc0 := X_3.cellAt 0 rfl; have Xc1 := X_3.cellAt 1 rfl; have Xc2 := X_3.cellAt 2 rfl; have Xc3 := X_3.cellAt 3 rfl; have Xc4 := X_3.cellAt 4 rfl; have Xc5 := X_3.cellAt 5 rfl; have Xc6 := X_3.cellAt 6 rfl; have Xc7 := X_3.cellAt 7 rfl; have Xc8 := X_3.cellAt 8 rfl; have Xc9 := X_3.cellAt 9 rfl; have Xc10 := X_3.cellAt 10 rfl; have Xc11 := X_3.cellAt 11 rfl; have Xc12 := X_3.cellAt 12 rfl; have Xc13 := X_3.cellAt 13 rfl; have Xc14 := X_3.cellAt 14 rfl; have Xc15 := X_3.cellAt 15 rfl; have Xc16 := X_3.cellAt 16 rfl; have Xc17 := X_3.cellAt 17 rfl; have Xc18 := X_3.cellAt 18 rfl; have Xc19 := X_3.cellAt 19 rfl; have Xc20 := X_3.cellAt 20 rfl; have Xc21 := X_3.cellAt 21 rfl; have Xc22 := X_3.cellAt 22 rfl; have Xc23 := X_3.cellAt 23 rfl; have Xl := X_3.lt; clear h3_))
  go_ret
  exact ⟨rfl, by repeat (first | exact S_3 | refine pa ?_)⟩

set_option maxHeartbeats 16000000 in
set_option maxRecDepth 100000 in
theorem par_t2 (ak au av : Int) (az : Bool) (bk bu bv : Int) (bz : Bool) (ck cu cv : Int) (cz : Bool) (dk du dv : Int) (dz : Bool) (n m i1 j1 i2 j2 p q : Int)
    (HE1 : ∀ w, Calls Tryz.prog 28 #[.agg #[.int .i64 ak, .int .i64 au, .int .i64 av, .bool az, .int .i64 bk, .int .i64 bu, .int .i64 bv, .bool bz, .int .i64 n]] w fun e w' => e = .returned (.int .i64 0) ∧ Below w.heap.size w w')
    (HE2 : ∀ w, Calls Tryz.prog 28 #[.agg #[.int .i64 ck, .int .i64 cu, .int .i64 cv, .bool cz, .int .i64 dk, .int .i64 du, .int .i64 dv, .bool dz, .int .i64 m]] w fun e w' => e = .returned (.int .i64 0) ∧ Below w.heap.size w w')
    (t0 : ¬ (40 : Int) < au)
    (t1 : ¬ (40 : Int) < bu)
    (t2 : (40 : Int) < cu)
    (w : World) (hT : TwIn w) (hP : PatIn w) (hS : StrIn w) :
    Calls Tryz.prog 5 #[.agg #[.int .i64 ak, .int .i64 au, .int .i64 av, .bool az, .int .i64 bk, .int .i64 bu, .int .i64 bv, .bool bz, .int .i64 n, .int .i64 ck, .int .i64 cu, .int .i64 cv, .bool cz, .int .i64 dk, .int .i64 du, .int .i64 dv, .bool dz, .int .i64 m, .int .i64 i1, .int .i64 j1, .int .i64 i2, .int .i64 j2, .int .i64 p, .int .i64 q]] w fun e w' => e = .returned (.bool true) ∧ Below w.heap.size w w' := by
  have HT := Lib.hid (fun w' (h : Below w.heap.size w w') => hT.below h)
  have HP := Lib.hid (fun w' (h : Below w.heap.size w w') => hP.below h)
  have HS := Lib.hid (fun w' (h : Below w.heap.size w w') => hS.kept h)
  clear hT hP hS
  replace HE1 := Lib.hid HE1
  replace HE2 := Lib.hid HE2
  go_enter Tryz.func5, Tryz.ntmps5
  go_wp2_with (first
    | (go_at_call 16; (with_reducible refine (topAwake_any _ (HT.out _ (pa (pr))) (HP.out _ (pa (pr))) (HS.out _ (pa (pr)))).mono ?_); rintro e w1_ ⟨rfl, h1_⟩; have X_1 : Blk w1_ (w.heap.size) 76 #[.int .i64 ak, .int .i64 au, .int .i64 av, .bool az, .int .i64 bk, .int .i64 bu, .int .i64 bv, .bool bz, .int .i64 n, .int .i64 ck, .int .i64 cu, .int .i64 cv, .bool cz, .int .i64 dk, .int .i64 du, .int .i64 dv, .bool dz, .int .i64 m, .int .i64 i1, .int .i64 j1, .int .i64 i2, .int .i64 j2, .int .i64 p, .int .i64 q] := (Blk.newAt (by simp)).past h1_; have S_1 := pt (pa (pr)) h1_; clear h1_)
    | ((with_reducible refine load_sub (T := 48) (x := .tmp 23) (o := 0) (vs := #[.int .i64 ak, .int .i64 au, .int .i64 av, .bool az, .int .i64 bk, .int .i64 bu, .int .i64 bv, .bool bz, .int .i64 n]) (show Blk _ (w.heap.size) 76 #[.int .i64 ak, .int .i64 au, .int .i64 av, .bool az, .int .i64 bk, .int .i64 bu, .int .i64 bv, .bool bz, .int .i64 n, .int .i64 ck, .int .i64 cu, .int .i64 cv, .bool cz, .int .i64 dk, .int .i64 du, .int .i64 dv, .bool dz, .int .i64 m, .int .i64 i1, .int .i64 j1, .int .i64 i2, .int .i64 j2, .int .i64 p, .int .i64 q] from (X_1)) ?_ ?_ Tryz.underlying48 ?_ ?_ ?_); (focus rfl); (focus rfl); (focus rfl); (focus exact apiUnit_size))
    | (go_at_call 28; (with_reducible refine (HE1.out _).mono ?_); rintro e w2_ ⟨rfl, h2_⟩; have X_2 : Blk w2_ (w.heap.size) 76 #[.int .i64 ak, .int .i64 au, .int .i64 av, .bool az, .int .i64 bk, .int .i64 bu, .int .i64 bv, .bool bz, .int .i64 n, .int .i64 ck, .int .i64 cu, .int .i64 cv, .bool cz, .int .i64 dk, .int .i64 du, .int .i64 dv, .bool dz, .int .i64 m, .int .i64 i1, .int .i64 j1, .int .i64 i2, .int .i64 j2, .int .i64 p, .int .i64 q] := (X_1).past h2_; have S_2 := pt (S_1) h2_; clear X_1 S_1; have Xc0 := X_2.cellAt 0 rfl; have Xc1 := X_2.cellAt 1 rfl; have Xc2 := X_2.cellAt 2 rfl; have Xc3 := X_2.cellAt 3 rfl; have Xc4 := X_2.cellAt 4 rfl; have Xc5 := X_2.cellAt 5 rfl; have Xc6 := X_2.cellAt 6 rfl; have Xc7 := X_2.cellAt 7 rfl; have Xc8 := X_2.cellAt 8 rfl; have Xc9 := X_2.cellAt 9 rfl; have Xc10 := X_2.cellAt 10 rfl; have Xc11 := X_2.cellAt 11 rfl; have Xc12 := X_2.cellAt 12 rfl; have Xc13 := X_2.cellAt 13 rfl; have Xc14 := X_2.cellAt 14 rfl; have Xc15 := X_2.cellAt 15 rfl; have Xc16 := X_2.cellAt 16 rfl; have Xc17 := X_2.cellAt 17 rfl; have Xc18 := X_2.cellAt 18 rfl; have Xc19 := X_2.cellAt 19 rfl; have Xc20 := X_2.cellAt 20 rfl; have Xc21 := X_2.cellAt 21 rfl; have Xc22 := X_2.cellAt 22 rfl; have Xc23 := X_2.cellAt 23 rfl; have Xl := X_2.lt; clear h2_)
    | (go_at_call 28; (with_reducible refine (HE2.out _).mono ?_); rintro e w3_ ⟨rfl, h3_⟩; have X_3 : Blk w3_ (w.heap.size) 76 #[.int .i64 ak, .int .i64 au, .int .i64 av, .bool az, .int .i64 bk, .int .i64 bu, .int .i64 bv, .bool bz, .int .i64 n, .int .i64 ck, .int .i64 cu, .int .i64 cv, .bool cz, .int .i64 dk, .int .i64 du, .int .i64 dv, .bool dz, .int .i64 m, .int .i64 i1, .int .i64 j1, .int .i64 i2, .int .i64 j2, .int .i64 p, .int .i64 q] := (X_2).past h3_; have S_3 := pt (S_2) h3_; clear X_2 S_2 Xc0 Xc1 Xc2 Xc3 Xc4 Xc5 Xc6 Xc7 Xc8 Xc9 Xc10 Xc11 Xc12 Xc13 Xc14 Xc15 Xc16 Xc17 Xc18 Xc19 Xc20 Xc21 Xc22 Xc23 Xl; have Xc0 := X_3.cellAt 0 rfl; have Xc1 := X_3.cellAt 1 rfl; have Xc2 := X_3.cellAt 2 rfl; have Xc3 := X_3.cellAt 3 rfl; have Xc4 := X_3.cellAt 4 rfl; have Xc5 := X_3.cellAt 5 rfl; have Xc6 := X_3.cellAt 6 rfl; have Xc7 := X_3.cellAt 7 rfl; have Xc8 := X_3.cellAt 8 rfl; have Xc9 := X_3.cellAt 9 rfl; have Xc10 := X_3.cellAt 10 rfl; have Xc11 := X_3.cellAt 11 rfl; have Xc12 := X_3.cellAt 12 rfl; have Xc13 := X_3.cellAt 13 rfl; have Xc14 := X_3.cellAt 14 rfl; have Xc15 := X_3.cellAt 15 rfl; have Xc16 := X_3.cellAt 16 rfl; have Xc17 := X_3.cellAt 17 rfl; have Xc18 := X_3.cellAt 18 rfl; have Xc19 := X_3.cellAt 19 rfl; have Xc20 := X_3.cellAt 20 rfl; have Xc21 := X_3.cellAt 21 rfl; have Xc22 := X_3.cellAt 22 rfl; have Xc23 := X_3.cellAt 23 rfl; have Xl := X_3.lt; clear h3_))
  go_ret
  exact ⟨rfl, by repeat (first | exact S_3 | refine pa ?_)⟩

set_option maxHeartbeats 16000000 in
set_option maxRecDepth 100000 in
theorem par_t3 (ak au av : Int) (az : Bool) (bk bu bv : Int) (bz : Bool) (ck cu cv : Int) (cz : Bool) (dk du dv : Int) (dz : Bool) (n m i1 j1 i2 j2 p q : Int)
    (HE1 : ∀ w, Calls Tryz.prog 28 #[.agg #[.int .i64 ak, .int .i64 au, .int .i64 av, .bool az, .int .i64 bk, .int .i64 bu, .int .i64 bv, .bool bz, .int .i64 n]] w fun e w' => e = .returned (.int .i64 0) ∧ Below w.heap.size w w')
    (HE2 : ∀ w, Calls Tryz.prog 28 #[.agg #[.int .i64 ck, .int .i64 cu, .int .i64 cv, .bool cz, .int .i64 dk, .int .i64 du, .int .i64 dv, .bool dz, .int .i64 m]] w fun e w' => e = .returned (.int .i64 0) ∧ Below w.heap.size w w')
    (t0 : ¬ (40 : Int) < au)
    (t1 : ¬ (40 : Int) < bu)
    (t2 : ¬ (40 : Int) < cu)
    (t3 : (40 : Int) < du)
    (w : World) (hT : TwIn w) (hP : PatIn w) (hS : StrIn w) :
    Calls Tryz.prog 5 #[.agg #[.int .i64 ak, .int .i64 au, .int .i64 av, .bool az, .int .i64 bk, .int .i64 bu, .int .i64 bv, .bool bz, .int .i64 n, .int .i64 ck, .int .i64 cu, .int .i64 cv, .bool cz, .int .i64 dk, .int .i64 du, .int .i64 dv, .bool dz, .int .i64 m, .int .i64 i1, .int .i64 j1, .int .i64 i2, .int .i64 j2, .int .i64 p, .int .i64 q]] w fun e w' => e = .returned (.bool true) ∧ Below w.heap.size w w' := by
  have HT := Lib.hid (fun w' (h : Below w.heap.size w w') => hT.below h)
  have HP := Lib.hid (fun w' (h : Below w.heap.size w w') => hP.below h)
  have HS := Lib.hid (fun w' (h : Below w.heap.size w w') => hS.kept h)
  clear hT hP hS
  replace HE1 := Lib.hid HE1
  replace HE2 := Lib.hid HE2
  go_enter Tryz.func5, Tryz.ntmps5
  go_wp2_with (first
    | (go_at_call 16; (with_reducible refine (topAwake_any _ (HT.out _ (pa (pr))) (HP.out _ (pa (pr))) (HS.out _ (pa (pr)))).mono ?_); rintro e w1_ ⟨rfl, h1_⟩; have X_1 : Blk w1_ (w.heap.size) 76 #[.int .i64 ak, .int .i64 au, .int .i64 av, .bool az, .int .i64 bk, .int .i64 bu, .int .i64 bv, .bool bz, .int .i64 n, .int .i64 ck, .int .i64 cu, .int .i64 cv, .bool cz, .int .i64 dk, .int .i64 du, .int .i64 dv, .bool dz, .int .i64 m, .int .i64 i1, .int .i64 j1, .int .i64 i2, .int .i64 j2, .int .i64 p, .int .i64 q] := (Blk.newAt (by simp)).past h1_; have S_1 := pt (pa (pr)) h1_; clear h1_)
    | ((with_reducible refine load_sub (T := 48) (x := .tmp 23) (o := 0) (vs := #[.int .i64 ak, .int .i64 au, .int .i64 av, .bool az, .int .i64 bk, .int .i64 bu, .int .i64 bv, .bool bz, .int .i64 n]) (show Blk _ (w.heap.size) 76 #[.int .i64 ak, .int .i64 au, .int .i64 av, .bool az, .int .i64 bk, .int .i64 bu, .int .i64 bv, .bool bz, .int .i64 n, .int .i64 ck, .int .i64 cu, .int .i64 cv, .bool cz, .int .i64 dk, .int .i64 du, .int .i64 dv, .bool dz, .int .i64 m, .int .i64 i1, .int .i64 j1, .int .i64 i2, .int .i64 j2, .int .i64 p, .int .i64 q] from (X_1)) ?_ ?_ Tryz.underlying48 ?_ ?_ ?_); (focus rfl); (focus rfl); (focus rfl); (focus exact apiUnit_size))
    | (go_at_call 28; (with_reducible refine (HE1.out _).mono ?_); rintro e w2_ ⟨rfl, h2_⟩; have X_2 : Blk w2_ (w.heap.size) 76 #[.int .i64 ak, .int .i64 au, .int .i64 av, .bool az, .int .i64 bk, .int .i64 bu, .int .i64 bv, .bool bz, .int .i64 n, .int .i64 ck, .int .i64 cu, .int .i64 cv, .bool cz, .int .i64 dk, .int .i64 du, .int .i64 dv, .bool dz, .int .i64 m, .int .i64 i1, .int .i64 j1, .int .i64 i2, .int .i64 j2, .int .i64 p, .int .i64 q] := (X_1).past h2_; have S_2 := pt (S_1) h2_; clear X_1 S_1; have Xc0 := X_2.cellAt 0 rfl; have Xc1 := X_2.cellAt 1 rfl; have Xc2 := X_2.cellAt 2 rfl; have Xc3 := X_2.cellAt 3 rfl; have Xc4 := X_2.cellAt 4 rfl; have Xc5 := X_2.cellAt 5 rfl; have Xc6 := X_2.cellAt 6 rfl; have Xc7 := X_2.cellAt 7 rfl; have Xc8 := X_2.cellAt 8 rfl; have Xc9 := X_2.cellAt 9 rfl; have Xc10 := X_2.cellAt 10 rfl; have Xc11 := X_2.cellAt 11 rfl; have Xc12 := X_2.cellAt 12 rfl; have Xc13 := X_2.cellAt 13 rfl; have Xc14 := X_2.cellAt 14 rfl; have Xc15 := X_2.cellAt 15 rfl; have Xc16 := X_2.cellAt 16 rfl; have Xc17 := X_2.cellAt 17 rfl; have Xc18 := X_2.cellAt 18 rfl; have Xc19 := X_2.cellAt 19 rfl; have Xc20 := X_2.cellAt 20 rfl; have Xc21 := X_2.cellAt 21 rfl; have Xc22 := X_2.cellAt 22 rfl; have Xc23 := X_2.cellAt 23 rfl; have Xl := X_2.lt; clear h2_)
    | (go_at_call 28; (with_reducible refine (HE2.out _).mono ?_); rintro e w3_ ⟨rfl, h3_⟩; have X_3 : Blk w3_ (w.heap.size) 76 #[.int .i64 ak, .int .i64 au, .int .i64 av, .bool az, .int .i64 bk, .int .i64 bu, .int .i64 bv, .bool bz, .int .i64 n, .int .i64 ck, .int .i64 cu, .int .i64 cv, .bool cz, .int .i64 dk, .int .i64 du, .int .i64 dv, .bool dz, .int .i64 m, .int .i64 i1, .int .i64 j1, .int .i64 i2, .int .i64 j2, .int .i64 p, .int .i64 q] := (X_2).past h3_; have S_3 := pt (S_2) h3_; clear X_2 S_2 Xc0 Xc1 Xc2 Xc3 Xc4 Xc5 Xc6 Xc7 Xc8 Xc9 Xc10 Xc11 Xc12 Xc13 Xc14 Xc15 Xc16 Xc17 Xc18 Xc19 Xc20 Xc21 Xc22 Xc23 Xl; have Xc0 := X_3.cellAt 0 rfl; have Xc1 := X_3.cellAt 1 rfl; have Xc2 := X_3.cellAt 2 rfl; have Xc3 := X_3.cellAt 3 rfl; have Xc4 := X_3.cellAt 4 rfl; have Xc5 := X_3.cellAt 5 rfl; have Xc6 := X_3.cellAt 6 rfl; have Xc7 := X_3.cellAt 7 rfl; have Xc8 := X_3.cellAt 8 rfl; have Xc9 := X_3.cellAt 9 rfl; have Xc10 := X_3.cellAt 10 rfl; have Xc11 := X_3.cellAt 11 rfl; have Xc12 := X_3.cellAt 12 rfl; have Xc13 := X_3.cellAt 13 rfl; have Xc14 := X_3.cellAt 14 rfl; have Xc15 := X_3.cellAt 15 rfl; have Xc16 := X_3.cellAt 16 rfl; have Xc17 := X_3.cellAt 17 rfl; have Xc18 := X_3.cellAt 18 rfl; have Xc19 := X_3.cellAt 19 rfl; have Xc20 := X_3.cellAt 20 rfl; have Xc21 := X_3.cellAt 21 rfl; have Xc22 := X_3.cellAt 22 rfl; have Xc23 := X_3.cellAt 23 rfl; have Xl := X_3.lt; clear h3_))
  go_ret
  exact ⟨rfl, by repeat (first | exact S_3 | refine pa ?_)⟩

end Go.Proofs.YtpdkbhjcpddnpaaGreatDoor
end
