/- The walk of the law on units side by side, the main ways. Printed by a program (gen_parlaw.py). -/
import Derived.Test.YtpdkbhjcpddnpaaGreatDoorNb5

section
namespace Go.Proofs.YtpdkbhjcpddnpaaGreatDoor
open Go.RowKit
attribute [local go_sem ↓] Go.wp_at_zero Go.wp_at_succ
attribute [local go_sem ↓ high] unitP_neq apiph_eql
theorem C8.at0 {W : World} {g o : Nat} {us : List Value} (h : C8 W g o us) {v : Value} (hj : us[0]? = some v) : W.cell? ⟨g, o, none⟩ = some v := h.at_ 0 hj

set_option maxHeartbeats 16000000 in
set_option maxRecDepth 100000 in
theorem par_false (ak au av : Int) (az : Bool) (bk bu bv : Int) (bz : Bool) (ck cu cv : Int) (cz : Bool) (dk du dv : Int) (dz : Bool) (n m i1 j1 i2 j2 p q : Int)
    (E Fv : Int)
    (l1 l2 : List UInt8) (P1 Q1 P2 Q2 : Int) (SU : List Value)
    (HE1 : ∀ w, Calls Tryz.prog 28 #[.agg #[.int .i64 ak, .int .i64 au, .int .i64 av, .bool az, .int .i64 bk, .int .i64 bu, .int .i64 bv, .bool bz, .int .i64 n]] w fun e w' => e = .returned (.int .i64 0) ∧ Below w.heap.size w w')
    (HE2 : ∀ w, Calls Tryz.prog 28 #[.agg #[.int .i64 ck, .int .i64 cu, .int .i64 cv, .bool cz, .int .i64 dk, .int .i64 du, .int .i64 dv, .bool dz, .int .i64 m]] w fun e w' => e = .returned (.int .i64 0) ∧ Below w.heap.size w w')
    (t0 : ¬ (40 : Int) < au)
    (t1 : ¬ (40 : Int) < bu)
    (t2 : ¬ (40 : Int) < cu)
    (t3 : ¬ (40 : Int) < du)
    (HF1 : ∀ w, StrIn w → PatIn w → Calls Tryz.prog 30 #[.agg #[.int .i64 ak, .int .i64 au, .int .i64 av, .bool az, .int .i64 bk, .int .i64 bu, .int .i64 bv, .bool bz, .int .i64 n]] w fun e w' => e = .returned (.string ⟨l1.toArray⟩) ∧ Below w.heap.size w w')
    (HF2 : ∀ w, StrIn w → PatIn w → Calls Tryz.prog 30 #[.agg #[.int .i64 ck, .int .i64 cu, .int .i64 cv, .bool cz, .int .i64 dk, .int .i64 du, .int .i64 dv, .bool dz, .int .i64 m]] w fun e w' => e = .returned (.string ⟨l2.toArray⟩) ∧ Below w.heap.size w w')
    (HA1 : ∀ w, StrIn w → PatIn w → Calls Tryz.prog 29 #[.string ⟨l1.toArray⟩] w fun e w' => e = .returned (.tuple #[.agg #[.int .i64 ak, .int .i64 au, .int .i64 av, .bool az, .int .i64 bk, .int .i64 bu, .int .i64 bv, .bool bz, .int .i64 n], .int .i64 0]) ∧ Below w.heap.size w w')
    (HA2 : ∀ w, StrIn w → PatIn w → Calls Tryz.prog 29 #[.string ⟨l2.toArray⟩] w fun e w' => e = .returned (.tuple #[.agg #[.int .i64 ck, .int .i64 cu, .int .i64 cv, .bool cz, .int .i64 dk, .int .i64 du, .int .i64 dv, .bool dz, .int .i64 m], .int .i64 0]) ∧ Below w.heap.size w w')
    (HVo : ∀ w, PatIn w → Calls Tryz.prog 31 #[.agg #[.int .i64 ak, .int .i64 au, .int .i64 av, .bool az, .int .i64 bk, .int .i64 bu, .int .i64 bv, .bool bz, .int .i64 n], .agg #[.int .i64 ck, .int .i64 cu, .int .i64 cv, .bool cz, .int .i64 dk, .int .i64 du, .int .i64 dv, .bool dz, .int .i64 m]] w fun e w' => e = .returned (.tuple #[.agg #[.int .i64 P1, .int .i64 Q1, .int .i64 P2, .int .i64 Q2], .bool true]) ∧ Below w.heap.size w w')
    (HMr : ∀ w, TwIn w → PatIn w → Calls Tryz.prog 32 #[.agg #[.int .i64 ak, .int .i64 au, .int .i64 av, .bool az, .int .i64 bk, .int .i64 bu, .int .i64 bv, .bool bz, .int .i64 n], .agg #[.int .i64 ck, .int .i64 cu, .int .i64 cv, .bool cz, .int .i64 dk, .int .i64 du, .int .i64 dv, .bool dz, .int .i64 m], .int .i64 0] w fun e w' => e = .returned (.tuple #[.bool false, .int .i64 0]) ∧ Below w.heap.size w w')
    (hph : phB P1 Q1 P2 Q2 = false)
    (HSr : ∀ w b, Blk w b 87 #[.int .i64 P1, .int .i64 Q1, .int .i64 i1, .int .i64 j1, .int .i64 P2, .int .i64 Q2, .int .i64 i2, .int .i64 j2] → Calls Tryz.prog 11 #[.slice (some ⟨b, 0, none⟩) 2 2] w fun e w' => e = .returned (.int .i64 E) ∧ Below w.heap.size w w')
    (HPh : ∀ w, Calls Tryz.prog 12 #[.agg #[.int .i64 p, .int .i64 q]] w fun e w' => e = .returned (.int .i64 Fv) ∧ Below w.heap.size w w')
    (HCp : ∀ w b, Blk w b 87 #[.int .i64 P1, .int .i64 Q1, .int .i64 i1, .int .i64 j1, .int .i64 P2, .int .i64 Q2, .int .i64 i2, .int .i64 j2] → Calls Tryz.prog 8 #[.slice (some ⟨b, 0, none⟩) 2 2] w fun e w' => ∃ (A : Option Addr) (c : Nat), e = .returned (.slice A 2 c) ∧ CIn w' A SU ∧ Below w.heap.size w w')
    (H0 : E = 0 → Fv = 0 → (∀ w A c, CIn w A SU → Calls Tryz.prog 7 #[.slice A 2 c, .agg #[.int .i64 0, .int .i64 0]] w fun e w' => e = .returned (.tuple #[.slice none 0 0, .int .i64 8]) ∧ Below w.heap.size w w') ∨ ∃ v1 v2 u1 u2 u3 u4 u5 u6 u7 u8 : Int, (∀ w A c, CIn w A SU → Calls Tryz.prog 7 #[.slice A 2 c, .agg #[.int .i64 0, .int .i64 0]] w (TwoRet w [.int .i64 u1, .int .i64 u2, .int .i64 u3, .int .i64 u4, .int .i64 u5, .int .i64 u6, .int .i64 u7, .int .i64 u8])) ∧ (∀ w, Calls Tryz.prog 34 #[.agg #[.int .i64 u1, .int .i64 u2], .agg #[.int .i64 u5, .int .i64 u6]] w fun e w' => e = .returned (.bool true) ∧ Below w.heap.size w w') ∧ (∀ w, Calls Tryz.prog 34 #[.agg #[.int .i64 u3, .int .i64 u4], .agg #[.int .i64 u7, .int .i64 u8]] w fun e w' => e = .returned (.bool true) ∧ Below w.heap.size w w') ∧ (∀ w b, Blk w b 87 #[.int .i64 P1, .int .i64 Q1, .int .i64 i1, .int .i64 j1, .int .i64 P2, .int .i64 Q2, .int .i64 i2, .int .i64 j2] → Calls Tryz.prog 35 #[.slice (some ⟨b, 0, none⟩) 2 2, .int .i64 v1, .agg #[.int .i64 u1, .int .i64 u2]] w fun e w' => e = .returned (.bool true) ∧ Below w.heap.size w w') ∧ (∀ w b, Blk w b 87 #[.int .i64 P1, .int .i64 Q1, .int .i64 i1, .int .i64 j1, .int .i64 P2, .int .i64 Q2, .int .i64 i2, .int .i64 j2] → Calls Tryz.prog 35 #[.slice (some ⟨b, 0, none⟩) 2 2, .int .i64 v2, .agg #[.int .i64 u3, .int .i64 u4]] w fun e w' => e = .returned (.bool true) ∧ Below w.heap.size w w') ∧ (P1 - P2 = v1 ∧ IntKind.i64.wrap v1 = v1 ∧ RowKit.wrap64 v1 = v1) ∧ (Q1 - Q2 = v2 ∧ IntKind.i64.wrap v2 = v2 ∧ RowKit.wrap64 v2 = v2) ∧ ((∀ w A c, CIn w A SU → Calls Tryz.prog 7 #[.slice A 2 c, .agg #[.int .i64 p, .int .i64 q]] w fun e w' => e = .returned (.tuple #[.slice none 0 0, .int .i64 8]) ∧ Below w.heap.size w w') ∨ ∃ e1 e2 e3 e4 e5 e6 e7 e8 : Int, (∀ w A c, CIn w A SU → Calls Tryz.prog 7 #[.slice A 2 c, .agg #[.int .i64 p, .int .i64 q]] w (TwoRet w [.int .i64 e1, .int .i64 e2, .int .i64 e3, .int .i64 e4, .int .i64 e5, .int .i64 e6, .int .i64 e7, .int .i64 e8])) ∧ (∀ w g o c, C8 w g o [.int .i64 e1, .int .i64 e2, .int .i64 e3, .int .i64 e4, .int .i64 e5, .int .i64 e6, .int .i64 e7, .int .i64 e8] → Calls Tryz.prog 10 #[.slice (some ⟨g, o, none⟩) 2 c] w fun e w' => ∃ (A : Option Addr) (c : Nat), e = .returned (.slice A 2 c) ∧ CIn w' A [.int .i64 e1, .int .i64 e2, .int .i64 e3, .int .i64 e4, .int .i64 e5, .int .i64 e6, .int .i64 e7, .int .i64 e8] ∧ Below w.heap.size w w') ∧ (∀ w A A2 c c2, CIn w A SU → CIn w A2 [.int .i64 e1, .int .i64 e2, .int .i64 e3, .int .i64 e4, .int .i64 e5, .int .i64 e6, .int .i64 e7, .int .i64 e8] → Calls Tryz.prog 9 #[.slice A 2 c, .agg #[.int .i64 p, .int .i64 q], .slice A2 2 c2] w fun e w' => e = .returned (.tuple #[.int .i64 0, .int .i64 0]) ∧ Below w.heap.size w w')))
    (w : World) (hT : TwIn w) (hP : PatIn w) (hS : StrIn w) :
    Calls Tryz.prog 5 #[.agg #[.int .i64 ak, .int .i64 au, .int .i64 av, .bool az, .int .i64 bk, .int .i64 bu, .int .i64 bv, .bool bz, .int .i64 n, .int .i64 ck, .int .i64 cu, .int .i64 cv, .bool cz, .int .i64 dk, .int .i64 du, .int .i64 dv, .bool dz, .int .i64 m, .int .i64 i1, .int .i64 j1, .int .i64 i2, .int .i64 j2, .int .i64 p, .int .i64 q]] w fun e w' => e = .returned (.bool true) ∧ Below w.heap.size w w' := by
  have HT := Lib.hid (fun w' (h : Below w.heap.size w w') => hT.below h)
  have HP := Lib.hid (fun w' (h : Below w.heap.size w w') => hP.below h)
  have HS := Lib.hid (fun w' (h : Below w.heap.size w w') => hS.kept h)
  clear hT hP hS
  replace HE1 := Lib.hid HE1
  replace HE2 := Lib.hid HE2
  replace HF1 := Lib.hid HF1
  replace HF2 := Lib.hid HF2
  replace HA1 := Lib.hid HA1
  replace HA2 := Lib.hid HA2
  replace HVo := Lib.hid HVo
  replace HMr := Lib.hid HMr
  replace HSr := Lib.hid HSr
  replace HPh := Lib.hid HPh
  replace HCp := Lib.hid HCp
  replace H0 := Lib.hid H0
  go_enter Tryz.func5, Tryz.ntmps5
  go_upto_region 16 with (first
    | (go_at_call 16; (with_reducible refine (topAwake_any _ (HT.out _ (pa (pr))) (HP.out _ (pa (pr))) (HS.out _ (pa (pr)))).mono ?_); rintro e w1_ ⟨rfl, h1_⟩; have X_1 : Blk w1_ (w.heap.size) 76 #[.int .i64 ak, .int .i64 au, .int .i64 av, .bool az, .int .i64 bk, .int .i64 bu, .int .i64 bv, .bool bz, .int .i64 n, .int .i64 ck, .int .i64 cu, .int .i64 cv, .bool cz, .int .i64 dk, .int .i64 du, .int .i64 dv, .bool dz, .int .i64 m, .int .i64 i1, .int .i64 j1, .int .i64 i2, .int .i64 j2, .int .i64 p, .int .i64 q] := (Blk.newAt (by simp)).past h1_; have S_1 := pt (pa (pr)) h1_; clear h1_)
    | ((with_reducible refine load_sub (T := 48) (x := .tmp 23) (o := 0) (vs := #[.int .i64 ak, .int .i64 au, .int .i64 av, .bool az, .int .i64 bk, .int .i64 bu, .int .i64 bv, .bool bz, .int .i64 n]) (show Blk _ (w.heap.size) 76 #[.int .i64 ak, .int .i64 au, .int .i64 av, .bool az, .int .i64 bk, .int .i64 bu, .int .i64 bv, .bool bz, .int .i64 n, .int .i64 ck, .int .i64 cu, .int .i64 cv, .bool cz, .int .i64 dk, .int .i64 du, .int .i64 dv, .bool dz, .int .i64 m, .int .i64 i1, .int .i64 j1, .int .i64 i2, .int .i64 j2, .int .i64 p, .int .i64 q] from (X_1)) ?_ ?_ Tryz.underlying48 ?_ ?_ ?_); (focus rfl); (focus rfl); (focus rfl); (focus exact apiUnit_size))
    | (go_at_call 28; (with_reducible refine (HE1.out _).mono ?_); rintro e w2_ ⟨rfl, h2_⟩; have X_2 : Blk w2_ (w.heap.size) 76 #[.int .i64 ak, .int .i64 au, .int .i64 av, .bool az, .int .i64 bk, .int .i64 bu, .int .i64 bv, .bool bz, .int .i64 n, .int .i64 ck, .int .i64 cu, .int .i64 cv, .bool cz, .int .i64 dk, .int .i64 du, .int .i64 dv, .bool dz, .int .i64 m, .int .i64 i1, .int .i64 j1, .int .i64 i2, .int .i64 j2, .int .i64 p, .int .i64 q] := (X_1).past h2_; have S_2 := pt (S_1) h2_; clear X_1 S_1; have Xc0 := X_2.cellAt 0 rfl; have Xc1 := X_2.cellAt 1 rfl; have Xc2 := X_2.cellAt 2 rfl; have Xc3 := X_2.cellAt 3 rfl; have Xc4 := X_2.cellAt 4 rfl; have Xc5 := X_2.cellAt 5 rfl; have Xc6 := X_2.cellAt 6 rfl; have Xc7 := X_2.cellAt 7 rfl; have Xc8 := X_2.cellAt 8 rfl; have Xc9 := X_2.cellAt 9 rfl; have Xc10 := X_2.cellAt 10 rfl; have Xc11 := X_2.cellAt 11 rfl; have Xc12 := X_2.cellAt 12 rfl; have Xc13 := X_2.cellAt 13 rfl; have Xc14 := X_2.cellAt 14 rfl; have Xc15 := X_2.cellAt 15 rfl; have Xc16 := X_2.cellAt 16 rfl; have Xc17 := X_2.cellAt 17 rfl; have Xc18 := X_2.cellAt 18 rfl; have Xc19 := X_2.cellAt 19 rfl; have Xc20 := X_2.cellAt 20 rfl; have Xc21 := X_2.cellAt 21 rfl; have Xc22 := X_2.cellAt 22 rfl; have Xc23 := X_2.cellAt 23 rfl; have Xl := X_2.lt; clear h2_)
    | (go_at_call 28; (with_reducible refine (HE2.out _).mono ?_); rintro e w3_ ⟨rfl, h3_⟩; have X_3 : Blk w3_ (w.heap.size) 76 #[.int .i64 ak, .int .i64 au, .int .i64 av, .bool az, .int .i64 bk, .int .i64 bu, .int .i64 bv, .bool bz, .int .i64 n, .int .i64 ck, .int .i64 cu, .int .i64 cv, .bool cz, .int .i64 dk, .int .i64 du, .int .i64 dv, .bool dz, .int .i64 m, .int .i64 i1, .int .i64 j1, .int .i64 i2, .int .i64 j2, .int .i64 p, .int .i64 q] := (X_2).past h3_; have S_3 := pt (S_2) h3_; clear X_2 S_2 Xc0 Xc1 Xc2 Xc3 Xc4 Xc5 Xc6 Xc7 Xc8 Xc9 Xc10 Xc11 Xc12 Xc13 Xc14 Xc15 Xc16 Xc17 Xc18 Xc19 Xc20 Xc21 Xc22 Xc23 Xl; have Xc0 := X_3.cellAt 0 rfl; have Xc1 := X_3.cellAt 1 rfl; have Xc2 := X_3.cellAt 2 rfl; have Xc3 := X_3.cellAt 3 rfl; have Xc4 := X_3.cellAt 4 rfl; have Xc5 := X_3.cellAt 5 rfl; have Xc6 := X_3.cellAt 6 rfl; have Xc7 := X_3.cellAt 7 rfl; have Xc8 := X_3.cellAt 8 rfl; have Xc9 := X_3.cellAt 9 rfl; have Xc10 := X_3.cellAt 10 rfl; have Xc11 := X_3.cellAt 11 rfl; have Xc12 := X_3.cellAt 12 rfl; have Xc13 := X_3.cellAt 13 rfl; have Xc14 := X_3.cellAt 14 rfl; have Xc15 := X_3.cellAt 15 rfl; have Xc16 := X_3.cellAt 16 rfl; have Xc17 := X_3.cellAt 17 rfl; have Xc18 := X_3.cellAt 18 rfl; have Xc19 := X_3.cellAt 19 rfl; have Xc20 := X_3.cellAt 20 rfl; have Xc21 := X_3.cellAt 21 rfl; have Xc22 := X_3.cellAt 22 rfl; have Xc23 := X_3.cellAt 23 rfl; have Xl := X_3.lt; clear h3_)
    | ((with_reducible refine load_sub (T := 48) (x := .tmp 62) (o := 0) (vs := #[.int .i64 ak, .int .i64 au, .int .i64 av, .bool az, .int .i64 bk, .int .i64 bu, .int .i64 bv, .bool bz, .int .i64 n]) (show Blk _ (w.heap.size) 76 #[.int .i64 ak, .int .i64 au, .int .i64 av, .bool az, .int .i64 bk, .int .i64 bu, .int .i64 bv, .bool bz, .int .i64 n, .int .i64 ck, .int .i64 cu, .int .i64 cv, .bool cz, .int .i64 dk, .int .i64 du, .int .i64 dv, .bool dz, .int .i64 m, .int .i64 i1, .int .i64 j1, .int .i64 i2, .int .i64 j2, .int .i64 p, .int .i64 q] from (X_3)) ?_ ?_ Tryz.underlying48 ?_ ?_ ?_); (focus rfl); (focus rfl); (focus rfl); (focus exact apiUnit_size))
    | (go_at_call 30; (with_reducible refine (HF1.out _ (HS.out _ (S_3)) (HP.out _ (S_3))).mono ?_); rintro e w4_ ⟨rfl, h4_⟩; have X_4 : Blk w4_ (w.heap.size) 76 #[.int .i64 ak, .int .i64 au, .int .i64 av, .bool az, .int .i64 bk, .int .i64 bu, .int .i64 bv, .bool bz, .int .i64 n, .int .i64 ck, .int .i64 cu, .int .i64 cv, .bool cz, .int .i64 dk, .int .i64 du, .int .i64 dv, .bool dz, .int .i64 m, .int .i64 i1, .int .i64 j1, .int .i64 i2, .int .i64 j2, .int .i64 p, .int .i64 q] := (X_3).past h4_; have S_4 := pt (S_3) h4_; clear X_3 S_3 Xc0 Xc1 Xc2 Xc3 Xc4 Xc5 Xc6 Xc7 Xc8 Xc9 Xc10 Xc11 Xc12 Xc13 Xc14 Xc15 Xc16 Xc17 Xc18 Xc19 Xc20 Xc21 Xc22 Xc23 Xl; clear h4_)
    | (go_at_call 29; (with_reducible refine (HA1.out _ (HS.out _ (S_4)) (HP.out _ (S_4))).mono ?_); rintro e w5_ ⟨rfl, h5_⟩; have X_5 : Blk w5_ (w.heap.size) 76 #[.int .i64 ak, .int .i64 au, .int .i64 av, .bool az, .int .i64 bk, .int .i64 bu, .int .i64 bv, .bool bz, .int .i64 n, .int .i64 ck, .int .i64 cu, .int .i64 cv, .bool cz, .int .i64 dk, .int .i64 du, .int .i64 dv, .bool dz, .int .i64 m, .int .i64 i1, .int .i64 j1, .int .i64 i2, .int .i64 j2, .int .i64 p, .int .i64 q] := (X_4).past h5_; have S_5 := pt (S_4) h5_; clear X_4 S_4; clear h5_)
    | ((with_reducible refine load_sub (T := 48) (x := .tmp 69) (o := 9) (vs := #[.int .i64 ck, .int .i64 cu, .int .i64 cv, .bool cz, .int .i64 dk, .int .i64 du, .int .i64 dv, .bool dz, .int .i64 m]) (show Blk _ (w.heap.size) 76 #[.int .i64 ak, .int .i64 au, .int .i64 av, .bool az, .int .i64 bk, .int .i64 bu, .int .i64 bv, .bool bz, .int .i64 n, .int .i64 ck, .int .i64 cu, .int .i64 cv, .bool cz, .int .i64 dk, .int .i64 du, .int .i64 dv, .bool dz, .int .i64 m, .int .i64 i1, .int .i64 j1, .int .i64 i2, .int .i64 j2, .int .i64 p, .int .i64 q] from (X_5.alloc)) ?_ ?_ Tryz.underlying48 ?_ ?_ ?_); (focus rfl); (focus rfl); (focus rfl); (focus exact apiUnit_size))
    | (go_at_call 30; (with_reducible refine (HF2.out _ (HS.out _ (pa (S_5))) (HP.out _ (pa (S_5)))).mono ?_); rintro e w6_ ⟨rfl, h6_⟩; have X_6 : Blk w6_ (w.heap.size) 76 #[.int .i64 ak, .int .i64 au, .int .i64 av, .bool az, .int .i64 bk, .int .i64 bu, .int .i64 bv, .bool bz, .int .i64 n, .int .i64 ck, .int .i64 cu, .int .i64 cv, .bool cz, .int .i64 dk, .int .i64 du, .int .i64 dv, .bool dz, .int .i64 m, .int .i64 i1, .int .i64 j1, .int .i64 i2, .int .i64 j2, .int .i64 p, .int .i64 q] := (X_5.alloc).past h6_; have U_6 : Blk w6_ (w5_.heap.size) 48 #[.int .i64 ak, .int .i64 au, .int .i64 av, .bool az, .int .i64 bk, .int .i64 bu, .int .i64 bv, .bool bz, .int .i64 n] := (Blk.newAt (by simp)).past h6_; have S_6 := pt (pa (S_5)) h6_; clear X_5 S_5; clear h6_)
    | (go_at_call 29; (with_reducible refine (HA2.out _ (HS.out _ (S_6)) (HP.out _ (S_6))).mono ?_); rintro e w7_ ⟨rfl, h7_⟩; have X_7 : Blk w7_ (w.heap.size) 76 #[.int .i64 ak, .int .i64 au, .int .i64 av, .bool az, .int .i64 bk, .int .i64 bu, .int .i64 bv, .bool bz, .int .i64 n, .int .i64 ck, .int .i64 cu, .int .i64 cv, .bool cz, .int .i64 dk, .int .i64 du, .int .i64 dv, .bool dz, .int .i64 m, .int .i64 i1, .int .i64 j1, .int .i64 i2, .int .i64 j2, .int .i64 p, .int .i64 q] := (X_6).past h7_; have U_7 : Blk w7_ (w5_.heap.size) 48 #[.int .i64 ak, .int .i64 au, .int .i64 av, .bool az, .int .i64 bk, .int .i64 bu, .int .i64 bv, .bool bz, .int .i64 n] := (U_6).past h7_; have S_7 := pt (S_6) h7_; clear X_6 U_6 S_6; have Uc0 := U_7.cellAt 0 rfl; have Uc1 := U_7.cellAt 1 rfl; have Uc2 := U_7.cellAt 2 rfl; have Uc3 := U_7.cellAt 3 rfl; have Uc4 := U_7.cellAt 4 rfl; have Uc5 := U_7.cellAt 5 rfl; have Uc6 := U_7.cellAt 6 rfl; have Uc7 := U_7.cellAt 7 rfl; have Uc8 := U_7.cellAt 8 rfl; have Ul := U_7.lt; have Xc0 := X_7.cellAt 0 rfl; have Xc1 := X_7.cellAt 1 rfl; have Xc2 := X_7.cellAt 2 rfl; have Xc3 := X_7.cellAt 3 rfl; have Xc4 := X_7.cellAt 4 rfl; have Xc5 := X_7.cellAt 5 rfl; have Xc6 := X_7.cellAt 6 rfl; have Xc7 := X_7.cellAt 7 rfl; have Xc8 := X_7.cellAt 8 rfl; have Xc9 := X_7.cellAt 9 rfl; have Xc10 := X_7.cellAt 10 rfl; have Xc11 := X_7.cellAt 11 rfl; have Xc12 := X_7.cellAt 12 rfl; have Xc13 := X_7.cellAt 13 rfl; have Xc14 := X_7.cellAt 14 rfl; have Xc15 := X_7.cellAt 15 rfl; have Xc16 := X_7.cellAt 16 rfl; have Xc17 := X_7.cellAt 17 rfl; have Xc18 := X_7.cellAt 18 rfl; have Xc19 := X_7.cellAt 19 rfl; have Xc20 := X_7.cellAt 20 rfl; have Xc21 := X_7.cellAt 21 rfl; have Xc22 := X_7.cellAt 22 rfl; have Xc23 := X_7.cellAt 23 rfl; have Xl := X_7.lt; clear h7_)
    | ((with_reducible refine load_sub (T := 48) (x := .tmp 94) (o := 0) (vs := #[.int .i64 ak, .int .i64 au, .int .i64 av, .bool az, .int .i64 bk, .int .i64 bu, .int .i64 bv, .bool bz, .int .i64 n]) (show Blk _ (w5_.heap.size) 48 #[.int .i64 ak, .int .i64 au, .int .i64 av, .bool az, .int .i64 bk, .int .i64 bu, .int .i64 bv, .bool bz, .int .i64 n] from (U_7.alloc)) ?_ ?_ Tryz.underlying48 ?_ ?_ ?_); (focus rfl); (focus rfl); (focus rfl); (focus exact apiUnit_size))
    | ((with_reducible refine load_sub (T := 48) (x := .tmp 5) (o := 0) (vs := #[.int .i64 ck, .int .i64 cu, .int .i64 cv, .bool cz, .int .i64 dk, .int .i64 du, .int .i64 dv, .bool dz, .int .i64 m]) (show Blk _ (w7_.heap.size) 48 #[.int .i64 ck, .int .i64 cu, .int .i64 cv, .bool cz, .int .i64 dk, .int .i64 du, .int .i64 dv, .bool dz, .int .i64 m] from (Blk.newAt (by simp))) ?_ ?_ Tryz.underlying48 ?_ ?_ ?_); (focus rfl); (focus rfl); (focus rfl); (focus exact apiUnit_size))
    | (go_at_call 31; (with_reducible refine (HVo.out _ (HP.out _ (pa (S_7)))).mono ?_); rintro e w8_ ⟨rfl, h8_⟩; have X_8 : Blk w8_ (w.heap.size) 76 #[.int .i64 ak, .int .i64 au, .int .i64 av, .bool az, .int .i64 bk, .int .i64 bu, .int .i64 bv, .bool bz, .int .i64 n, .int .i64 ck, .int .i64 cu, .int .i64 cv, .bool cz, .int .i64 dk, .int .i64 du, .int .i64 dv, .bool dz, .int .i64 m, .int .i64 i1, .int .i64 j1, .int .i64 i2, .int .i64 j2, .int .i64 p, .int .i64 q] := (X_7.alloc).past h8_; have U_8 : Blk w8_ (w5_.heap.size) 48 #[.int .i64 ak, .int .i64 au, .int .i64 av, .bool az, .int .i64 bk, .int .i64 bu, .int .i64 bv, .bool bz, .int .i64 n] := (U_7.alloc).past h8_; have V_8 : Blk w8_ (w7_.heap.size) 48 #[.int .i64 ck, .int .i64 cu, .int .i64 cv, .bool cz, .int .i64 dk, .int .i64 du, .int .i64 dv, .bool dz, .int .i64 m] := (Blk.newAt (by simp)).past h8_; have S_8 := pt (pa (S_7)) h8_; clear X_7 U_7 S_7 Uc0 Uc1 Uc2 Uc3 Uc4 Uc5 Uc6 Uc7 Uc8 Ul Xc0 Xc1 Xc2 Xc3 Xc4 Xc5 Xc6 Xc7 Xc8 Xc9 Xc10 Xc11 Xc12 Xc13 Xc14 Xc15 Xc16 Xc17 Xc18 Xc19 Xc20 Xc21 Xc22 Xc23 Xl; clear h8_)
    | ((with_reducible refine load_sub (T := 48) (x := .tmp 3) (o := 0) (vs := #[.int .i64 ak, .int .i64 au, .int .i64 av, .bool az, .int .i64 bk, .int .i64 bu, .int .i64 bv, .bool bz, .int .i64 n]) (show Blk _ (w5_.heap.size) 48 #[.int .i64 ak, .int .i64 au, .int .i64 av, .bool az, .int .i64 bk, .int .i64 bu, .int .i64 bv, .bool bz, .int .i64 n] from (U_8.alloc)) ?_ ?_ Tryz.underlying48 ?_ ?_ ?_); (focus rfl); (focus rfl); (focus rfl); (focus exact apiUnit_size))
    | ((with_reducible refine load_sub (T := 48) (x := .tmp 5) (o := 0) (vs := #[.int .i64 ck, .int .i64 cu, .int .i64 cv, .bool cz, .int .i64 dk, .int .i64 du, .int .i64 dv, .bool dz, .int .i64 m]) (show Blk _ (w7_.heap.size) 48 #[.int .i64 ck, .int .i64 cu, .int .i64 cv, .bool cz, .int .i64 dk, .int .i64 du, .int .i64 dv, .bool dz, .int .i64 m] from (V_8.alloc)) ?_ ?_ Tryz.underlying48 ?_ ?_ ?_); (focus rfl); (focus rfl); (focus rfl); (focus exact apiUnit_size))
    | (go_at_call 32; (with_reducible refine (HMr.out _ (HT.out _ (pa (S_8))) (HP.out _ (pa (S_8)))).mono ?_); rintro e w9_ ⟨rfl, h9_⟩; have X_9 : Blk w9_ (w.heap.size) 76 #[.int .i64 ak, .int .i64 au, .int .i64 av, .bool az, .int .i64 bk, .int .i64 bu, .int .i64 bv, .bool bz, .int .i64 n, .int .i64 ck, .int .i64 cu, .int .i64 cv, .bool cz, .int .i64 dk, .int .i64 du, .int .i64 dv, .bool dz, .int .i64 m, .int .i64 i1, .int .i64 j1, .int .i64 i2, .int .i64 j2, .int .i64 p, .int .i64 q] := (X_8.alloc).past h9_; have U_9 : Blk w9_ (w5_.heap.size) 48 #[.int .i64 ak, .int .i64 au, .int .i64 av, .bool az, .int .i64 bk, .int .i64 bu, .int .i64 bv, .bool bz, .int .i64 n] := (U_8.alloc).past h9_; have V_9 : Blk w9_ (w7_.heap.size) 48 #[.int .i64 ck, .int .i64 cu, .int .i64 cv, .bool cz, .int .i64 dk, .int .i64 du, .int .i64 dv, .bool dz, .int .i64 m] := (V_8.alloc).past h9_; have P_9 : Blk w9_ (w8_.heap.size) 81 #[.int .i64 P1, .int .i64 Q1, .int .i64 P2, .int .i64 Q2] := (Blk.newAt (by simp)).past h9_; have S_9 := pt (pa (S_8)) h9_; clear X_8 U_8 V_8 S_8; have Pc0 := P_9.cellAt 0 rfl; have Pc1 := P_9.cellAt 1 rfl; have Pc2 := P_9.cellAt 2 rfl; have Pc3 := P_9.cellAt 3 rfl; have Pl := P_9.lt; have Xc0 := X_9.cellAt 0 rfl; have Xc1 := X_9.cellAt 1 rfl; have Xc2 := X_9.cellAt 2 rfl; have Xc3 := X_9.cellAt 3 rfl; have Xc4 := X_9.cellAt 4 rfl; have Xc5 := X_9.cellAt 5 rfl; have Xc6 := X_9.cellAt 6 rfl; have Xc7 := X_9.cellAt 7 rfl; have Xc8 := X_9.cellAt 8 rfl; have Xc9 := X_9.cellAt 9 rfl; have Xc10 := X_9.cellAt 10 rfl; have Xc11 := X_9.cellAt 11 rfl; have Xc12 := X_9.cellAt 12 rfl; have Xc13 := X_9.cellAt 13 rfl; have Xc14 := X_9.cellAt 14 rfl; have Xc15 := X_9.cellAt 15 rfl; have Xc16 := X_9.cellAt 16 rfl; have Xc17 := X_9.cellAt 17 rfl; have Xc18 := X_9.cellAt 18 rfl; have Xc19 := X_9.cellAt 19 rfl; have Xc20 := X_9.cellAt 20 rfl; have Xc21 := X_9.cellAt 21 rfl; have Xc22 := X_9.cellAt 22 rfl; have Xc23 := X_9.cellAt 23 rfl; have Xl := X_9.lt; clear h9_))
  as_aux_lemma =>
  by_cases hE : E = 0
  rotate_left
  · as_aux_lemma =>
    have e1 : (E != 0) = true := by simpa using hE
    have e2 : ¬ E = 0 := hE
    clear hE H0 HPh HCp
    go_wp2_with (first
      | (go_at_call 11; (with_reducible refine (HSr.out _ _ (Blk.newAt (by simp))).mono ?_); rintro e w10_ ⟨rfl, h10_⟩; have X_10 : Blk w10_ (w.heap.size) 76 #[.int .i64 ak, .int .i64 au, .int .i64 av, .bool az, .int .i64 bk, .int .i64 bu, .int .i64 bv, .bool bz, .int .i64 n, .int .i64 ck, .int .i64 cu, .int .i64 cv, .bool cz, .int .i64 dk, .int .i64 du, .int .i64 dv, .bool dz, .int .i64 m, .int .i64 i1, .int .i64 j1, .int .i64 i2, .int .i64 j2, .int .i64 p, .int .i64 q] := (X_9.alloc).past h10_; have U_10 : Blk w10_ (w5_.heap.size) 48 #[.int .i64 ak, .int .i64 au, .int .i64 av, .bool az, .int .i64 bk, .int .i64 bu, .int .i64 bv, .bool bz, .int .i64 n] := (U_9.alloc).past h10_; have V_10 : Blk w10_ (w7_.heap.size) 48 #[.int .i64 ck, .int .i64 cu, .int .i64 cv, .bool cz, .int .i64 dk, .int .i64 du, .int .i64 dv, .bool dz, .int .i64 m] := (V_9.alloc).past h10_; have P_10 : Blk w10_ (w8_.heap.size) 81 #[.int .i64 P1, .int .i64 Q1, .int .i64 P2, .int .i64 Q2] := (P_9.alloc).past h10_; have L_10 : Blk w10_ (w9_.heap.size) 87 #[.int .i64 P1, .int .i64 Q1, .int .i64 i1, .int .i64 j1, .int .i64 P2, .int .i64 Q2, .int .i64 i2, .int .i64 j2] := (Blk.newAt (by simp)).past h10_; have S_10 := pt (pa (S_9)) h10_; clear X_9 U_9 V_9 P_9 S_9 Pc0 Pc1 Pc2 Pc3 Pl Xc0 Xc1 Xc2 Xc3 Xc4 Xc5 Xc6 Xc7 Xc8 Xc9 Xc10 Xc11 Xc12 Xc13 Xc14 Xc15 Xc16 Xc17 Xc18 Xc19 Xc20 Xc21 Xc22 Xc23 Xl; have Xc0 := X_10.cellAt 0 rfl; have Xc1 := X_10.cellAt 1 rfl; have Xc2 := X_10.cellAt 2 rfl; have Xc3 := X_10.cellAt 3 rfl; have Xc4 := X_10.cellAt 4 rfl; have Xc5 := X_10.cellAt 5 rfl; have Xc6 := X_10.cellAt 6 rfl; have Xc7 := X_10.cellAt 7 rfl; have Xc8 := X_10.cellAt 8 rfl; have Xc9 := X_10.cellAt 9 rfl; have Xc10 := X_10.cellAt 10 rfl; have Xc11 := X_10.cellAt 11 rfl; have Xc12 := X_10.cellAt 12 rfl; have Xc13 := X_10.cellAt 13 rfl; have Xc14 := X_10.cellAt 14 rfl; have Xc15 := X_10.cellAt 15 rfl; have Xc16 := X_10.cellAt 16 rfl; have Xc17 := X_10.cellAt 17 rfl; have Xc18 := X_10.cellAt 18 rfl; have Xc19 := X_10.cellAt 19 rfl; have Xc20 := X_10.cellAt 20 rfl; have Xc21 := X_10.cellAt 21 rfl; have Xc22 := X_10.cellAt 22 rfl; have Xc23 := X_10.cellAt 23 rfl; have Xl := X_10.lt; clear h10_))
    go_ret
    exact ⟨rfl, by repeat (first | exact S_10 | refine pa ?_)⟩
  have HFv := Lib.hid (H0.out hE)
  clear H0
  subst hE
  by_cases hF : Fv = 0
  rotate_left
  · as_aux_lemma =>
    have e1 : (Fv != 0) = true := by simpa using hF
    have e2 : ¬ Fv = 0 := hF
    clear hF HFv HCp
    go_wp2_with (first
      | (go_at_call 11; (with_reducible refine (HSr.out _ _ (Blk.newAt (by simp))).mono ?_); rintro e w10_ ⟨rfl, h10_⟩; have X_10 : Blk w10_ (w.heap.size) 76 #[.int .i64 ak, .int .i64 au, .int .i64 av, .bool az, .int .i64 bk, .int .i64 bu, .int .i64 bv, .bool bz, .int .i64 n, .int .i64 ck, .int .i64 cu, .int .i64 cv, .bool cz, .int .i64 dk, .int .i64 du, .int .i64 dv, .bool dz, .int .i64 m, .int .i64 i1, .int .i64 j1, .int .i64 i2, .int .i64 j2, .int .i64 p, .int .i64 q] := (X_9.alloc).past h10_; have U_10 : Blk w10_ (w5_.heap.size) 48 #[.int .i64 ak, .int .i64 au, .int .i64 av, .bool az, .int .i64 bk, .int .i64 bu, .int .i64 bv, .bool bz, .int .i64 n] := (U_9.alloc).past h10_; have V_10 : Blk w10_ (w7_.heap.size) 48 #[.int .i64 ck, .int .i64 cu, .int .i64 cv, .bool cz, .int .i64 dk, .int .i64 du, .int .i64 dv, .bool dz, .int .i64 m] := (V_9.alloc).past h10_; have P_10 : Blk w10_ (w8_.heap.size) 81 #[.int .i64 P1, .int .i64 Q1, .int .i64 P2, .int .i64 Q2] := (P_9.alloc).past h10_; have L_10 : Blk w10_ (w9_.heap.size) 87 #[.int .i64 P1, .int .i64 Q1, .int .i64 i1, .int .i64 j1, .int .i64 P2, .int .i64 Q2, .int .i64 i2, .int .i64 j2] := (Blk.newAt (by simp)).past h10_; have S_10 := pt (pa (S_9)) h10_; clear X_9 U_9 V_9 P_9 S_9 Pc0 Pc1 Pc2 Pc3 Pl Xc0 Xc1 Xc2 Xc3 Xc4 Xc5 Xc6 Xc7 Xc8 Xc9 Xc10 Xc11 Xc12 Xc13 Xc14 Xc15 Xc16 Xc17 Xc18 Xc19 Xc20 Xc21 Xc22 Xc23 Xl; have Xc0 := X_10.cellAt 0 rfl; have Xc1 := X_10.cellAt 1 rfl; have Xc2 := X_10.cellAt 2 rfl; have Xc3 := X_10.cellAt 3 rfl; have Xc4 := X_10.cellAt 4 rfl; have Xc5 := X_10.cellAt 5 rfl; have Xc6 := X_10.cellAt 6 rfl; have Xc7 := X_10.cellAt 7 rfl; have Xc8 := X_10.cellAt 8 rfl; have Xc9 := X_10.cellAt 9 rfl; have Xc10 := X_10.cellAt 10 rfl; have Xc11 := X_10.cellAt 11 rfl; have Xc12 := X_10.cellAt 12 rfl; have Xc13 := X_10.cellAt 13 rfl; have Xc14 := X_10.cellAt 14 rfl; have Xc15 := X_10.cellAt 15 rfl; have Xc16 := X_10.cellAt 16 rfl; have Xc17 := X_10.cellAt 17 rfl; have Xc18 := X_10.cellAt 18 rfl; have Xc19 := X_10.cellAt 19 rfl; have Xc20 := X_10.cellAt 20 rfl; have Xc21 := X_10.cellAt 21 rfl; have Xc22 := X_10.cellAt 22 rfl; have Xc23 := X_10.cellAt 23 rfl; have Xl := X_10.lt; clear h10_)
      | (go_at_call 12; (with_reducible refine (HPh.out _).mono ?_); rintro e w11_ ⟨rfl, h11_⟩; have X_11 : Blk w11_ (w.heap.size) 76 #[.int .i64 ak, .int .i64 au, .int .i64 av, .bool az, .int .i64 bk, .int .i64 bu, .int .i64 bv, .bool bz, .int .i64 n, .int .i64 ck, .int .i64 cu, .int .i64 cv, .bool cz, .int .i64 dk, .int .i64 du, .int .i64 dv, .bool dz, .int .i64 m, .int .i64 i1, .int .i64 j1, .int .i64 i2, .int .i64 j2, .int .i64 p, .int .i64 q] := (X_10).past h11_; have U_11 : Blk w11_ (w5_.heap.size) 48 #[.int .i64 ak, .int .i64 au, .int .i64 av, .bool az, .int .i64 bk, .int .i64 bu, .int .i64 bv, .bool bz, .int .i64 n] := (U_10).past h11_; have V_11 : Blk w11_ (w7_.heap.size) 48 #[.int .i64 ck, .int .i64 cu, .int .i64 cv, .bool cz, .int .i64 dk, .int .i64 du, .int .i64 dv, .bool dz, .int .i64 m] := (V_10).past h11_; have P_11 : Blk w11_ (w8_.heap.size) 81 #[.int .i64 P1, .int .i64 Q1, .int .i64 P2, .int .i64 Q2] := (P_10).past h11_; have L_11 : Blk w11_ (w9_.heap.size) 87 #[.int .i64 P1, .int .i64 Q1, .int .i64 i1, .int .i64 j1, .int .i64 P2, .int .i64 Q2, .int .i64 i2, .int .i64 j2] := (L_10).past h11_; have S_11 := pt (S_10) h11_; clear X_10 U_10 V_10 P_10 L_10 S_10 Xc0 Xc1 Xc2 Xc3 Xc4 Xc5 Xc6 Xc7 Xc8 Xc9 Xc10 Xc11 Xc12 Xc13 Xc14 Xc15 Xc16 Xc17 Xc18 Xc19 Xc20 Xc21 Xc22 Xc23 Xl; clear h11_))
    go_ret
    exact ⟨rfl, by repeat (first | exact S_11 | refine pa ?_)⟩
  have H1 := HFv.out hF
  clear HFv
  subst hF
  rcases H1 with HC0 | ⟨v1, v2, u1, u2, u3, u4, u5, u6, u7, u8, HC0, HO1, HO2, HD1, HD2, ⟨d1, d2, d3⟩, ⟨d4, d5, d6⟩, H2⟩
  · as_aux_lemma =>
    replace HC0 := Lib.hid HC0
    go_wp2_with (first
      | (go_at_call 11; (with_reducible refine (HSr.out _ _ (Blk.newAt (by simp))).mono ?_); rintro e w10_ ⟨rfl, h10_⟩; have X_10 : Blk w10_ (w.heap.size) 76 #[.int .i64 ak, .int .i64 au, .int .i64 av, .bool az, .int .i64 bk, .int .i64 bu, .int .i64 bv, .bool bz, .int .i64 n, .int .i64 ck, .int .i64 cu, .int .i64 cv, .bool cz, .int .i64 dk, .int .i64 du, .int .i64 dv, .bool dz, .int .i64 m, .int .i64 i1, .int .i64 j1, .int .i64 i2, .int .i64 j2, .int .i64 p, .int .i64 q] := (X_9.alloc).past h10_; have U_10 : Blk w10_ (w5_.heap.size) 48 #[.int .i64 ak, .int .i64 au, .int .i64 av, .bool az, .int .i64 bk, .int .i64 bu, .int .i64 bv, .bool bz, .int .i64 n] := (U_9.alloc).past h10_; have V_10 : Blk w10_ (w7_.heap.size) 48 #[.int .i64 ck, .int .i64 cu, .int .i64 cv, .bool cz, .int .i64 dk, .int .i64 du, .int .i64 dv, .bool dz, .int .i64 m] := (V_9.alloc).past h10_; have P_10 : Blk w10_ (w8_.heap.size) 81 #[.int .i64 P1, .int .i64 Q1, .int .i64 P2, .int .i64 Q2] := (P_9.alloc).past h10_; have L_10 : Blk w10_ (w9_.heap.size) 87 #[.int .i64 P1, .int .i64 Q1, .int .i64 i1, .int .i64 j1, .int .i64 P2, .int .i64 Q2, .int .i64 i2, .int .i64 j2] := (Blk.newAt (by simp)).past h10_; have S_10 := pt (pa (S_9)) h10_; clear X_9 U_9 V_9 P_9 S_9 Pc0 Pc1 Pc2 Pc3 Pl Xc0 Xc1 Xc2 Xc3 Xc4 Xc5 Xc6 Xc7 Xc8 Xc9 Xc10 Xc11 Xc12 Xc13 Xc14 Xc15 Xc16 Xc17 Xc18 Xc19 Xc20 Xc21 Xc22 Xc23 Xl; have Xc0 := X_10.cellAt 0 rfl; have Xc1 := X_10.cellAt 1 rfl; have Xc2 := X_10.cellAt 2 rfl; have Xc3 := X_10.cellAt 3 rfl; have Xc4 := X_10.cellAt 4 rfl; have Xc5 := X_10.cellAt 5 rfl; have Xc6 := X_10.cellAt 6 rfl; have Xc7 := X_10.cellAt 7 rfl; have Xc8 := X_10.cellAt 8 rfl; have Xc9 := X_10.cellAt 9 rfl; have Xc10 := X_10.cellAt 10 rfl; have Xc11 := X_10.cellAt 11 rfl; have Xc12 := X_10.cellAt 12 rfl; have Xc13 := X_10.cellAt 13 rfl; have Xc14 := X_10.cellAt 14 rfl; have Xc15 := X_10.cellAt 15 rfl; have Xc16 := X_10.cellAt 16 rfl; have Xc17 := X_10.cellAt 17 rfl; have Xc18 := X_10.cellAt 18 rfl; have Xc19 := X_10.cellAt 19 rfl; have Xc20 := X_10.cellAt 20 rfl; have Xc21 := X_10.cellAt 21 rfl; have Xc22 := X_10.cellAt 22 rfl; have Xc23 := X_10.cellAt 23 rfl; have Xl := X_10.lt; clear h10_)
      | (go_at_call 12; (with_reducible refine (HPh.out _).mono ?_); rintro e w11_ ⟨rfl, h11_⟩; have X_11 : Blk w11_ (w.heap.size) 76 #[.int .i64 ak, .int .i64 au, .int .i64 av, .bool az, .int .i64 bk, .int .i64 bu, .int .i64 bv, .bool bz, .int .i64 n, .int .i64 ck, .int .i64 cu, .int .i64 cv, .bool cz, .int .i64 dk, .int .i64 du, .int .i64 dv, .bool dz, .int .i64 m, .int .i64 i1, .int .i64 j1, .int .i64 i2, .int .i64 j2, .int .i64 p, .int .i64 q] := (X_10).past h11_; have U_11 : Blk w11_ (w5_.heap.size) 48 #[.int .i64 ak, .int .i64 au, .int .i64 av, .bool az, .int .i64 bk, .int .i64 bu, .int .i64 bv, .bool bz, .int .i64 n] := (U_10).past h11_; have V_11 : Blk w11_ (w7_.heap.size) 48 #[.int .i64 ck, .int .i64 cu, .int .i64 cv, .bool cz, .int .i64 dk, .int .i64 du, .int .i64 dv, .bool dz, .int .i64 m] := (V_10).past h11_; have P_11 : Blk w11_ (w8_.heap.size) 81 #[.int .i64 P1, .int .i64 Q1, .int .i64 P2, .int .i64 Q2] := (P_10).past h11_; have L_11 : Blk w11_ (w9_.heap.size) 87 #[.int .i64 P1, .int .i64 Q1, .int .i64 i1, .int .i64 j1, .int .i64 P2, .int .i64 Q2, .int .i64 i2, .int .i64 j2] := (L_10).past h11_; have S_11 := pt (S_10) h11_; clear X_10 U_10 V_10 P_10 L_10 S_10 Xc0 Xc1 Xc2 Xc3 Xc4 Xc5 Xc6 Xc7 Xc8 Xc9 Xc10 Xc11 Xc12 Xc13 Xc14 Xc15 Xc16 Xc17 Xc18 Xc19 Xc20 Xc21 Xc22 Xc23 Xl; clear h11_)
      | (go_at_call 8; (with_reducible refine (HCp.out _ _ (L_11)).mono ?_); rintro e w12_ ⟨A4, c4, rfl, hc4, h12_⟩; have X_12 : Blk w12_ (w.heap.size) 76 #[.int .i64 ak, .int .i64 au, .int .i64 av, .bool az, .int .i64 bk, .int .i64 bu, .int .i64 bv, .bool bz, .int .i64 n, .int .i64 ck, .int .i64 cu, .int .i64 cv, .bool cz, .int .i64 dk, .int .i64 du, .int .i64 dv, .bool dz, .int .i64 m, .int .i64 i1, .int .i64 j1, .int .i64 i2, .int .i64 j2, .int .i64 p, .int .i64 q] := (X_11).past h12_; have U_12 : Blk w12_ (w5_.heap.size) 48 #[.int .i64 ak, .int .i64 au, .int .i64 av, .bool az, .int .i64 bk, .int .i64 bu, .int .i64 bv, .bool bz, .int .i64 n] := (U_11).past h12_; have V_12 : Blk w12_ (w7_.heap.size) 48 #[.int .i64 ck, .int .i64 cu, .int .i64 cv, .bool cz, .int .i64 dk, .int .i64 du, .int .i64 dv, .bool dz, .int .i64 m] := (V_11).past h12_; have P_12 : Blk w12_ (w8_.heap.size) 81 #[.int .i64 P1, .int .i64 Q1, .int .i64 P2, .int .i64 Q2] := (P_11).past h12_; have L_12 : Blk w12_ (w9_.heap.size) 87 #[.int .i64 P1, .int .i64 Q1, .int .i64 i1, .int .i64 j1, .int .i64 P2, .int .i64 Q2, .int .i64 i2, .int .i64 j2] := (L_11).past h12_; have S_12 := pt (S_11) h12_; clear X_11 U_11 V_11 P_11 L_11 S_11; clear h12_; have C4_12 : CIn w12_ A4 SU := hc4; clear hc4)
      | (go_at_call 7; (with_reducible refine (HC0.out _ _ _ (C4_12)).mono ?_); rintro e w13_ ⟨rfl, h13_⟩; have X_13 : Blk w13_ (w.heap.size) 76 #[.int .i64 ak, .int .i64 au, .int .i64 av, .bool az, .int .i64 bk, .int .i64 bu, .int .i64 bv, .bool bz, .int .i64 n, .int .i64 ck, .int .i64 cu, .int .i64 cv, .bool cz, .int .i64 dk, .int .i64 du, .int .i64 dv, .bool dz, .int .i64 m, .int .i64 i1, .int .i64 j1, .int .i64 i2, .int .i64 j2, .int .i64 p, .int .i64 q] := (X_12).past h13_; have U_13 : Blk w13_ (w5_.heap.size) 48 #[.int .i64 ak, .int .i64 au, .int .i64 av, .bool az, .int .i64 bk, .int .i64 bu, .int .i64 bv, .bool bz, .int .i64 n] := (U_12).past h13_; have V_13 : Blk w13_ (w7_.heap.size) 48 #[.int .i64 ck, .int .i64 cu, .int .i64 cv, .bool cz, .int .i64 dk, .int .i64 du, .int .i64 dv, .bool dz, .int .i64 m] := (V_12).past h13_; have P_13 : Blk w13_ (w8_.heap.size) 81 #[.int .i64 P1, .int .i64 Q1, .int .i64 P2, .int .i64 Q2] := (P_12).past h13_; have L_13 : Blk w13_ (w9_.heap.size) 87 #[.int .i64 P1, .int .i64 Q1, .int .i64 i1, .int .i64 j1, .int .i64 P2, .int .i64 Q2, .int .i64 i2, .int .i64 j2] := (L_12).past h13_; have C4_13 : CIn w13_ A4 SU := (C4_12).past h13_; have S_13 := pt (S_12) h13_; clear X_12 U_12 V_12 P_12 L_12 C4_12 S_12; clear h13_))
    go_ret
    exact ⟨rfl, by repeat (first | exact S_13 | refine pa ?_)⟩
  replace HC0 := Lib.hid HC0
  replace HO1 := Lib.hid HO1
  replace HO2 := Lib.hid HO2
  replace HD1 := Lib.hid HD1
  replace HD2 := Lib.hid HD2
  replace H2 := Lib.hid H2
  as_aux_lemma =>
  go_wp2_with (first
    | (go_at_call 11; (with_reducible refine (HSr.out _ _ (Blk.newAt (by simp))).mono ?_); rintro e w10_ ⟨rfl, h10_⟩; have X_10 : Blk w10_ (w.heap.size) 76 #[.int .i64 ak, .int .i64 au, .int .i64 av, .bool az, .int .i64 bk, .int .i64 bu, .int .i64 bv, .bool bz, .int .i64 n, .int .i64 ck, .int .i64 cu, .int .i64 cv, .bool cz, .int .i64 dk, .int .i64 du, .int .i64 dv, .bool dz, .int .i64 m, .int .i64 i1, .int .i64 j1, .int .i64 i2, .int .i64 j2, .int .i64 p, .int .i64 q] := (X_9.alloc).past h10_; have U_10 : Blk w10_ (w5_.heap.size) 48 #[.int .i64 ak, .int .i64 au, .int .i64 av, .bool az, .int .i64 bk, .int .i64 bu, .int .i64 bv, .bool bz, .int .i64 n] := (U_9.alloc).past h10_; have V_10 : Blk w10_ (w7_.heap.size) 48 #[.int .i64 ck, .int .i64 cu, .int .i64 cv, .bool cz, .int .i64 dk, .int .i64 du, .int .i64 dv, .bool dz, .int .i64 m] := (V_9.alloc).past h10_; have P_10 : Blk w10_ (w8_.heap.size) 81 #[.int .i64 P1, .int .i64 Q1, .int .i64 P2, .int .i64 Q2] := (P_9.alloc).past h10_; have L_10 : Blk w10_ (w9_.heap.size) 87 #[.int .i64 P1, .int .i64 Q1, .int .i64 i1, .int .i64 j1, .int .i64 P2, .int .i64 Q2, .int .i64 i2, .int .i64 j2] := (Blk.newAt (by simp)).past h10_; have S_10 := pt (pa (S_9)) h10_; clear X_9 U_9 V_9 P_9 S_9 Pc0 Pc1 Pc2 Pc3 Pl Xc0 Xc1 Xc2 Xc3 Xc4 Xc5 Xc6 Xc7 Xc8 Xc9 Xc10 Xc11 Xc12 Xc13 Xc14 Xc15 Xc16 Xc17 Xc18 Xc19 Xc20 Xc21 Xc22 Xc23 Xl; have Xc0 := X_10.cellAt 0 rfl; have Xc1 := X_10.cellAt 1 rfl; have Xc2 := X_10.cellAt 2 rfl; have Xc3 := X_10.cellAt 3 rfl; have Xc4 := X_10.cellAt 4 rfl; have Xc5 := X_10.cellAt 5 rfl; have Xc6 := X_10.cellAt 6 rfl; have Xc7 := X_10.cellAt 7 rfl; have Xc8 := X_10.cellAt 8 rfl; have Xc9 := X_10.cellAt 9 rfl; have Xc10 := X_10.cellAt 10 rfl; have Xc11 := X_10.cellAt 11 rfl; have Xc12 := X_10.cellAt 12 rfl; have Xc13 := X_10.cellAt 13 rfl; have Xc14 := X_10.cellAt 14 rfl; have Xc15 := X_10.cellAt 15 rfl; have Xc16 := X_10.cellAt 16 rfl; have Xc17 := X_10.cellAt 17 rfl; have Xc18 := X_10.cellAt 18 rfl; have Xc19 := X_10.cellAt 19 rfl; have Xc20 := X_10.cellAt 20 rfl; have Xc21 := X_10.cellAt 21 rfl; have Xc22 := X_10.cellAt 22 rfl; have Xc23 := X_10.cellAt 23 rfl; have Xl := X_10.lt; clear h10_)
    | (go_at_call 12; (with_reducible refine (HPh.out _).mono ?_); rintro e w11_ ⟨rfl, h11_⟩; have X_11 : Blk w11_ (w.heap.size) 76 #[.int .i64 ak, .int .i64 au, .int .i64 av, .bool az, .int .i64 bk, .int .i64 bu, .int .i64 bv, .bool bz, .int .i64 n, .int .i64 ck, .int .i64 cu, .int .i64 cv, .bool cz, .int .i64 dk, .int .i64 du, .int .i64 dv, .bool dz, .int .i64 m, .int .i64 i1, .int .i64 j1, .int .i64 i2, .int .i64 j2, .int .i64 p, .int .i64 q] := (X_10).past h11_; have U_11 : Blk w11_ (w5_.heap.size) 48 #[.int .i64 ak, .int .i64 au, .int .i64 av, .bool az, .int .i64 bk, .int .i64 bu, .int .i64 bv, .bool bz, .int .i64 n] := (U_10).past h11_; have V_11 : Blk w11_ (w7_.heap.size) 48 #[.int .i64 ck, .int .i64 cu, .int .i64 cv, .bool cz, .int .i64 dk, .int .i64 du, .int .i64 dv, .bool dz, .int .i64 m] := (V_10).past h11_; have P_11 : Blk w11_ (w8_.heap.size) 81 #[.int .i64 P1, .int .i64 Q1, .int .i64 P2, .int .i64 Q2] := (P_10).past h11_; have L_11 : Blk w11_ (w9_.heap.size) 87 #[.int .i64 P1, .int .i64 Q1, .int .i64 i1, .int .i64 j1, .int .i64 P2, .int .i64 Q2, .int .i64 i2, .int .i64 j2] := (L_10).past h11_; have S_11 := pt (S_10) h11_; clear X_10 U_10 V_10 P_10 L_10 S_10 Xc0 Xc1 Xc2 Xc3 Xc4 Xc5 Xc6 Xc7 Xc8 Xc9 Xc10 Xc11 Xc12 Xc13 Xc14 Xc15 Xc16 Xc17 Xc18 Xc19 Xc20 Xc21 Xc22 Xc23 Xl; clear h11_)
    | (go_at_call 8; (with_reducible refine (HCp.out _ _ (L_11)).mono ?_); rintro e w12_ ⟨A4, c4, rfl, hc4, h12_⟩; have X_12 : Blk w12_ (w.heap.size) 76 #[.int .i64 ak, .int .i64 au, .int .i64 av, .bool az, .int .i64 bk, .int .i64 bu, .int .i64 bv, .bool bz, .int .i64 n, .int .i64 ck, .int .i64 cu, .int .i64 cv, .bool cz, .int .i64 dk, .int .i64 du, .int .i64 dv, .bool dz, .int .i64 m, .int .i64 i1, .int .i64 j1, .int .i64 i2, .int .i64 j2, .int .i64 p, .int .i64 q] := (X_11).past h12_; have U_12 : Blk w12_ (w5_.heap.size) 48 #[.int .i64 ak, .int .i64 au, .int .i64 av, .bool az, .int .i64 bk, .int .i64 bu, .int .i64 bv, .bool bz, .int .i64 n] := (U_11).past h12_; have V_12 : Blk w12_ (w7_.heap.size) 48 #[.int .i64 ck, .int .i64 cu, .int .i64 cv, .bool cz, .int .i64 dk, .int .i64 du, .int .i64 dv, .bool dz, .int .i64 m] := (V_11).past h12_; have P_12 : Blk w12_ (w8_.heap.size) 81 #[.int .i64 P1, .int .i64 Q1, .int .i64 P2, .int .i64 Q2] := (P_11).past h12_; have L_12 : Blk w12_ (w9_.heap.size) 87 #[.int .i64 P1, .int .i64 Q1, .int .i64 i1, .int .i64 j1, .int .i64 P2, .int .i64 Q2, .int .i64 i2, .int .i64 j2] := (L_11).past h12_; have S_12 := pt (S_11) h12_; clear X_11 U_11 V_11 P_11 L_11 S_11; clear h12_; have C4_12 : CIn w12_ A4 SU := hc4; clear hc4)
    | (go_at_call 7; (with_reducible refine (HC0.out _ _ _ (C4_12)).mono ?_); rintro e w13_ ⟨g5, o5, c5, rfl, hc5, h13_⟩; have X_13 : Blk w13_ (w.heap.size) 76 #[.int .i64 ak, .int .i64 au, .int .i64 av, .bool az, .int .i64 bk, .int .i64 bu, .int .i64 bv, .bool bz, .int .i64 n, .int .i64 ck, .int .i64 cu, .int .i64 cv, .bool cz, .int .i64 dk, .int .i64 du, .int .i64 dv, .bool dz, .int .i64 m, .int .i64 i1, .int .i64 j1, .int .i64 i2, .int .i64 j2, .int .i64 p, .int .i64 q] := (X_12).past h13_; have U_13 : Blk w13_ (w5_.heap.size) 48 #[.int .i64 ak, .int .i64 au, .int .i64 av, .bool az, .int .i64 bk, .int .i64 bu, .int .i64 bv, .bool bz, .int .i64 n] := (U_12).past h13_; have V_13 : Blk w13_ (w7_.heap.size) 48 #[.int .i64 ck, .int .i64 cu, .int .i64 cv, .bool cz, .int .i64 dk, .int .i64 du, .int .i64 dv, .bool dz, .int .i64 m] := (V_12).past h13_; have P_13 : Blk w13_ (w8_.heap.size) 81 #[.int .i64 P1, .int .i64 Q1, .int .i64 P2, .int .i64 Q2] := (P_12).past h13_; have L_13 : Blk w13_ (w9_.heap.size) 87 #[.int .i64 P1, .int .i64 Q1, .int .i64 i1, .int .i64 j1, .int .i64 P2, .int .i64 Q2, .int .i64 i2, .int .i64 j2] := (L_12).past h13_; have C4_13 : CIn w13_ A4 SU := (C4_12).past h13_; have S_13 := pt (S_12) h13_; clear X_12 U_12 V_12 P_12 L_12 C4_12 S_12; clear h13_; have D5_13 : C8 w13_ g5 o5 [.int .i64 u1, .int .i64 u2, .int .i64 u3, .int .i64 u4, .int .i64 u5, .int .i64 u6, .int .i64 u7, .int .i64 u8] := hc5; clear hc5)
    | (go_at_call 33; (with_reducible refine (wholeM_any 0 _).mono ?_); rintro e w14_ ⟨rfl, h14_⟩; have X_14 : Blk w14_ (w.heap.size) 76 #[.int .i64 ak, .int .i64 au, .int .i64 av, .bool az, .int .i64 bk, .int .i64 bu, .int .i64 bv, .bool bz, .int .i64 n, .int .i64 ck, .int .i64 cu, .int .i64 cv, .bool cz, .int .i64 dk, .int .i64 du, .int .i64 dv, .bool dz, .int .i64 m, .int .i64 i1, .int .i64 j1, .int .i64 i2, .int .i64 j2, .int .i64 p, .int .i64 q] := (X_13).past h14_; have U_14 : Blk w14_ (w5_.heap.size) 48 #[.int .i64 ak, .int .i64 au, .int .i64 av, .bool az, .int .i64 bk, .int .i64 bu, .int .i64 bv, .bool bz, .int .i64 n] := (U_13).past h14_; have V_14 : Blk w14_ (w7_.heap.size) 48 #[.int .i64 ck, .int .i64 cu, .int .i64 cv, .bool cz, .int .i64 dk, .int .i64 du, .int .i64 dv, .bool dz, .int .i64 m] := (V_13).past h14_; have P_14 : Blk w14_ (w8_.heap.size) 81 #[.int .i64 P1, .int .i64 Q1, .int .i64 P2, .int .i64 Q2] := (P_13).past h14_; have L_14 : Blk w14_ (w9_.heap.size) 87 #[.int .i64 P1, .int .i64 Q1, .int .i64 i1, .int .i64 j1, .int .i64 P2, .int .i64 Q2, .int .i64 i2, .int .i64 j2] := (L_13).past h14_; have C4_14 : CIn w14_ A4 SU := (C4_13).past h14_; have D5_14 : C8 w14_ g5 o5 [.int .i64 u1, .int .i64 u2, .int .i64 u3, .int .i64 u4, .int .i64 u5, .int .i64 u6, .int .i64 u7, .int .i64 u8] := (D5_13).past h14_; have S_14 := pt (S_13) h14_; clear X_13 U_13 V_13 P_13 L_13 C4_13 D5_13 S_13; clear h14_))
  have ZX := Lib.hid (show Blk (w14_.alloc (.cells #[.int .i64 0, .int .i64 1] 59)) (w.heap.size) 76 #[.int .i64 ak, .int .i64 au, .int .i64 av, .bool az, .int .i64 bk, .int .i64 bu, .int .i64 bv, .bool bz, .int .i64 n, .int .i64 ck, .int .i64 cu, .int .i64 cv, .bool cz, .int .i64 dk, .int .i64 du, .int .i64 dv, .bool dz, .int .i64 m, .int .i64 i1, .int .i64 j1, .int .i64 i2, .int .i64 j2, .int .i64 p, .int .i64 q] from (X_14).alloc)
  have ZP := Lib.hid (show Blk (w14_.alloc (.cells #[.int .i64 0, .int .i64 1] 59)) (w8_.heap.size) 81 #[.int .i64 P1, .int .i64 Q1, .int .i64 P2, .int .i64 Q2] from (P_14).alloc)
  have ZL := Lib.hid (show Blk (w14_.alloc (.cells #[.int .i64 0, .int .i64 1] 59)) (w9_.heap.size) 87 #[.int .i64 P1, .int .i64 Q1, .int .i64 i1, .int .i64 j1, .int .i64 P2, .int .i64 Q2, .int .i64 i2, .int .i64 j2] from (L_14).alloc)
  have ZN := Lib.hid (show Blk (w14_.alloc (.cells #[.int .i64 0, .int .i64 1] 59)) w14_.heap.size 59 #[.int .i64 0, .int .i64 1] from Blk.new _ _ _)
  have ZD := Lib.hid (show C8 (w14_.alloc (.cells #[.int .i64 0, .int .i64 1] 59)) g5 o5 [.int .i64 u1, .int .i64 u2, .int .i64 u3, .int .i64 u4, .int .i64 u5, .int .i64 u6, .int .i64 u7, .int .i64 u8] from (D5_14).alloc)
  have ZS := Lib.hid (show Below w.heap.size w (w14_.alloc (.cells #[.int .i64 0, .int .i64 1] 59)) from pa (S_14))
  clear X_14 P_14 L_14 U_14 V_14 D5_14 C4_14 S_14
  clear HE1 HE2 HF1 HF2 HA1 HA2 HVo HMr HSr HPh HC0 HT HP HS
  generalize (w14_.alloc (.cells #[.int .i64 0, .int .i64 1] 59)) = u at *
  generalize w14_.heap.size = nN at *
  as_aux_lemma =>
  go_quiet (fail)
  have hb1 : Below u.heap.size u (u.drewN nq) := below_drewN' (Below.refl _ _) nq
  replace ZX := Lib.hid (ZX.out.past hb1)
  replace ZP := Lib.hid (ZP.out.past hb1)
  replace ZL := Lib.hid (ZL.out.past hb1)
  replace ZN := Lib.hid (ZN.out.past hb1)
  replace ZD := Lib.hid (ZD.out.past hb1)
  replace ZS := Lib.hid (pt ZS.out hb1)
  clear hb1
  generalize u.drewN nq = u2 at *
  as_aux_lemma =>
  go_wp2
  have k0 := ZD.out.at0 rfl
  have k1 := ZD.out.at_ 1 rfl
  have k2 := ZD.out.at_ 2 rfl
  have k3 := ZD.out.at_ 3 rfl
  have k4 := ZD.out.at_ 4 rfl
  have k5 := ZD.out.at_ 5 rfl
  have k6 := ZD.out.at_ 6 rfl
  have k7 := ZD.out.at_ 7 rfl
  have kl := ZD.out.1
  have p0 := ZP.out.cellAt 0 rfl
  have p1 := ZP.out.cellAt 1 rfl
  have p2 := ZP.out.cellAt 2 rfl
  have p3 := ZP.out.cellAt 3 rfl
  have pl := ZP.out.lt
  refine region_below 53 follows_mixed (by kernel_rfl) ?_
  intro C hC
  simp only [List.take_succ_cons, List.take_zero, List.drop_succ_cons, List.drop_zero]
  repeat (first
    | ((with_reducible refine quiet_plain rfl (fun K hK => ?_)); (focus (apply quiet_val; (focus (intro w' hw; obtain ⟨hcq, hfq⟩ := bcell ((hC.out _).1 hw); go_simp; (first | done | rfl | (with_reducible exact call_below hC hw (HO1.out _)) | (with_reducible exact call_below hC hw (HO2.out _)) | (with_reducible exact call_below hC hw (HD1.out _ _ (ZL.out.past ((hC.out _).1 hw)))) | (with_reducible exact call_below hC hw (HD2.out _ _ (ZL.out.past ((hC.out _).1 hw))))))); (simp only [Act.put, List.setIfInBounds_toArray, List.set_cons_succ, List.set_cons_zero]); (with_reducible refine hK _ ?_); clear hK K)))
    | ((with_reducible refine quiet_skip ?_ ?_); (focus (first | (simp [Region.wanted, yielded]; done) | (simp [Region.wanted, yielded, undef]; done))); simp only [Act.put, List.setIfInBounds_toArray, List.set_cons_succ, List.set_cons_zero])
    | ((with_reducible refine quiet_go ?_ (fun K hK => ?_)); (focus (first | (simp [Region.wanted, yielded]; done) | (simp [Region.wanted, yielded, undef]; done))); (focus (apply quiet_val; (focus (intro w' hw; obtain ⟨hcq, hfq⟩ := bcell ((hC.out _).1 hw); go_simp; (first | done | rfl | (with_reducible exact call_below hC hw (HO1.out _)) | (with_reducible exact call_below hC hw (HO2.out _)) | (with_reducible exact call_below hC hw (HD1.out _ _ (ZL.out.past ((hC.out _).1 hw)))) | (with_reducible exact call_below hC hw (HD2.out _ _ (ZL.out.past ((hC.out _).1 hw))))))); (simp only [Act.put, List.setIfInBounds_toArray, List.set_cons_succ, List.set_cons_zero]); (with_reducible refine hK _ ?_); clear hK K))))
  refine wpQuiet_nil ?_
  intro w1 hb1
  replace hb1 := (hC.out _).1 hb1
  clear hC C
  obtain ⟨hc1, hf1⟩ := bcell hb1
  clear k0 k1 k2 k3 k4 k5 k6 k7 kl p0 p1 p2 p3 pl
  replace ZX := Lib.hid (ZX.out.past hb1)
  replace ZL := Lib.hid (ZL.out.past hb1)
  replace ZN := Lib.hid (ZN.out.past hb1)
  replace ZS := Lib.hid (pt ZS.out hb1)
  clear hb1 hc1 hf1 ZP ZD HO1 HO2 HD1 HD2 d1 d2 d3 d4 d5 d6
  obtain ⟨u3, rfl⟩ : ∃ v, v = w1 := ⟨_, rfl⟩
  as_aux_lemma =>
  go_wp2
  rcases H2.out with HC1 | ⟨e1, e2, e3, e4, e5, e6, e7, e8, HC1, HCc, HCk⟩
  · as_aux_lemma =>
    clear H2
    replace HC1 := Lib.hid HC1
    have HSS := Lib.hid (show ∀ W, Below u3.heap.size u3 W → W.cell? ⟨w.heap.size, 22, none⟩ = some (.int .i64 p) ∧ W.cell? ⟨w.heap.size, 23, none⟩ = some (.int .i64 q) from fun W hW => ⟨(ZX.out.past hW).cellAt 22 rfl, (ZX.out.past hW).cellAt 23 rfl⟩)
    refine wp_region_G 9 follows_mixed (fun W => W.cell? ⟨w.heap.size, 22, none⟩ = some (.int .i64 p) ∧ W.cell? ⟨w.heap.size, 23, none⟩ = some (.int .i64 q)) (HSS.out _ (pd pr)) ?_
    intro hSd inv
    have HSd := Lib.hid hSd
    clear hSd
    have HB0 := Lib.hid (show Below u3.heap.size u3 u3.drew from pd pr)
    refine wpAnyG_take (i := 0) (v := ?_) rfl (by kernel_rfl) (by kernel_rfl) (by kernel_rfl) (by kernel_rfl) (by kernel_rfl) (by decide) (by decide) inv (fun _ _ _ h => h) (Or.inl ⟨by rfl, ?_⟩) HSd.out ?_; rotate_left; (focus (intro W y1; obtain ⟨y1, y2⟩ := y1; go_simp; (first | done | with_reducible rfl))); clear inv; intro inv; simp only [List.getElem_toArray, List.getElem_cons_zero, Act.put, List.setIfInBounds_toArray, List.set_cons_zero, List.set_cons_succ]
    refine wpAnyG_take (i := 2) (v := ?_) rfl (by kernel_rfl) (by kernel_rfl) (by kernel_rfl) (by kernel_rfl) (by kernel_rfl) (by decide) (by decide) inv (fun _ _ _ h => h) (Or.inl ⟨by rfl, ?_⟩) HSd.out ?_; rotate_left; (focus (intro W y1; obtain ⟨y1, y2⟩ := y1; go_simp; (first | done | with_reducible rfl))); clear inv; intro inv; simp only [List.getElem_toArray, List.getElem_cons_zero, List.getElem_cons_succ, Act.put, List.setIfInBounds_toArray, List.set_cons_zero, List.set_cons_succ]
    refine wpAnyG_take (i := 3) (v := ?_) rfl (by kernel_rfl) (by kernel_rfl) (by kernel_rfl) (by kernel_rfl) (by kernel_rfl) (by decide) (by decide) inv (fun _ _ _ h => h) (Or.inl ⟨by rfl, ?_⟩) HSd.out ?_; rotate_left; (focus (intro W y1; obtain ⟨y1, y2⟩ := y1; go_simp; (first | done | with_reducible rfl))); clear inv; intro inv; simp only [List.getElem_toArray, List.getElem_cons_zero, List.getElem_cons_succ, Act.put, List.setIfInBounds_toArray, List.set_cons_zero, List.set_cons_succ]
    have HInv := Lib.hid inv
    clear inv
    refine wpAnyG_one (i := 1) (by kernel_rfl) rfl rfl fun K hK => ?_
    go_simp
    refine (HCp.out _ _ (ZL.out.past HB0.out)).mono ?_
    rintro e wq6_ ⟨A6, c6, rfl, h6, hb⟩
    have HBx1 := Lib.hid (show Below u3.heap.size u3 wq6_ from pt HB0.out hb)
    have H6 := Lib.hid h6
    clear h6
    refine hK.out _ _ (fun _ => HSS.out _ HBx1.out) ?_
    clear hK K hb
    replace HInv := Lib.hid (inv_one (i := 1) HInv.out (by kernel_rfl) (by decide))
    refine wpAnyG_one (i := 4) (by kernel_rfl) rfl rfl fun K hK => ?_
    go_simp
    refine (HC1.out _ A6 c6 H6.out).mono ?_
    rintro e wq7_ ⟨rfl, hb⟩
    have HBx4 := Lib.hid (show Below u3.heap.size u3 wq7_ from pt HBx1.out hb)
    refine hK.out _ _ (fun _ => HSS.out _ HBx4.out) ?_
    clear hK K hb
    replace HInv := Lib.hid (inv_one (i := 4) HInv.out (by kernel_rfl) (by decide))
    refine wpAnyG_one (i := 5) (by kernel_rfl) rfl rfl fun K hK => ?_
    go_simp
    refine hK.out _ _ (fun _ => HSS.out _ HBx4.out) ?_
    clear hK K
    replace HInv := Lib.hid (inv_one (i := 5) HInv.out (by kernel_rfl) (by decide))
    have inv := HInv.out
    clear HInv
    replace HSd := Lib.hid (HSS.out _ HBx4.out)
    refine wpAnyG_take (i := 6) (v := ?_) rfl (by kernel_rfl) (by kernel_rfl) (by kernel_rfl) (by kernel_rfl) (by kernel_rfl) (by decide) (by decide) inv (fun _ _ _ h => h) (Or.inl ⟨by rfl, ?_⟩) HSd.out ?_; rotate_left; (focus (intro W y1; obtain ⟨y1, y2⟩ := y1; go_simp; (first | done | with_reducible rfl))); clear inv; intro inv; simp only [List.getElem_toArray, List.getElem_cons_zero, List.getElem_cons_succ, Act.put, List.setIfInBounds_toArray, List.set_cons_zero, List.set_cons_succ]
    refine wpAnyG_take (i := 7) (v := ?_) rfl (by kernel_rfl) (by kernel_rfl) (by kernel_rfl) (by kernel_rfl) (by kernel_rfl) (by decide) (by decide) inv (fun _ _ _ h => h) (Or.inl ⟨by rfl, ?_⟩) HSd.out ?_; rotate_left; (focus (intro W y1; obtain ⟨y1, y2⟩ := y1; go_simp; (first | done | with_reducible rfl))); clear inv; intro inv; simp only [List.getElem_toArray, List.getElem_cons_zero, List.getElem_cons_succ, Act.put, List.setIfInBounds_toArray, List.set_cons_zero, List.set_cons_succ]
    have HInv := Lib.hid inv
    clear inv
    refine wpAnyG_one (i := 8) (by kernel_rfl) rfl rfl fun K hK => ?_
    go_simp
    refine hK.out _ _ (fun _ => HSS.out _ HBx4.out) ?_
    clear hK K
    replace HInv := Lib.hid (inv_one (i := 8) HInv.out (by kernel_rfl) (by decide))
    refine wpAnyG_one (i := 9) (by kernel_rfl) rfl rfl fun K hK => ?_
    go_simp
    refine hK.out _ _ (fun h => absurd h (by decide)) ?_
    clear hK K
    refine wpAnyG_done (by kernel_rfl) ?_
    clear HInv
    clear HSS HSd HB0
    replace ZX := Lib.hid (ZX.out.past HBx4.out)
    replace ZL := Lib.hid (ZL.out.past HBx4.out)
    replace ZN := Lib.hid (ZN.out.past HBx4.out)
    replace ZS := Lib.hid (pt ZS.out HBx4.out)
    clear H6 HC1 HBx1 HBx4
    as_aux_lemma =>
    go_wp2
    go_ret
    exact ⟨rfl, ZS.out⟩
  · as_aux_lemma =>
    clear H2
    replace HC1 := Lib.hid HC1
    replace HCc := Lib.hid HCc
    replace HCk := Lib.hid HCk
    have HSS := Lib.hid (show ∀ W, Below u3.heap.size u3 W → W.cell? ⟨w.heap.size, 22, none⟩ = some (.int .i64 p) ∧ W.cell? ⟨w.heap.size, 23, none⟩ = some (.int .i64 q) from fun W hW => ⟨(ZX.out.past hW).cellAt 22 rfl, (ZX.out.past hW).cellAt 23 rfl⟩)
    refine wp_region_G 9 follows_mixed (fun W => W.cell? ⟨w.heap.size, 22, none⟩ = some (.int .i64 p) ∧ W.cell? ⟨w.heap.size, 23, none⟩ = some (.int .i64 q)) (HSS.out _ (pd pr)) ?_
    intro hSd inv
    have HSd := Lib.hid hSd
    clear hSd
    have HB0 := Lib.hid (show Below u3.heap.size u3 u3.drew from pd pr)
    refine wpAnyG_take (i := 0) (v := ?_) rfl (by kernel_rfl) (by kernel_rfl) (by kernel_rfl) (by kernel_rfl) (by kernel_rfl) (by decide) (by decide) inv (fun _ _ _ h => h) (Or.inl ⟨by rfl, ?_⟩) HSd.out ?_; rotate_left; (focus (intro W y1; obtain ⟨y1, y2⟩ := y1; go_simp; (first | done | with_reducible rfl))); clear inv; intro inv; simp only [List.getElem_toArray, List.getElem_cons_zero, Act.put, List.setIfInBounds_toArray, List.set_cons_zero, List.set_cons_succ]
    refine wpAnyG_take (i := 2) (v := ?_) rfl (by kernel_rfl) (by kernel_rfl) (by kernel_rfl) (by kernel_rfl) (by kernel_rfl) (by decide) (by decide) inv (fun _ _ _ h => h) (Or.inl ⟨by rfl, ?_⟩) HSd.out ?_; rotate_left; (focus (intro W y1; obtain ⟨y1, y2⟩ := y1; go_simp; (first | done | with_reducible rfl))); clear inv; intro inv; simp only [List.getElem_toArray, List.getElem_cons_zero, List.getElem_cons_succ, Act.put, List.setIfInBounds_toArray, List.set_cons_zero, List.set_cons_succ]
    refine wpAnyG_take (i := 3) (v := ?_) rfl (by kernel_rfl) (by kernel_rfl) (by kernel_rfl) (by kernel_rfl) (by kernel_rfl) (by decide) (by decide) inv (fun _ _ _ h => h) (Or.inl ⟨by rfl, ?_⟩) HSd.out ?_; rotate_left; (focus (intro W y1; obtain ⟨y1, y2⟩ := y1; go_simp; (first | done | with_reducible rfl))); clear inv; intro inv; simp only [List.getElem_toArray, List.getElem_cons_zero, List.getElem_cons_succ, Act.put, List.setIfInBounds_toArray, List.set_cons_zero, List.set_cons_succ]
    have HInv := Lib.hid inv
    clear inv
    refine wpAnyG_one (i := 1) (by kernel_rfl) rfl rfl fun K hK => ?_
    go_simp
    refine (HCp.out _ _ (ZL.out.past HB0.out)).mono ?_
    rintro e wq6_ ⟨A6, c6, rfl, h6, hb⟩
    have HBx1 := Lib.hid (show Below u3.heap.size u3 wq6_ from pt HB0.out hb)
    have H6 := Lib.hid h6
    clear h6
    refine hK.out _ _ (fun _ => HSS.out _ HBx1.out) ?_
    clear hK K hb
    replace HInv := Lib.hid (inv_one (i := 1) HInv.out (by kernel_rfl) (by decide))
    refine wpAnyG_one (i := 4) (by kernel_rfl) rfl rfl fun K hK => ?_
    go_simp
    refine (HC1.out _ A6 c6 H6.out).mono ?_
    rintro e wq7_ ⟨g7, o7, c7, rfl, h7, hb⟩
    have HBx4 := Lib.hid (show Below u3.heap.size u3 wq7_ from pt HBx1.out hb)
    have ZE := Lib.hid h7
    clear h7
    refine hK.out _ _ (fun _ => HSS.out _ HBx4.out) ?_
    clear hK K hb
    replace HInv := Lib.hid (inv_one (i := 4) HInv.out (by kernel_rfl) (by decide))
    refine wpAnyG_one (i := 5) (by kernel_rfl) rfl rfl fun K hK => ?_
    go_simp
    refine hK.out _ _ (fun _ => HSS.out _ HBx4.out) ?_
    clear hK K
    replace HInv := Lib.hid (inv_one (i := 5) HInv.out (by kernel_rfl) (by decide))
    have inv := HInv.out
    clear HInv
    replace HSd := Lib.hid (HSS.out _ HBx4.out)
    refine wpAnyG_take (i := 6) (v := ?_) rfl (by kernel_rfl) (by kernel_rfl) (by kernel_rfl) (by kernel_rfl) (by kernel_rfl) (by decide) (by decide) inv (fun _ _ _ h => h) (Or.inl ⟨by rfl, ?_⟩) HSd.out ?_; rotate_left; (focus (intro W y1; obtain ⟨y1, y2⟩ := y1; go_simp; (first | done | with_reducible rfl))); clear inv; intro inv; simp only [List.getElem_toArray, List.getElem_cons_zero, List.getElem_cons_succ, Act.put, List.setIfInBounds_toArray, List.set_cons_zero, List.set_cons_succ]
    refine wpAnyG_take (i := 7) (v := ?_) rfl (by kernel_rfl) (by kernel_rfl) (by kernel_rfl) (by kernel_rfl) (by kernel_rfl) (by decide) (by decide) inv (fun _ _ _ h => h) (Or.inl ⟨by rfl, ?_⟩) HSd.out ?_; rotate_left; (focus (intro W y1; obtain ⟨y1, y2⟩ := y1; go_simp; (first | done | with_reducible rfl))); clear inv; intro inv; simp only [List.getElem_toArray, List.getElem_cons_zero, List.getElem_cons_succ, Act.put, List.setIfInBounds_toArray, List.set_cons_zero, List.set_cons_succ]
    have HInv := Lib.hid inv
    clear inv
    refine wpAnyG_one (i := 8) (by kernel_rfl) rfl rfl fun K hK => ?_
    go_simp
    refine hK.out _ _ (fun _ => HSS.out _ HBx4.out) ?_
    clear hK K
    replace HInv := Lib.hid (inv_one (i := 8) HInv.out (by kernel_rfl) (by decide))
    refine wpAnyG_one (i := 9) (by kernel_rfl) rfl rfl fun K hK => ?_
    go_simp
    refine hK.out _ _ (fun h => absurd h (by decide)) ?_
    clear hK K
    refine wpAnyG_done (by kernel_rfl) ?_
    clear HInv
    clear HSS HSd HB0
    replace ZX := Lib.hid (ZX.out.past HBx4.out)
    replace ZL := Lib.hid (ZL.out.past HBx4.out)
    replace ZN := Lib.hid (ZN.out.past HBx4.out)
    replace ZS := Lib.hid (pt ZS.out HBx4.out)
    clear H6 HC1 HBx1 HBx4
    as_aux_lemma =>
    go_wp2
    obtain ⟨u4, rfl⟩ : ∃ v, v = wq7_ := ⟨_, rfl⟩
    have HSS := Lib.hid (show ∀ W, Below u4.heap.size u4 W → W.cell? ⟨w.heap.size, 22, none⟩ = some (.int .i64 p) ∧ W.cell? ⟨w.heap.size, 23, none⟩ = some (.int .i64 q) from fun W hW => ⟨(ZX.out.past hW).cellAt 22 rfl, (ZX.out.past hW).cellAt 23 rfl⟩)
    refine wp_region_G 11 follows_mixed (fun W => W.cell? ⟨w.heap.size, 22, none⟩ = some (.int .i64 p) ∧ W.cell? ⟨w.heap.size, 23, none⟩ = some (.int .i64 q)) (HSS.out _ (pd pr)) ?_
    intro hSd inv
    have HSd := Lib.hid hSd
    clear hSd
    have HB0 := Lib.hid (show Below u4.heap.size u4 u4.drew from pd pr)
    refine wpAnyG_take (i := 0) (v := ?_) rfl (by kernel_rfl) (by kernel_rfl) (by kernel_rfl) (by kernel_rfl) (by kernel_rfl) (by decide) (by decide) inv (fun _ _ _ h => h) (Or.inl ⟨by rfl, ?_⟩) HSd.out ?_; rotate_left; (focus (intro W y1; obtain ⟨y1, y2⟩ := y1; go_simp; (first | done | with_reducible rfl))); clear inv; intro inv; simp only [List.getElem_toArray, List.getElem_cons_zero, Act.put, List.setIfInBounds_toArray, List.set_cons_zero, List.set_cons_succ]
    refine wpAnyG_take (i := 2) (v := ?_) rfl (by kernel_rfl) (by kernel_rfl) (by kernel_rfl) (by kernel_rfl) (by kernel_rfl) (by decide) (by decide) inv (fun _ _ _ h => h) (Or.inl ⟨by rfl, ?_⟩) HSd.out ?_; rotate_left; (focus (intro W y1; obtain ⟨y1, y2⟩ := y1; go_simp; (first | done | with_reducible rfl))); clear inv; intro inv; simp only [List.getElem_toArray, List.getElem_cons_zero, List.getElem_cons_succ, Act.put, List.setIfInBounds_toArray, List.set_cons_zero, List.set_cons_succ]
    refine wpAnyG_take (i := 3) (v := ?_) rfl (by kernel_rfl) (by kernel_rfl) (by kernel_rfl) (by kernel_rfl) (by kernel_rfl) (by decide) (by decide) inv (fun _ _ _ h => h) (Or.inl ⟨by rfl, ?_⟩) HSd.out ?_; rotate_left; (focus (intro W y1; obtain ⟨y1, y2⟩ := y1; go_simp; (first | done | with_reducible rfl))); clear inv; intro inv; simp only [List.getElem_toArray, List.getElem_cons_zero, List.getElem_cons_succ, Act.put, List.setIfInBounds_toArray, List.set_cons_zero, List.set_cons_succ]
    refine wpAnyG_take (i := 4) (v := ?_) rfl (by kernel_rfl) (by kernel_rfl) (by kernel_rfl) (by kernel_rfl) (by kernel_rfl) (by decide) (by decide) inv (fun _ _ _ h => h) (Or.inl ⟨by rfl, ?_⟩) HSd.out ?_; rotate_left; (focus (intro W y1; obtain ⟨y1, y2⟩ := y1; go_simp; (first | done | with_reducible rfl))); clear inv; intro inv; simp only [List.getElem_toArray, List.getElem_cons_zero, List.getElem_cons_succ, Act.put, List.setIfInBounds_toArray, List.set_cons_zero, List.set_cons_succ]
    have HInv := Lib.hid inv
    clear inv
    refine wpAnyG_one (i := 1) (by kernel_rfl) rfl rfl fun K hK => ?_
    go_simp
    refine (HCp.out _ _ (ZL.out.past HB0.out)).mono ?_
    rintro e wq8_ ⟨A8, c8, rfl, h8, hb⟩
    have HBx1 := Lib.hid (show Below u4.heap.size u4 wq8_ from pt HB0.out hb)
    have H8 := Lib.hid h8
    clear h8
    refine hK.out _ _ (fun _ => HSS.out _ HBx1.out) ?_
    clear hK K hb
    replace HInv := Lib.hid (inv_one (i := 1) HInv.out (by kernel_rfl) (by decide))
    refine wpAnyG_one (i := 5) (by kernel_rfl) rfl rfl fun K hK => ?_
    go_simp
    refine (HCc.out _ g7 o7 c7 (ZE.out.past HBx1.out)).mono ?_
    rintro e wq9_ ⟨A9, c9, rfl, h9, hb⟩
    have HBx5 := Lib.hid (show Below u4.heap.size u4 wq9_ from pt HBx1.out hb)
    have H9 := Lib.hid h9
    replace H8 := Lib.hid (H8.out.past hb)
    clear h9
    refine hK.out _ _ (fun _ => HSS.out _ HBx5.out) ?_
    clear hK K hb
    replace HInv := Lib.hid (inv_one (i := 5) HInv.out (by kernel_rfl) (by decide))
    refine wpAnyG_one (i := 6) (by kernel_rfl) rfl rfl fun K hK => ?_
    go_simp
    refine (HCk.out _ A8 A9 c8 c9 H8.out H9.out).mono ?_
    rintro e wqa_ ⟨rfl, hb⟩
    have HBx6 := Lib.hid (show Below u4.heap.size u4 wqa_ from pt HBx5.out hb)
    refine hK.out _ _ (fun _ => HSS.out _ HBx6.out) ?_
    clear hK K hb
    replace HInv := Lib.hid (inv_one (i := 6) HInv.out (by kernel_rfl) (by decide))
    refine wpAnyG_one (i := 7) (by kernel_rfl) rfl rfl fun K hK => ?_
    go_simp
    refine hK.out _ _ (fun _ => HSS.out _ HBx6.out) ?_
    clear hK K
    replace HInv := Lib.hid (inv_one (i := 7) HInv.out (by kernel_rfl) (by decide))
    have inv := HInv.out
    clear HInv
    replace HSd := Lib.hid (HSS.out _ HBx6.out)
    refine wpAnyG_take (i := 8) (v := ?_) rfl (by kernel_rfl) (by kernel_rfl) (by kernel_rfl) (by kernel_rfl) (by kernel_rfl) (by decide) (by decide) inv (fun _ _ _ h => h) (Or.inl ⟨by rfl, ?_⟩) HSd.out ?_; rotate_left; (focus (intro W y1; obtain ⟨y1, y2⟩ := y1; go_simp; (first | done | with_reducible rfl))); clear inv; intro inv; simp only [List.getElem_toArray, List.getElem_cons_zero, List.getElem_cons_succ, Act.put, List.setIfInBounds_toArray, List.set_cons_zero, List.set_cons_succ]
    refine wpAnyG_take (i := 9) (v := ?_) rfl (by kernel_rfl) (by kernel_rfl) (by kernel_rfl) (by kernel_rfl) (by kernel_rfl) (by decide) (by decide) inv (fun _ _ _ h => h) (Or.inl ⟨by rfl, ?_⟩) HSd.out ?_; rotate_left; (focus (intro W y1; obtain ⟨y1, y2⟩ := y1; go_simp; (first | done | with_reducible rfl))); clear inv; intro inv; simp only [List.getElem_toArray, List.getElem_cons_zero, List.getElem_cons_succ, Act.put, List.setIfInBounds_toArray, List.set_cons_zero, List.set_cons_succ]
    have HInv := Lib.hid inv
    clear inv
    refine wpAnyG_one (i := 10) (by kernel_rfl) rfl rfl fun K hK => ?_
    go_simp
    refine hK.out _ _ (fun _ => HSS.out _ HBx6.out) ?_
    clear hK K
    replace HInv := Lib.hid (inv_one (i := 10) HInv.out (by kernel_rfl) (by decide))
    refine wpAnyG_one (i := 11) (by kernel_rfl) rfl rfl fun K hK => ?_
    go_simp
    refine hK.out _ _ (fun h => absurd h (by decide)) ?_
    clear hK K
    refine wpAnyG_done (by kernel_rfl) ?_
    clear HInv
    clear HSS HSd HB0
    replace ZX := Lib.hid (ZX.out.past HBx6.out)
    replace ZL := Lib.hid (ZL.out.past HBx6.out)
    replace ZN := Lib.hid (ZN.out.past HBx6.out)
    replace ZE := Lib.hid (ZE.out.past HBx6.out)
    replace ZS := Lib.hid (pt ZS.out HBx6.out)
    clear H8 H9 HCp HCc HCk HBx1 HBx5 HBx6
    obtain ⟨u5, rfl⟩ : ∃ v, v = wqa_ := ⟨_, rfl⟩
    as_aux_lemma =>
    have x23 := ZX.out.cellAt 23 rfl
    have xl := ZX.out.lt
    go_wp2
    go_ret
    exact ⟨rfl, ZS.out⟩

end Go.Proofs.YtpdkbhjcpddnpaaGreatDoor
end
