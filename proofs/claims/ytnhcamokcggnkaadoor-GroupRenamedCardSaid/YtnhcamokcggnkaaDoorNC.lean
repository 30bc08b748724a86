/- The walk of the law on renamed terminals, where the second renaming is 2, 1, 0: it returns true. Printed by a program (gen_renlaw.py).
The law on renamed terminals, whole: it returns true. Printed by a program (gen_renall.py). -/
import Derived.Test.YtnhcamokcggnkaaDoorGZLow
import Derived.Test.YtnhcamokcggnkaaDoorGJAwake
import Derived.Test.YtnhcamokcggnkaaDoorHRHours
import Derived.Test.YtnhcamokcggnkaaDoorARegionL
import Derived.Test.YtnhcamokcggnkaaDoorGYEql
import Derived.Test.YtnhcamokcggnkaaDoorJC0Ren
import Derived.Test.YtnhcamokcggnkaaDoorNA
import Derived.Test.YtnhcamokcggnkaaDoorNB
import Derived.Test.YtnhcamokcggnkaaDoorN4
import Derived.Test.YtnhcamokcggnkaaDoorGMTurns

section
namespace Go.Proofs.YtnhcamokcggnkaaDoor
open Go.RowKit
attribute [local go_sem ↓] Go.wp_at_zero Go.wp_at_succ
attribute [local go_sem ↓ high] apil_neq

set_option maxHeartbeats 32000000 in
set_option maxRecDepth 100000 in
theorem ren_210_true (k t s : Int) (r : Bool) (a b c : Int) (x1 x2 x3 x4 x5 x6 x7 x8 x9 y1 y2 y3 y4 y5 y6 y7 y8 y9 z1 z2 z3 z4 z5 z6 z7 z8 z9 o1 o2 o3 o4 o5 o6 o7 o8 o9 sv g1 g2 N f1 f2 p1 p2 tv u s4 u4 : Int) (w : World) (hT : TwIn w) (hP : PatIn w)
    (hw : ∀ w, Calls Tryd.prog 13 #[.agg #[.int .i64 k, .int .i64 t, .int .i64 s, .bool r]] w fun e w' => e = .returned (.int .i64 0) ∧ Below w.heap.size w w')
    (hi1 : ∀ w, Calls Tryd.prog 45 #[.agg #[.int .i64 a, .int .i64 b, .int .i64 c]] w fun e w' => e = .returned (.bool true) ∧ Below w.heap.size w w')
    (hi2 : ∀ w, Calls Tryd.prog 45 #[.agg #[.int .i64 2, .int .i64 1, .int .i64 0]] w fun e w' => e = .returned (.bool true) ∧ Below w.heap.size w w')
    (hl : ∀ w, Calls Tryd.prog 20 #[.agg #[.int .i64 k, .int .i64 t, .int .i64 s, .bool r]] w fun e w' => e = .returned (.agg #[.int .i64 x1, .int .i64 x2, .int .i64 x3, .int .i64 x4, .int .i64 x5, .int .i64 x6, .int .i64 x7, .int .i64 x8, .int .i64 x9]) ∧ Below w.heap.size w w')
    (ha : ∀ w, Calls Tryd.prog 40 #[.agg #[.int .i64 x1, .int .i64 x2, .int .i64 x3, .int .i64 x4, .int .i64 x5, .int .i64 x6, .int .i64 x7, .int .i64 x8, .int .i64 x9], .agg #[.int .i64 a, .int .i64 b, .int .i64 c]] w fun e w' => e = .returned (.tuple #[.agg #[.int .i64 y1, .int .i64 y2, .int .i64 y3, .int .i64 y4, .int .i64 y5, .int .i64 y6, .int .i64 y7, .int .i64 y8, .int .i64 y9], .int .i64 0]) ∧ Below w.heap.size w w')
    (hb : ∀ w, Calls Tryd.prog 40 #[.agg #[.int .i64 y1, .int .i64 y2, .int .i64 y3, .int .i64 y4, .int .i64 y5, .int .i64 y6, .int .i64 y7, .int .i64 y8, .int .i64 y9], .agg #[.int .i64 2, .int .i64 1, .int .i64 0]] w fun e w' => e = .returned (.tuple #[.agg #[.int .i64 z1, .int .i64 z2, .int .i64 z3, .int .i64 z4, .int .i64 z5, .int .i64 z6, .int .i64 z7, .int .i64 z8, .int .i64 z9], .int .i64 0]) ∧ Below w.heap.size w w')
    (hc : ∀ w, Calls Tryd.prog 40 #[.agg #[.int .i64 x1, .int .i64 x2, .int .i64 x3, .int .i64 x4, .int .i64 x5, .int .i64 x6, .int .i64 x7, .int .i64 x8, .int .i64 x9], .agg #[.int .i64 c, .int .i64 b, .int .i64 a]] w fun e w' => e = .returned (.tuple #[.agg #[.int .i64 z1, .int .i64 z2, .int .i64 z3, .int .i64 z4, .int .i64 z5, .int .i64 z6, .int .i64 z7, .int .i64 z8, .int .i64 z9], .int .i64 0]) ∧ Below w.heap.size w w')
    (hs : ∀ w, Calls Tryd.prog 30 #[.agg #[.int .i64 y1, .int .i64 y2, .int .i64 y3, .int .i64 y4, .int .i64 y5, .int .i64 y6, .int .i64 y7, .int .i64 y8, .int .i64 y9]] w fun e w' => e = .returned (.tuple #[.int .i64 sv, .int .i64 0]) ∧ Below w.heap.size w w')
    (hz : ∀ w, Calls Tryd.prog 31 #[.agg #[.int .i64 y1, .int .i64 y2, .int .i64 y3, .int .i64 y4, .int .i64 y5, .int .i64 y6, .int .i64 y7, .int .i64 y8, .int .i64 y9]] w fun e w' => e = .returned (.tuple #[.agg #[.int .i64 g1, .int .i64 g2], .int .i64 0]) ∧ Below w.heap.size w w')
    (hn : ∀ w, Calls Tryd.prog 22 #[.agg #[.int .i64 g1, .int .i64 g2]] w fun e w' => e = .returned (.tuple #[.int .i64 N, .int .i64 0]) ∧ Below w.heap.size w w')
    (hf : ∀ w, Calls Tryd.prog 44 #[.agg #[.int .i64 x1, .int .i64 x2, .int .i64 x3]] w fun e w' => e = .returned (.agg #[.int .i64 f1, .int .i64 f2]) ∧ Below w.heap.size w w')
    (hg : ∀ w, Calls Tryd.prog 27 #[.agg #[.int .i64 f1, .int .i64 f2]] w fun e w' => e = .returned (.int .i64 N) ∧ Below w.heap.size w w')
    (ho : ∀ w, Calls Tryd.prog 40 #[.agg #[.int .i64 y1, .int .i64 y2, .int .i64 y3, .int .i64 y4, .int .i64 y5, .int .i64 y6, .int .i64 y7, .int .i64 y8, .int .i64 y9], .agg #[.int .i64 1, .int .i64 2, .int .i64 0]] w fun e w' => e = .returned (.tuple #[.agg #[.int .i64 o1, .int .i64 o2, .int .i64 o3, .int .i64 o4, .int .i64 o5, .int .i64 o6, .int .i64 o7, .int .i64 o8, .int .i64 o9], .int .i64 0]) ∧ Below w.heap.size w w')
    (hy : ∀ w, Calls Tryd.prog 31 #[.agg #[.int .i64 o1, .int .i64 o2, .int .i64 o3, .int .i64 o4, .int .i64 o5, .int .i64 o6, .int .i64 o7, .int .i64 o8, .int .i64 o9]] w fun e w' => e = .returned (.tuple #[.agg #[.int .i64 p1, .int .i64 p2], .int .i64 0]) ∧ Below w.heap.size w w')
    (ht : ∀ w, TwIn w → Calls Tryd.prog 23 #[.agg #[.int .i64 p1, .int .i64 p2]] w fun e w' => e = .returned (.tuple #[.int .i64 tv, .int .i64 0]) ∧ Below w.heap.size w w')
    (hu : ∀ w, TwIn w → Calls Tryd.prog 23 #[.agg #[.int .i64 g1, .int .i64 g2]] w fun e w' => e = .returned (.tuple #[.int .i64 u, .int .i64 0]) ∧ Below w.heap.size w w')
    (hwi : withinB u 0 11 = true) (hm : ∀ w, Calls Tryd.prog 29 #[.int .i64 u4, .int .i64 12] w fun e w' => e = .returned (.int .i64 tv) ∧ w = w')
    (ka1 : IntKind.i64.wrap (a + 1) = a + 1) (kev : (b == (a + 1).tmod 3) = true) (ks1 : (sv == 1) = true) (ks2 : (sv != -1) = true) (k4 : IntKind.i64.wrap (4 * sv) = s4) (ku : IntKind.i64.wrap (u - s4) = u4) :
    Calls Tryd.prog 9 #[.agg #[.int .i64 k, .int .i64 t, .int .i64 s, .bool r], .agg #[.int .i64 a, .int .i64 b, .int .i64 c], .agg #[.int .i64 2, .int .i64 1, .int .i64 0]] w fun e w' => e = .returned (.bool true) ∧ Below w.heap.size w w' := by
  have HT := Lib.hid (fun w' (h : Below w.heap.size w w') => hT.below h)
  have HP := Lib.hid (fun w' (h : Below w.heap.size w w') => hP.below h)
  have HWI := Lib.hid (refWithin_any u 0 11)
  rw [hwi] at HWI
  have HM := Lib.hid hm
  have H_w := Lib.hid hw
  have H_i1 := Lib.hid hi1
  have H_i2 := Lib.hid hi2
  have H_l := Lib.hid hl
  have H_a := Lib.hid ha
  have H_b := Lib.hid hb
  have H_c := Lib.hid hc
  have H_s := Lib.hid hs
  have H_z := Lib.hid hz
  have H_n := Lib.hid hn
  have H_f := Lib.hid hf
  have H_g := Lib.hid hg
  have H_o := Lib.hid ho
  have H_y := Lib.hid hy
  have H_t := Lib.hid ht
  have H_u := Lib.hid hu
  clear hT hP hwi hm hw hi1 hi2 hl ha hb hc hs hz hn hf hg ho hy ht hu
  go_enter Tryd.func9, Tryd.ntmps9
  go_wp2_with (first
    | (go_at_call 11; (with_reducible refine (awake_any _ (HT.out _ (pa (pa (pa (pr))))) (HP.out _ (pa (pa (pa (pr)))))).mono ?_); rintro e w1_ ⟨rfl, h1_⟩; have A_1 : Blk w1_ (w.heap.size) 23 #[.int .i64 k, .int .i64 t, .int .i64 s, .bool r] := (Blk.newAt (by simp)).alloc.alloc.past h1_; have P_1 : Blk w1_ (w.heap.size + 1) 36 #[.int .i64 a, .int .i64 b, .int .i64 c] := (Blk.newAt (by simp)).alloc.past h1_; have Q_1 : Blk w1_ (w.heap.size + 1 + 1) 36 #[.int .i64 2, .int .i64 1, .int .i64 0] := (Blk.newAt (by simp)).past h1_; have S_1 := pt (pa (pa (pa (pr)))) h1_; have Ac0 := A_1.cellAt 0 rfl; have Ac1 := A_1.cellAt 1 rfl; have Ac2 := A_1.cellAt 2 rfl; have Ac3 := A_1.cellAt 3 rfl; have Al := A_1.lt; have Pc0 := P_1.cellAt 0 rfl; have Pc1 := P_1.cellAt 1 rfl; have Pc2 := P_1.cellAt 2 rfl; have Pl := P_1.lt; have Qc0 := Q_1.cellAt 0 rfl; have Qc1 := Q_1.cellAt 1 rfl; have Qc2 := Q_1.cellAt 2 rfl; have Ql := Q_1.lt; clear h1_)
    | (go_at_call 13; (with_reducible refine (H_w.out _).mono ?_); rintro e w2_ ⟨rfl, h2_⟩; have A_2 : Blk w2_ (w.heap.size) 23 #[.int .i64 k, .int .i64 t, .int .i64 s, .bool r] := (A_1).past h2_; have P_2 : Blk w2_ (w.heap.size + 1) 36 #[.int .i64 a, .int .i64 b, .int .i64 c] := (P_1).past h2_; have Q_2 : Blk w2_ (w.heap.size + 1 + 1) 36 #[.int .i64 2, .int .i64 1, .int .i64 0] := (Q_1).past h2_; have S_2 := pt (S_1) h2_; clear A_1 P_1 Q_1 S_1 Ac0 Ac1 Ac2 Ac3 Al Pc0 Pc1 Pc2 Pl Qc0 Qc1 Qc2 Ql; have Ac0 := A_2.cellAt 0 rfl; have Ac1 := A_2.cellAt 1 rfl; have Ac2 := A_2.cellAt 2 rfl; have Ac3 := A_2.cellAt 3 rfl; have Al := A_2.lt; have Pc0 := P_2.cellAt 0 rfl; have Pc1 := P_2.cellAt 1 rfl; have Pc2 := P_2.cellAt 2 rfl; have Pl := P_2.lt; have Qc0 := Q_2.cellAt 0 rfl; have Qc1 := Q_2.cellAt 1 rfl; have Qc2 := Q_2.cellAt 2 rfl; have Ql := Q_2.lt; clear h2_)
    | (go_at_call 45; (with_reducible refine (H_i1.out _).mono ?_); rintro e w3_ ⟨rfl, h3_⟩; have A_3 : Blk w3_ (w.heap.size) 23 #[.int .i64 k, .int .i64 t, .int .i64 s, .bool r] := (A_2).past h3_; have P_3 : Blk w3_ (w.heap.size + 1) 36 #[.int .i64 a, .int .i64 b, .int .i64 c] := (P_2).past h3_; have Q_3 : Blk w3_ (w.heap.size + 1 + 1) 36 #[.int .i64 2, .int .i64 1, .int .i64 0] := (Q_2).past h3_; have S_3 := pt (S_2) h3_; clear A_2 P_2 Q_2 S_2 Ac0 Ac1 Ac2 Ac3 Al Pc0 Pc1 Pc2 Pl Qc0 Qc1 Qc2 Ql; have Ac0 := A_3.cellAt 0 rfl; have Ac1 := A_3.cellAt 1 rfl; have Ac2 := A_3.cellAt 2 rfl; have Ac3 := A_3.cellAt 3 rfl; have Al := A_3.lt; have Pc0 := P_3.cellAt 0 rfl; have Pc1 := P_3.cellAt 1 rfl; have Pc2 := P_3.cellAt 2 rfl; have Pl := P_3.lt; have Qc0 := Q_3.cellAt 0 rfl; have Qc1 := Q_3.cellAt 1 rfl; have Qc2 := Q_3.cellAt 2 rfl; have Ql := Q_3.lt; clear h3_)
    | (go_at_call 45; (with_reducible refine (H_i2.out _).mono ?_); rintro e w4_ ⟨rfl, h4_⟩; have A_4 : Blk w4_ (w.heap.size) 23 #[.int .i64 k, .int .i64 t, .int .i64 s, .bool r] := (A_3).past h4_; have P_4 : Blk w4_ (w.heap.size + 1) 36 #[.int .i64 a, .int .i64 b, .int .i64 c] := (P_3).past h4_; have Q_4 : Blk w4_ (w.heap.size + 1 + 1) 36 #[.int .i64 2, .int .i64 1, .int .i64 0] := (Q_3).past h4_; have S_4 := pt (S_3) h4_; clear A_3 P_3 Q_3 S_3 Ac0 Ac1 Ac2 Ac3 Al Pc0 Pc1 Pc2 Pl Qc0 Qc1 Qc2 Ql; have Ac0 := A_4.cellAt 0 rfl; have Ac1 := A_4.cellAt 1 rfl; have Ac2 := A_4.cellAt 2 rfl; have Ac3 := A_4.cellAt 3 rfl; have Al := A_4.lt; have Pc0 := P_4.cellAt 0 rfl; have Pc1 := P_4.cellAt 1 rfl; have Pc2 := P_4.cellAt 2 rfl; have Pl := P_4.lt; have Qc0 := Q_4.cellAt 0 rfl; have Qc1 := Q_4.cellAt 1 rfl; have Qc2 := Q_4.cellAt 2 rfl; have Ql := Q_4.lt; clear h4_)
    | (go_at_call 20; (with_reducible refine (H_l.out _).mono ?_); rintro e w5_ ⟨rfl, h5_⟩; have A_5 : Blk w5_ (w.heap.size) 23 #[.int .i64 k, .int .i64 t, .int .i64 s, .bool r] := (A_4).past h5_; have P_5 : Blk w5_ (w.heap.size + 1) 36 #[.int .i64 a, .int .i64 b, .int .i64 c] := (P_4).past h5_; have Q_5 : Blk w5_ (w.heap.size + 1 + 1) 36 #[.int .i64 2, .int .i64 1, .int .i64 0] := (Q_4).past h5_; have S_5 := pt (S_4) h5_; clear A_4 P_4 Q_4 S_4 Ac0 Ac1 Ac2 Ac3 Al Pc0 Pc1 Pc2 Pl Qc0 Qc1 Qc2 Ql; have Pc0 := P_5.cellAt 0 rfl; have Pc1 := P_5.cellAt 1 rfl; have Pc2 := P_5.cellAt 2 rfl; have Pl := P_5.lt; have Qc0 := Q_5.cellAt 0 rfl; have Qc1 := Q_5.cellAt 1 rfl; have Qc2 := Q_5.cellAt 2 rfl; have Ql := Q_5.lt; clear h5_)
    | ((with_reducible refine load_sub (T := 38) (x := .tmp 7) (o := 0) (vs := #[.int .i64 x1, .int .i64 x2, .int .i64 x3, .int .i64 x4, .int .i64 x5, .int .i64 x6, .int .i64 x7, .int .i64 x8, .int .i64 x9]) (show Blk _ (w5_.heap.size) 38 #[.int .i64 x1, .int .i64 x2, .int .i64 x3, .int .i64 x4, .int .i64 x5, .int .i64 x6, .int .i64 x7, .int .i64 x8, .int .i64 x9] from (Blk.newAt (by simp))) ?_ ?_ Tryd.underlying38 ?_ ?_ ?_); (focus rfl); (focus rfl); (focus rfl); (focus exact ren9_size))
    | (go_at_call 40; (with_reducible refine (H_a.out _).mono ?_); rintro e w6_ ⟨rfl, h6_⟩; have A_6 : Blk w6_ (w.heap.size) 23 #[.int .i64 k, .int .i64 t, .int .i64 s, .bool r] := (A_5.alloc).past h6_; have P_6 : Blk w6_ (w.heap.size + 1) 36 #[.int .i64 a, .int .i64 b, .int .i64 c] := (P_5.alloc).past h6_; have Q_6 : Blk w6_ (w.heap.size + 1 + 1) 36 #[.int .i64 2, .int .i64 1, .int .i64 0] := (Q_5.alloc).past h6_; have L_6 : Blk w6_ (w5_.heap.size) 38 #[.int .i64 x1, .int .i64 x2, .int .i64 x3, .int .i64 x4, .int .i64 x5, .int .i64 x6, .int .i64 x7, .int .i64 x8, .int .i64 x9] := (Blk.newAt (by simp)).past h6_; have S_6 := pt (pa (S_5)) h6_; clear A_5 P_5 Q_5 S_5 Pc0 Pc1 Pc2 Pl Qc0 Qc1 Qc2 Ql; have Pc0 := P_6.cellAt 0 rfl; have Pc1 := P_6.cellAt 1 rfl; have Pc2 := P_6.cellAt 2 rfl; have Pl := P_6.lt; have Qc0 := Q_6.cellAt 0 rfl; have Qc1 := Q_6.cellAt 1 rfl; have Qc2 := Q_6.cellAt 2 rfl; have Ql := Q_6.lt; clear h6_)
    | ((with_reducible refine load_sub (T := 38) (x := .tmp 8) (o := 0) (vs := #[.int .i64 y1, .int .i64 y2, .int .i64 y3, .int .i64 y4, .int .i64 y5, .int .i64 y6, .int .i64 y7, .int .i64 y8, .int .i64 y9]) (show Blk _ (w6_.heap.size) 38 #[.int .i64 y1, .int .i64 y2, .int .i64 y3, .int .i64 y4, .int .i64 y5, .int .i64 y6, .int .i64 y7, .int .i64 y8, .int .i64 y9] from (Blk.newAt (by simp))) ?_ ?_ Tryd.underlying38 ?_ ?_ ?_); (focus rfl); (focus rfl); (focus rfl); (focus exact ren9_size))
    | (go_at_call 40; (with_reducible refine (H_b.out _).mono ?_); rintro e w7_ ⟨rfl, h7_⟩; have A_7 : Blk w7_ (w.heap.size) 23 #[.int .i64 k, .int .i64 t, .int .i64 s, .bool r] := (A_6.alloc).past h7_; have P_7 : Blk w7_ (w.heap.size + 1) 36 #[.int .i64 a, .int .i64 b, .int .i64 c] := (P_6.alloc).past h7_; have Q_7 : Blk w7_ (w.heap.size + 1 + 1) 36 #[.int .i64 2, .int .i64 1, .int .i64 0] := (Q_6.alloc).past h7_; have L_7 : Blk w7_ (w5_.heap.size) 38 #[.int .i64 x1, .int .i64 x2, .int .i64 x3, .int .i64 x4, .int .i64 x5, .int .i64 x6, .int .i64 x7, .int .i64 x8, .int .i64 x9] := (L_6.alloc).past h7_; have M_7 : Blk w7_ (w6_.heap.size) 38 #[.int .i64 y1, .int .i64 y2, .int .i64 y3, .int .i64 y4, .int .i64 y5, .int .i64 y6, .int .i64 y7, .int .i64 y8, .int .i64 y9] := (Blk.newAt (by simp)).past h7_; have S_7 := pt (pa (S_6)) h7_; clear A_6 P_6 Q_6 L_6 S_6 Pc0 Pc1 Pc2 Pl Qc0 Qc1 Qc2 Ql; have Pc0 := P_7.cellAt 0 rfl; have Pc1 := P_7.cellAt 1 rfl; have Pc2 := P_7.cellAt 2 rfl; have Pl := P_7.lt; have Qc0 := Q_7.cellAt 0 rfl; have Qc1 := Q_7.cellAt 1 rfl; have Qc2 := Q_7.cellAt 2 rfl; have Ql := Q_7.lt; have Lc0 := L_7.cellAt 0 rfl; have Lc1 := L_7.cellAt 1 rfl; have Lc2 := L_7.cellAt 2 rfl; have Lc3 := L_7.cellAt 3 rfl; have Lc4 := L_7.cellAt 4 rfl; have Lc5 := L_7.cellAt 5 rfl; have Lc6 := L_7.cellAt 6 rfl; have Lc7 := L_7.cellAt 7 rfl; have Lc8 := L_7.cellAt 8 rfl; have Ll := L_7.lt; clear h7_))
  have A_8 : Blk (w7_.alloc (.cells #[.int .i64 z1, .int .i64 z2, .int .i64 z3, .int .i64 z4, .int .i64 z5, .int .i64 z6, .int .i64 z7, .int .i64 z8, .int .i64 z9] 38)) (w.heap.size) 23 #[.int .i64 k, .int .i64 t, .int .i64 s, .bool r] := (A_7.alloc)
  have P_8 : Blk (w7_.alloc (.cells #[.int .i64 z1, .int .i64 z2, .int .i64 z3, .int .i64 z4, .int .i64 z5, .int .i64 z6, .int .i64 z7, .int .i64 z8, .int .i64 z9] 38)) (w.heap.size + 1) 36 #[.int .i64 a, .int .i64 b, .int .i64 c] := (P_7.alloc)
  have Q_8 : Blk (w7_.alloc (.cells #[.int .i64 z1, .int .i64 z2, .int .i64 z3, .int .i64 z4, .int .i64 z5, .int .i64 z6, .int .i64 z7, .int .i64 z8, .int .i64 z9] 38)) (w.heap.size + 1 + 1) 36 #[.int .i64 2, .int .i64 1, .int .i64 0] := (Q_7.alloc)
  have L_8 : Blk (w7_.alloc (.cells #[.int .i64 z1, .int .i64 z2, .int .i64 z3, .int .i64 z4, .int .i64 z5, .int .i64 z6, .int .i64 z7, .int .i64 z8, .int .i64 z9] 38)) (w5_.heap.size) 38 #[.int .i64 x1, .int .i64 x2, .int .i64 x3, .int .i64 x4, .int .i64 x5, .int .i64 x6, .int .i64 x7, .int .i64 x8, .int .i64 x9] := (L_7.alloc)
  have M_8 : Blk (w7_.alloc (.cells #[.int .i64 z1, .int .i64 z2, .int .i64 z3, .int .i64 z4, .int .i64 z5, .int .i64 z6, .int .i64 z7, .int .i64 z8, .int .i64 z9] 38)) (w6_.heap.size) 38 #[.int .i64 y1, .int .i64 y2, .int .i64 y3, .int .i64 y4, .int .i64 y5, .int .i64 y6, .int .i64 y7, .int .i64 y8, .int .i64 y9] := (M_7.alloc)
  have B_8 : Blk (w7_.alloc (.cells #[.int .i64 z1, .int .i64 z2, .int .i64 z3, .int .i64 z4, .int .i64 z5, .int .i64 z6, .int .i64 z7, .int .i64 z8, .int .i64 z9] 38)) (w7_.heap.size) 38 #[.int .i64 z1, .int .i64 z2, .int .i64 z3, .int .i64 z4, .int .i64 z5, .int .i64 z6, .int .i64 z7, .int .i64 z8, .int .i64 z9] := (Blk.newAt (by simp))
  have S_8 := (show Below w.heap.size w (w7_.alloc (.cells #[.int .i64 z1, .int .i64 z2, .int .i64 z3, .int .i64 z4, .int .i64 z5, .int .i64 z6, .int .i64 z7, .int .i64 z8, .int .i64 z9] 38)) from pa (S_7))
  clear A_7 P_7 Q_7 L_7 M_7 S_7 Pc0 Pc1 Pc2 Pl Qc0 Qc1 Qc2 Ql Lc0 Lc1 Lc2 Lc3 Lc4 Lc5 Lc6 Lc7 Lc8 Ll
  generalize w7_.alloc (.cells #[.int .i64 z1, .int .i64 z2, .int .i64 z3, .int .i64 z4, .int .i64 z5, .int .i64 z6, .int .i64 z7, .int .i64 z8, .int .i64 z9] 38) = w8_ at *
  have Pc0 := P_8.cellAt 0 rfl
  have Pc1 := P_8.cellAt 1 rfl
  have Pc2 := P_8.cellAt 2 rfl
  have Pl := P_8.lt
  have Qc0 := Q_8.cellAt 0 rfl
  have Qc1 := Q_8.cellAt 1 rfl
  have Qc2 := Q_8.cellAt 2 rfl
  have Ql := Q_8.lt
  have Lc0 := L_8.cellAt 0 rfl
  have Lc1 := L_8.cellAt 1 rfl
  have Lc2 := L_8.cellAt 2 rfl
  have Lc3 := L_8.cellAt 3 rfl
  have Lc4 := L_8.cellAt 4 rfl
  have Lc5 := L_8.cellAt 5 rfl
  have Lc6 := L_8.cellAt 6 rfl
  have Lc7 := L_8.cellAt 7 rfl
  have Lc8 := L_8.cellAt 8 rfl
  have Ll := L_8.lt
  refine region_alloc_late (zs := #[.int .i64 0, .int .i64 0, .int .i64 0, .int .i64 0, .int .i64 0, .int .i64 0, .int .i64 0, .int .i64 0, .int .i64 0]) 17 follows_mixed (by kernel_rfl) rfl rfl (fun _ _ => by kernel_rfl) ?_
  simp only [List.take_succ_cons, List.take_zero, List.drop_succ_cons, List.drop_zero]
  repeat (first
    | ((with_reducible apply grow_plain); (focus rfl); (focus (intro w' hw; obtain ⟨hcq, hfq⟩ := bcell hw; go_simp; (first | done | rfl | (with_reducible exact H_c.out _)))); (simp only [Act.put, List.setIfInBounds_toArray, List.set_cons_succ, List.set_cons_zero]))
    | ((with_reducible apply grow_skip); (focus (first | (simp [Region.wanted, yielded]; done) | (simp [Region.wanted, yielded, undef]; done))); simp only [Act.put, List.setIfInBounds_toArray, List.set_cons_succ, List.set_cons_zero])
    | ((with_reducible apply grow_go); (focus (first | (simp [Region.wanted, yielded]; done) | (simp [Region.wanted, yielded, undef]; done))); (focus (intro w' hw; obtain ⟨hcq, hfq⟩ := bcell hw; go_simp; (first | done | rfl | (with_reducible exact H_c.out _)))); (simp only [Act.put, List.setIfInBounds_toArray, List.set_cons_succ, List.set_cons_zero])))
  refine grow_nil ?_
  refine ⟨#[.int .i64 z1, .int .i64 z2, .int .i64 z3, .int .i64 z4, .int .i64 z5, .int .i64 z6, .int .i64 z7, .int .i64 z8, .int .i64 z9], fun _ => rfl, fun _ => rfl, rfl, ren9_size, (by simp [Value.oneCell']; done), ?_⟩
  intro qb9_ w1 hgZ hbZ hb1
  simp only [Act.put, List.setIfInBounds_toArray, List.set_cons_succ, List.set_cons_zero]
  have A_9 : Blk w1 (w.heap.size) 23 #[.int .i64 k, .int .i64 t, .int .i64 s, .bool r] := A_8.past hb1
  have P_9 : Blk w1 (w.heap.size + 1) 36 #[.int .i64 a, .int .i64 b, .int .i64 c] := P_8.past hb1
  have Q_9 : Blk w1 (w.heap.size + 1 + 1) 36 #[.int .i64 2, .int .i64 1, .int .i64 0] := Q_8.past hb1
  have L_9 : Blk w1 (w5_.heap.size) 38 #[.int .i64 x1, .int .i64 x2, .int .i64 x3, .int .i64 x4, .int .i64 x5, .int .i64 x6, .int .i64 x7, .int .i64 x8, .int .i64 x9] := L_8.past hb1
  have M_9 : Blk w1 (w6_.heap.size) 38 #[.int .i64 y1, .int .i64 y2, .int .i64 y3, .int .i64 y4, .int .i64 y5, .int .i64 y6, .int .i64 y7, .int .i64 y8, .int .i64 y9] := M_8.past hb1
  have B_9 : Blk w1 (w7_.heap.size) 38 #[.int .i64 z1, .int .i64 z2, .int .i64 z3, .int .i64 z4, .int .i64 z5, .int .i64 z6, .int .i64 z7, .int .i64 z8, .int .i64 z9] := B_8.past hb1
  have Z_9 : Blk w1 qb9_ 38 #[.int .i64 z1, .int .i64 z2, .int .i64 z3, .int .i64 z4, .int .i64 z5, .int .i64 z6, .int .i64 z7, .int .i64 z8, .int .i64 z9] := hbZ
  have ge_Z : w.heap.size ≤ qb9_ := by have := (S_8).size; omega
  have S_9 := pt (S_8) hb1
  clear A_8 P_8 Q_8 L_8 M_8 B_8 S_8 Pc0 Pc1 Pc2 Pl Qc0 Qc1 Qc2 Ql Lc0 Lc1 Lc2 Lc3 Lc4 Lc5 Lc6 Lc7 Lc8 Ll
  clear hb1 hbZ hgZ
  obtain ⟨w9_, rfl⟩ : ∃ v, v = w1 := ⟨_, rfl⟩
  have Pc0 := P_9.cellAt 0 rfl
  have Pc1 := P_9.cellAt 1 rfl
  have Pc2 := P_9.cellAt 2 rfl
  have Pl := P_9.lt
  have Qc0 := Q_9.cellAt 0 rfl
  have Qc1 := Q_9.cellAt 1 rfl
  have Qc2 := Q_9.cellAt 2 rfl
  have Ql := Q_9.lt
  have Bc0 := B_9.cellAt 0 rfl
  have Bc1 := B_9.cellAt 1 rfl
  have Bc2 := B_9.cellAt 2 rfl
  have Bc3 := B_9.cellAt 3 rfl
  have Bc4 := B_9.cellAt 4 rfl
  have Bc5 := B_9.cellAt 5 rfl
  have Bc6 := B_9.cellAt 6 rfl
  have Bc7 := B_9.cellAt 7 rfl
  have Bc8 := B_9.cellAt 8 rfl
  have Bl := B_9.lt
  have Zc0 := Z_9.cellAt 0 rfl
  have Zc1 := Z_9.cellAt 1 rfl
  have Zc2 := Z_9.cellAt 2 rfl
  have Zc3 := Z_9.cellAt 3 rfl
  have Zc4 := Z_9.cellAt 4 rfl
  have Zc5 := Z_9.cellAt 5 rfl
  have Zc6 := Z_9.cellAt 6 rfl
  have Zc7 := Z_9.cellAt 7 rfl
  have Zc8 := Z_9.cellAt 8 rfl
  have Zl := Z_9.lt
  go_wp2_with (first
    | ((with_reducible refine load_sub (T := 38) (x := .tmp 8) (o := 0) (vs := #[.int .i64 y1, .int .i64 y2, .int .i64 y3, .int .i64 y4, .int .i64 y5, .int .i64 y6, .int .i64 y7, .int .i64 y8, .int .i64 y9]) (show Blk _ (w6_.heap.size) 38 #[.int .i64 y1, .int .i64 y2, .int .i64 y3, .int .i64 y4, .int .i64 y5, .int .i64 y6, .int .i64 y7, .int .i64 y8, .int .i64 y9] from (M_9)) ?_ ?_ Tryd.underlying38 ?_ ?_ ?_); (focus rfl); (focus rfl); (focus rfl); (focus exact ren9_size))
    | (go_at_call 30; (with_reducible refine (H_s.out _).mono ?_); rintro e w10_ ⟨rfl, h10_⟩; have A_10 : Blk w10_ (w.heap.size) 23 #[.int .i64 k, .int .i64 t, .int .i64 s, .bool r] := (A_9).past h10_; have P_10 : Blk w10_ (w.heap.size + 1) 36 #[.int .i64 a, .int .i64 b, .int .i64 c] := (P_9).past h10_; have Q_10 : Blk w10_ (w.heap.size + 1 + 1) 36 #[.int .i64 2, .int .i64 1, .int .i64 0] := (Q_9).past h10_; have L_10 : Blk w10_ (w5_.heap.size) 38 #[.int .i64 x1, .int .i64 x2, .int .i64 x3, .int .i64 x4, .int .i64 x5, .int .i64 x6, .int .i64 x7, .int .i64 x8, .int .i64 x9] := (L_9).past h10_; have M_10 : Blk w10_ (w6_.heap.size) 38 #[.int .i64 y1, .int .i64 y2, .int .i64 y3, .int .i64 y4, .int .i64 y5, .int .i64 y6, .int .i64 y7, .int .i64 y8, .int .i64 y9] := (M_9).past h10_; have B_10 : Blk w10_ (w7_.heap.size) 38 #[.int .i64 z1, .int .i64 z2, .int .i64 z3, .int .i64 z4, .int .i64 z5, .int .i64 z6, .int .i64 z7, .int .i64 z8, .int .i64 z9] := (B_9).past h10_; have Z_10 : Blk w10_ (qb9_) 38 #[.int .i64 z1, .int .i64 z2, .int .i64 z3, .int .i64 z4, .int .i64 z5, .int .i64 z6, .int .i64 z7, .int .i64 z8, .int .i64 z9] := (Z_9).past h10_; have S_10 := pt (S_9) h10_; clear A_9 P_9 Q_9 L_9 M_9 B_9 Z_9 S_9 Pc0 Pc1 Pc2 Pl Qc0 Qc1 Qc2 Ql Bc0 Bc1 Bc2 Bc3 Bc4 Bc5 Bc6 Bc7 Bc8 Bl Zc0 Zc1 Zc2 Zc3 Zc4 Zc5 Zc6 Zc7 Zc8 Zl; have Pc0 := P_10.cellAt 0 rfl; have Pc1 := P_10.cellAt 1 rfl; have Pc2 := P_10.cellAt 2 rfl; have Pl := P_10.lt; clear h10_)
    | ((with_reducible refine load_sub (T := 38) (x := .tmp 8) (o := 0) (vs := #[.int .i64 y1, .int .i64 y2, .int .i64 y3, .int .i64 y4, .int .i64 y5, .int .i64 y6, .int .i64 y7, .int .i64 y8, .int .i64 y9]) (show Blk _ (w6_.heap.size) 38 #[.int .i64 y1, .int .i64 y2, .int .i64 y3, .int .i64 y4, .int .i64 y5, .int .i64 y6, .int .i64 y7, .int .i64 y8, .int .i64 y9] from (M_10)) ?_ ?_ Tryd.underlying38 ?_ ?_ ?_); (focus rfl); (focus rfl); (focus rfl); (focus exact ren9_size))
    | (go_at_call 31; (with_reducible refine (H_z.out _).mono ?_); rintro e w11_ ⟨rfl, h11_⟩; have A_11 : Blk w11_ (w.heap.size) 23 #[.int .i64 k, .int .i64 t, .int .i64 s, .bool r] := (A_10).past h11_; have P_11 : Blk w11_ (w.heap.size + 1) 36 #[.int .i64 a, .int .i64 b, .int .i64 c] := (P_10).past h11_; have Q_11 : Blk w11_ (w.heap.size + 1 + 1) 36 #[.int .i64 2, .int .i64 1, .int .i64 0] := (Q_10).past h11_; have L_11 : Blk w11_ (w5_.heap.size) 38 #[.int .i64 x1, .int .i64 x2, .int .i64 x3, .int .i64 x4, .int .i64 x5, .int .i64 x6, .int .i64 x7, .int .i64 x8, .int .i64 x9] := (L_10).past h11_; have M_11 : Blk w11_ (w6_.heap.size) 38 #[.int .i64 y1, .int .i64 y2, .int .i64 y3, .int .i64 y4, .int .i64 y5, .int .i64 y6, .int .i64 y7, .int .i64 y8, .int .i64 y9] := (M_10).past h11_; have B_11 : Blk w11_ (w7_.heap.size) 38 #[.int .i64 z1, .int .i64 z2, .int .i64 z3, .int .i64 z4, .int .i64 z5, .int .i64 z6, .int .i64 z7, .int .i64 z8, .int .i64 z9] := (B_10).past h11_; have Z_11 : Blk w11_ (qb9_) 38 #[.int .i64 z1, .int .i64 z2, .int .i64 z3, .int .i64 z4, .int .i64 z5, .int .i64 z6, .int .i64 z7, .int .i64 z8, .int .i64 z9] := (Z_10).past h11_; have S_11 := pt (S_10) h11_; clear A_10 P_10 Q_10 L_10 M_10 B_10 Z_10 S_10 Pc0 Pc1 Pc2 Pl; have Pc0 := P_11.cellAt 0 rfl; have Pc1 := P_11.cellAt 1 rfl; have Pc2 := P_11.cellAt 2 rfl; have Pl := P_11.lt; clear h11_)
    | (go_at_call 22; (with_reducible refine (H_n.out _).mono ?_); rintro e w12_ ⟨rfl, h12_⟩; have A_12 : Blk w12_ (w.heap.size) 23 #[.int .i64 k, .int .i64 t, .int .i64 s, .bool r] := (A_11.alloc).past h12_; have P_12 : Blk w12_ (w.heap.size + 1) 36 #[.int .i64 a, .int .i64 b, .int .i64 c] := (P_11.alloc).past h12_; have Q_12 : Blk w12_ (w.heap.size + 1 + 1) 36 #[.int .i64 2, .int .i64 1, .int .i64 0] := (Q_11.alloc).past h12_; have L_12 : Blk w12_ (w5_.heap.size) 38 #[.int .i64 x1, .int .i64 x2, .int .i64 x3, .int .i64 x4, .int .i64 x5, .int .i64 x6, .int .i64 x7, .int .i64 x8, .int .i64 x9] := (L_11.alloc).past h12_; have M_12 : Blk w12_ (w6_.heap.size) 38 #[.int .i64 y1, .int .i64 y2, .int .i64 y3, .int .i64 y4, .int .i64 y5, .int .i64 y6, .int .i64 y7, .int .i64 y8, .int .i64 y9] := (M_11.alloc).past h12_; have B_12 : Blk w12_ (w7_.heap.size) 38 #[.int .i64 z1, .int .i64 z2, .int .i64 z3, .int .i64 z4, .int .i64 z5, .int .i64 z6, .int .i64 z7, .int .i64 z8, .int .i64 z9] := (B_11.alloc).past h12_; have Z_12 : Blk w12_ (qb9_) 38 #[.int .i64 z1, .int .i64 z2, .int .i64 z3, .int .i64 z4, .int .i64 z5, .int .i64 z6, .int .i64 z7, .int .i64 z8, .int .i64 z9] := (Z_11.alloc).past h12_; have W_12 : Blk w12_ (w11_.heap.size) 48 #[.int .i64 g1, .int .i64 g2] := (Blk.newAt (by simp)).past h12_; have S_12 := pt (pa (S_11)) h12_; clear A_11 P_11 Q_11 L_11 M_11 B_11 Z_11 S_11 Pc0 Pc1 Pc2 Pl; have Pc0 := P_12.cellAt 0 rfl; have Pc1 := P_12.cellAt 1 rfl; have Pc2 := P_12.cellAt 2 rfl; have Pl := P_12.lt; have Lc0 := L_12.cellAt 0 rfl; have Lc1 := L_12.cellAt 1 rfl; have Lc2 := L_12.cellAt 2 rfl; have Lc3 := L_12.cellAt 3 rfl; have Lc4 := L_12.cellAt 4 rfl; have Lc5 := L_12.cellAt 5 rfl; have Lc6 := L_12.cellAt 6 rfl; have Lc7 := L_12.cellAt 7 rfl; have Lc8 := L_12.cellAt 8 rfl; have Ll := L_12.lt; clear h12_)
    | (go_at_call 44; (with_reducible refine (H_f.out _).mono ?_); rintro e w13_ ⟨rfl, h13_⟩; have A_13 : Blk w13_ (w.heap.size) 23 #[.int .i64 k, .int .i64 t, .int .i64 s, .bool r] := (A_12).past h13_; have P_13 : Blk w13_ (w.heap.size + 1) 36 #[.int .i64 a, .int .i64 b, .int .i64 c] := (P_12).past h13_; have Q_13 : Blk w13_ (w.heap.size + 1 + 1) 36 #[.int .i64 2, .int .i64 1, .int .i64 0] := (Q_12).past h13_; have L_13 : Blk w13_ (w5_.heap.size) 38 #[.int .i64 x1, .int .i64 x2, .int .i64 x3, .int .i64 x4, .int .i64 x5, .int .i64 x6, .int .i64 x7, .int .i64 x8, .int .i64 x9] := (L_12).past h13_; have M_13 : Blk w13_ (w6_.heap.size) 38 #[.int .i64 y1, .int .i64 y2, .int .i64 y3, .int .i64 y4, .int .i64 y5, .int .i64 y6, .int .i64 y7, .int .i64 y8, .int .i64 y9] := (M_12).past h13_; have B_13 : Blk w13_ (w7_.heap.size) 38 #[.int .i64 z1, .int .i64 z2, .int .i64 z3, .int .i64 z4, .int .i64 z5, .int .i64 z6, .int .i64 z7, .int .i64 z8, .int .i64 z9] := (B_12).past h13_; have Z_13 : Blk w13_ (qb9_) 38 #[.int .i64 z1, .int .i64 z2, .int .i64 z3, .int .i64 z4, .int .i64 z5, .int .i64 z6, .int .i64 z7, .int .i64 z8, .int .i64 z9] := (Z_12).past h13_; have W_13 : Blk w13_ (w11_.heap.size) 48 #[.int .i64 g1, .int .i64 g2] := (W_12).past h13_; have S_13 := pt (S_12) h13_; clear A_12 P_12 Q_12 L_12 M_12 B_12 Z_12 W_12 S_12 Pc0 Pc1 Pc2 Pl Lc0 Lc1 Lc2 Lc3 Lc4 Lc5 Lc6 Lc7 Lc8 Ll; clear h13_)
    | (go_at_call 27; (with_reducible refine (H_g.out _).mono ?_); rintro e w14_ ⟨rfl, h14_⟩; have A_14 : Blk w14_ (w.heap.size) 23 #[.int .i64 k, .int .i64 t, .int .i64 s, .bool r] := (A_13).past h14_; have P_14 : Blk w14_ (w.heap.size + 1) 36 #[.int .i64 a, .int .i64 b, .int .i64 c] := (P_13).past h14_; have Q_14 : Blk w14_ (w.heap.size + 1 + 1) 36 #[.int .i64 2, .int .i64 1, .int .i64 0] := (Q_13).past h14_; have L_14 : Blk w14_ (w5_.heap.size) 38 #[.int .i64 x1, .int .i64 x2, .int .i64 x3, .int .i64 x4, .int .i64 x5, .int .i64 x6, .int .i64 x7, .int .i64 x8, .int .i64 x9] := (L_13).past h14_; have M_14 : Blk w14_ (w6_.heap.size) 38 #[.int .i64 y1, .int .i64 y2, .int .i64 y3, .int .i64 y4, .int .i64 y5, .int .i64 y6, .int .i64 y7, .int .i64 y8, .int .i64 y9] := (M_13).past h14_; have B_14 : Blk w14_ (w7_.heap.size) 38 #[.int .i64 z1, .int .i64 z2, .int .i64 z3, .int .i64 z4, .int .i64 z5, .int .i64 z6, .int .i64 z7, .int .i64 z8, .int .i64 z9] := (B_13).past h14_; have Z_14 : Blk w14_ (qb9_) 38 #[.int .i64 z1, .int .i64 z2, .int .i64 z3, .int .i64 z4, .int .i64 z5, .int .i64 z6, .int .i64 z7, .int .i64 z8, .int .i64 z9] := (Z_13).past h14_; have W_14 : Blk w14_ (w11_.heap.size) 48 #[.int .i64 g1, .int .i64 g2] := (W_13).past h14_; have S_14 := pt (S_13) h14_; clear A_13 P_13 Q_13 L_13 M_13 B_13 Z_13 W_13 S_13; clear h14_)
    | ((with_reducible refine load_sub (T := 38) (x := .tmp 8) (o := 0) (vs := #[.int .i64 y1, .int .i64 y2, .int .i64 y3, .int .i64 y4, .int .i64 y5, .int .i64 y6, .int .i64 y7, .int .i64 y8, .int .i64 y9]) (show Blk _ (w6_.heap.size) 38 #[.int .i64 y1, .int .i64 y2, .int .i64 y3, .int .i64 y4, .int .i64 y5, .int .i64 y6, .int .i64 y7, .int .i64 y8, .int .i64 y9] from (M_14)) ?_ ?_ Tryd.underlying38 ?_ ?_ ?_); (focus rfl); (focus rfl); (focus rfl); (focus exact ren9_size))
    | (go_at_call 40; (with_reducible refine (H_o.out _).mono ?_); rintro e w15_ ⟨rfl, h15_⟩; have A_15 : Blk w15_ (w.heap.size) 23 #[.int .i64 k, .int .i64 t, .int .i64 s, .bool r] := (A_14).past h15_; have P_15 : Blk w15_ (w.heap.size + 1) 36 #[.int .i64 a, .int .i64 b, .int .i64 c] := (P_14).past h15_; have Q_15 : Blk w15_ (w.heap.size + 1 + 1) 36 #[.int .i64 2, .int .i64 1, .int .i64 0] := (Q_14).past h15_; have L_15 : Blk w15_ (w5_.heap.size) 38 #[.int .i64 x1, .int .i64 x2, .int .i64 x3, .int .i64 x4, .int .i64 x5, .int .i64 x6, .int .i64 x7, .int .i64 x8, .int .i64 x9] := (L_14).past h15_; have M_15 : Blk w15_ (w6_.heap.size) 38 #[.int .i64 y1, .int .i64 y2, .int .i64 y3, .int .i64 y4, .int .i64 y5, .int .i64 y6, .int .i64 y7, .int .i64 y8, .int .i64 y9] := (M_14).past h15_; have B_15 : Blk w15_ (w7_.heap.size) 38 #[.int .i64 z1, .int .i64 z2, .int .i64 z3, .int .i64 z4, .int .i64 z5, .int .i64 z6, .int .i64 z7, .int .i64 z8, .int .i64 z9] := (B_14).past h15_; have Z_15 : Blk w15_ (qb9_) 38 #[.int .i64 z1, .int .i64 z2, .int .i64 z3, .int .i64 z4, .int .i64 z5, .int .i64 z6, .int .i64 z7, .int .i64 z8, .int .i64 z9] := (Z_14).past h15_; have W_15 : Blk w15_ (w11_.heap.size) 48 #[.int .i64 g1, .int .i64 g2] := (W_14).past h15_; have S_15 := pt (S_14) h15_; clear A_14 P_14 Q_14 L_14 M_14 B_14 Z_14 W_14 S_14; clear h15_)
    | ((with_reducible refine load_sub (T := 38) (x := .tmp 21) (o := 0) (vs := #[.int .i64 o1, .int .i64 o2, .int .i64 o3, .int .i64 o4, .int .i64 o5, .int .i64 o6, .int .i64 o7, .int .i64 o8, .int .i64 o9]) (show Blk _ (w15_.heap.size) 38 #[.int .i64 o1, .int .i64 o2, .int .i64 o3, .int .i64 o4, .int .i64 o5, .int .i64 o6, .int .i64 o7, .int .i64 o8, .int .i64 o9] from (Blk.newAt (by simp))) ?_ ?_ Tryd.underlying38 ?_ ?_ ?_); (focus rfl); (focus rfl); (focus rfl); (focus exact ren9_size))
    | (go_at_call 31; (with_reducible refine (H_y.out _).mono ?_); rintro e w16_ ⟨rfl, h16_⟩; have A_16 : Blk w16_ (w.heap.size) 23 #[.int .i64 k, .int .i64 t, .int .i64 s, .bool r] := (A_15.alloc).past h16_; have P_16 : Blk w16_ (w.heap.size + 1) 36 #[.int .i64 a, .int .i64 b, .int .i64 c] := (P_15.alloc).past h16_; have Q_16 : Blk w16_ (w.heap.size + 1 + 1) 36 #[.int .i64 2, .int .i64 1, .int .i64 0] := (Q_15.alloc).past h16_; have L_16 : Blk w16_ (w5_.heap.size) 38 #[.int .i64 x1, .int .i64 x2, .int .i64 x3, .int .i64 x4, .int .i64 x5, .int .i64 x6, .int .i64 x7, .int .i64 x8, .int .i64 x9] := (L_15.alloc).past h16_; have M_16 : Blk w16_ (w6_.heap.size) 38 #[.int .i64 y1, .int .i64 y2, .int .i64 y3, .int .i64 y4, .int .i64 y5, .int .i64 y6, .int .i64 y7, .int .i64 y8, .int .i64 y9] := (M_15.alloc).past h16_; have B_16 : Blk w16_ (w7_.heap.size) 38 #[.int .i64 z1, .int .i64 z2, .int .i64 z3, .int .i64 z4, .int .i64 z5, .int .i64 z6, .int .i64 z7, .int .i64 z8, .int .i64 z9] := (B_15.alloc).past h16_; have Z_16 : Blk w16_ (qb9_) 38 #[.int .i64 z1, .int .i64 z2, .int .i64 z3, .int .i64 z4, .int .i64 z5, .int .i64 z6, .int .i64 z7, .int .i64 z8, .int .i64 z9] := (Z_15.alloc).past h16_; have W_16 : Blk w16_ (w11_.heap.size) 48 #[.int .i64 g1, .int .i64 g2] := (W_15.alloc).past h16_; have O_16 : Blk w16_ (w15_.heap.size) 38 #[.int .i64 o1, .int .i64 o2, .int .i64 o3, .int .i64 o4, .int .i64 o5, .int .i64 o6, .int .i64 o7, .int .i64 o8, .int .i64 o9] := (Blk.newAt (by simp)).past h16_; have S_16 := pt (pa (S_15)) h16_; clear A_15 P_15 Q_15 L_15 M_15 B_15 Z_15 W_15 S_15; have Wc0 := W_16.cellAt 0 rfl; have Wc1 := W_16.cellAt 1 rfl; have Wl := W_16.lt; clear h16_)
    | (go_at_call 23; (with_reducible refine (H_t.out _ (HT.out _ (pa (S_16)))).mono ?_); rintro e w17_ ⟨rfl, h17_⟩; have A_17 : Blk w17_ (w.heap.size) 23 #[.int .i64 k, .int .i64 t, .int .i64 s, .bool r] := (A_16.alloc).past h17_; have P_17 : Blk w17_ (w.heap.size + 1) 36 #[.int .i64 a, .int .i64 b, .int .i64 c] := (P_16.alloc).past h17_; have Q_17 : Blk w17_ (w.heap.size + 1 + 1) 36 #[.int .i64 2, .int .i64 1, .int .i64 0] := (Q_16.alloc).past h17_; have L_17 : Blk w17_ (w5_.heap.size) 38 #[.int .i64 x1, .int .i64 x2, .int .i64 x3, .int .i64 x4, .int .i64 x5, .int .i64 x6, .int .i64 x7, .int .i64 x8, .int .i64 x9] := (L_16.alloc).past h17_; have M_17 : Blk w17_ (w6_.heap.size) 38 #[.int .i64 y1, .int .i64 y2, .int .i64 y3, .int .i64 y4, .int .i64 y5, .int .i64 y6, .int .i64 y7, .int .i64 y8, .int .i64 y9] := (M_16.alloc).past h17_; have B_17 : Blk w17_ (w7_.heap.size) 38 #[.int .i64 z1, .int .i64 z2, .int .i64 z3, .int .i64 z4, .int .i64 z5, .int .i64 z6, .int .i64 z7, .int .i64 z8, .int .i64 z9] := (B_16.alloc).past h17_; have Z_17 : Blk w17_ (qb9_) 38 #[.int .i64 z1, .int .i64 z2, .int .i64 z3, .int .i64 z4, .int .i64 z5, .int .i64 z6, .int .i64 z7, .int .i64 z8, .int .i64 z9] := (Z_16.alloc).past h17_; have W_17 : Blk w17_ (w11_.heap.size) 48 #[.int .i64 g1, .int .i64 g2] := (W_16.alloc).past h17_; have O_17 : Blk w17_ (w15_.heap.size) 38 #[.int .i64 o1, .int .i64 o2, .int .i64 o3, .int .i64 o4, .int .i64 o5, .int .i64 o6, .int .i64 o7, .int .i64 o8, .int .i64 o9] := (O_16.alloc).past h17_; have Y_17 : Blk w17_ (w16_.heap.size) 48 #[.int .i64 p1, .int .i64 p2] := (Blk.newAt (by simp)).past h17_; have S_17 := pt (pa (S_16)) h17_; clear A_16 P_16 Q_16 L_16 M_16 B_16 Z_16 W_16 O_16 S_16 Wc0 Wc1 Wl; have Wc0 := W_17.cellAt 0 rfl; have Wc1 := W_17.cellAt 1 rfl; have Wl := W_17.lt; clear h17_)
    | (go_at_call 23; (with_reducible refine (H_u.out _ (HT.out _ (S_17))).mono ?_); rintro e w18_ ⟨rfl, h18_⟩; have A_18 : Blk w18_ (w.heap.size) 23 #[.int .i64 k, .int .i64 t, .int .i64 s, .bool r] := (A_17).past h18_; have P_18 : Blk w18_ (w.heap.size + 1) 36 #[.int .i64 a, .int .i64 b, .int .i64 c] := (P_17).past h18_; have Q_18 : Blk w18_ (w.heap.size + 1 + 1) 36 #[.int .i64 2, .int .i64 1, .int .i64 0] := (Q_17).past h18_; have L_18 : Blk w18_ (w5_.heap.size) 38 #[.int .i64 x1, .int .i64 x2, .int .i64 x3, .int .i64 x4, .int .i64 x5, .int .i64 x6, .int .i64 x7, .int .i64 x8, .int .i64 x9] := (L_17).past h18_; have M_18 : Blk w18_ (w6_.heap.size) 38 #[.int .i64 y1, .int .i64 y2, .int .i64 y3, .int .i64 y4, .int .i64 y5, .int .i64 y6, .int .i64 y7, .int .i64 y8, .int .i64 y9] := (M_17).past h18_; have B_18 : Blk w18_ (w7_.heap.size) 38 #[.int .i64 z1, .int .i64 z2, .int .i64 z3, .int .i64 z4, .int .i64 z5, .int .i64 z6, .int .i64 z7, .int .i64 z8, .int .i64 z9] := (B_17).past h18_; have Z_18 : Blk w18_ (qb9_) 38 #[.int .i64 z1, .int .i64 z2, .int .i64 z3, .int .i64 z4, .int .i64 z5, .int .i64 z6, .int .i64 z7, .int .i64 z8, .int .i64 z9] := (Z_17).past h18_; have W_18 : Blk w18_ (w11_.heap.size) 48 #[.int .i64 g1, .int .i64 g2] := (W_17).past h18_; have O_18 : Blk w18_ (w15_.heap.size) 38 #[.int .i64 o1, .int .i64 o2, .int .i64 o3, .int .i64 o4, .int .i64 o5, .int .i64 o6, .int .i64 o7, .int .i64 o8, .int .i64 o9] := (O_17).past h18_; have Y_18 : Blk w18_ (w16_.heap.size) 48 #[.int .i64 p1, .int .i64 p2] := (Y_17).past h18_; have S_18 := pt (S_17) h18_; clear A_17 P_17 Q_17 L_17 M_17 B_17 Z_17 W_17 O_17 Y_17 S_17 Wc0 Wc1 Wl; clear h18_)
    | (go_at_call 32; (with_reducible refine (HWI.out _).mono ?_); rintro e w' ⟨rfl, rfl⟩)
    | (go_at_call 29; (with_reducible refine (HM.out _).mono ?_); rintro e w' ⟨rfl, rfl⟩))
  go_ret
  exact ⟨rfl, by repeat (first | exact S_18 | refine pa ?_)⟩

set_option maxHeartbeats 32000000 in
set_option maxRecDepth 100000 in
theorem ren_210_false (k t s : Int) (r : Bool) (a b c : Int) (x1 x2 x3 x4 x5 x6 x7 x8 x9 y1 y2 y3 y4 y5 y6 y7 y8 y9 z1 z2 z3 z4 z5 z6 z7 z8 z9 o1 o2 o3 o4 o5 o6 o7 o8 o9 sv g1 g2 N f1 f2 p1 p2 tv u s4 u4 : Int) (w : World) (hT : TwIn w) (hP : PatIn w)
    (hw : ∀ w, Calls Tryd.prog 13 #[.agg #[.int .i64 k, .int .i64 t, .int .i64 s, .bool r]] w fun e w' => e = .returned (.int .i64 0) ∧ Below w.heap.size w w')
    (hi1 : ∀ w, Calls Tryd.prog 45 #[.agg #[.int .i64 a, .int .i64 b, .int .i64 c]] w fun e w' => e = .returned (.bool true) ∧ Below w.heap.size w w')
    (hi2 : ∀ w, Calls Tryd.prog 45 #[.agg #[.int .i64 2, .int .i64 1, .int .i64 0]] w fun e w' => e = .returned (.bool true) ∧ Below w.heap.size w w')
    (hl : ∀ w, Calls Tryd.prog 20 #[.agg #[.int .i64 k, .int .i64 t, .int .i64 s, .bool r]] w fun e w' => e = .returned (.agg #[.int .i64 x1, .int .i64 x2, .int .i64 x3, .int .i64 x4, .int .i64 x5, .int .i64 x6, .int .i64 x7, .int .i64 x8, .int .i64 x9]) ∧ Below w.heap.size w w')
    (ha : ∀ w, Calls Tryd.prog 40 #[.agg #[.int .i64 x1, .int .i64 x2, .int .i64 x3, .int .i64 x4, .int .i64 x5, .int .i64 x6, .int .i64 x7, .int .i64 x8, .int .i64 x9], .agg #[.int .i64 a, .int .i64 b, .int .i64 c]] w fun e w' => e = .returned (.tuple #[.agg #[.int .i64 y1, .int .i64 y2, .int .i64 y3, .int .i64 y4, .int .i64 y5, .int .i64 y6, .int .i64 y7, .int .i64 y8, .int .i64 y9], .int .i64 0]) ∧ Below w.heap.size w w')
    (hb : ∀ w, Calls Tryd.prog 40 #[.agg #[.int .i64 y1, .int .i64 y2, .int .i64 y3, .int .i64 y4, .int .i64 y5, .int .i64 y6, .int .i64 y7, .int .i64 y8, .int .i64 y9], .agg #[.int .i64 2, .int .i64 1, .int .i64 0]] w fun e w' => e = .returned (.tuple #[.agg #[.int .i64 z1, .int .i64 z2, .int .i64 z3, .int .i64 z4, .int .i64 z5, .int .i64 z6, .int .i64 z7, .int .i64 z8, .int .i64 z9], .int .i64 0]) ∧ Below w.heap.size w w')
    (hc : ∀ w, Calls Tryd.prog 40 #[.agg #[.int .i64 x1, .int .i64 x2, .int .i64 x3, .int .i64 x4, .int .i64 x5, .int .i64 x6, .int .i64 x7, .int .i64 x8, .int .i64 x9], .agg #[.int .i64 c, .int .i64 b, .int .i64 a]] w fun e w' => e = .returned (.tuple #[.agg #[.int .i64 z1, .int .i64 z2, .int .i64 z3, .int .i64 z4, .int .i64 z5, .int .i64 z6, .int .i64 z7, .int .i64 z8, .int .i64 z9], .int .i64 0]) ∧ Below w.heap.size w w')
    (hs : ∀ w, Calls Tryd.prog 30 #[.agg #[.int .i64 y1, .int .i64 y2, .int .i64 y3, .int .i64 y4, .int .i64 y5, .int .i64 y6, .int .i64 y7, .int .i64 y8, .int .i64 y9]] w fun e w' => e = .returned (.tuple #[.int .i64 sv, .int .i64 0]) ∧ Below w.heap.size w w')
    (hz : ∀ w, Calls Tryd.prog 31 #[.agg #[.int .i64 y1, .int .i64 y2, .int .i64 y3, .int .i64 y4, .int .i64 y5, .int .i64 y6, .int .i64 y7, .int .i64 y8, .int .i64 y9]] w fun e w' => e = .returned (.tuple #[.agg #[.int .i64 g1, .int .i64 g2], .int .i64 0]) ∧ Below w.heap.size w w')
    (hn : ∀ w, Calls Tryd.prog 22 #[.agg #[.int .i64 g1, .int .i64 g2]] w fun e w' => e = .returned (.tuple #[.int .i64 N, .int .i64 0]) ∧ Below w.heap.size w w')
    (hf : ∀ w, Calls Tryd.prog 44 #[.agg #[.int .i64 x1, .int .i64 x2, .int .i64 x3]] w fun e w' => e = .returned (.agg #[.int .i64 f1, .int .i64 f2]) ∧ Below w.heap.size w w')
    (hg : ∀ w, Calls Tryd.prog 27 #[.agg #[.int .i64 f1, .int .i64 f2]] w fun e w' => e = .returned (.int .i64 N) ∧ Below w.heap.size w w')
    (ho : ∀ w, Calls Tryd.prog 40 #[.agg #[.int .i64 y1, .int .i64 y2, .int .i64 y3, .int .i64 y4, .int .i64 y5, .int .i64 y6, .int .i64 y7, .int .i64 y8, .int .i64 y9], .agg #[.int .i64 1, .int .i64 2, .int .i64 0]] w fun e w' => e = .returned (.tuple #[.agg #[.int .i64 o1, .int .i64 o2, .int .i64 o3, .int .i64 o4, .int .i64 o5, .int .i64 o6, .int .i64 o7, .int .i64 o8, .int .i64 o9], .int .i64 0]) ∧ Below w.heap.size w w')
    (hy : ∀ w, Calls Tryd.prog 31 #[.agg #[.int .i64 o1, .int .i64 o2, .int .i64 o3, .int .i64 o4, .int .i64 o5, .int .i64 o6, .int .i64 o7, .int .i64 o8, .int .i64 o9]] w fun e w' => e = .returned (.tuple #[.agg #[.int .i64 p1, .int .i64 p2], .int .i64 0]) ∧ Below w.heap.size w w')
    (ht : ∀ w, TwIn w → Calls Tryd.prog 23 #[.agg #[.int .i64 p1, .int .i64 p2]] w fun e w' => e = .returned (.tuple #[.int .i64 tv, .int .i64 0]) ∧ Below w.heap.size w w')
    (hu : ∀ w, TwIn w → Calls Tryd.prog 23 #[.agg #[.int .i64 g1, .int .i64 g2]] w fun e w' => e = .returned (.tuple #[.int .i64 u, .int .i64 0]) ∧ Below w.heap.size w w')
    (hwi : withinB u 0 11 = true) (hm : ∀ w, Calls Tryd.prog 29 #[.int .i64 u4, .int .i64 12] w fun e w' => e = .returned (.int .i64 tv) ∧ w = w')
    (ka1 : IntKind.i64.wrap (a + 1) = a + 1) (kev : (b == (a + 1).tmod 3) = false) (ks1 : (sv == 1) = false) (ks2 : (sv != -1) = false) (k4 : IntKind.i64.wrap (4 * sv) = s4) (ku : IntKind.i64.wrap (u - s4) = u4) :
    Calls Tryd.prog 9 #[.agg #[.int .i64 k, .int .i64 t, .int .i64 s, .bool r], .agg #[.int .i64 a, .int .i64 b, .int .i64 c], .agg #[.int .i64 2, .int .i64 1, .int .i64 0]] w fun e w' => e = .returned (.bool true) ∧ Below w.heap.size w w' := by
  have HT := Lib.hid (fun w' (h : Below w.heap.size w w') => hT.below h)
  have HP := Lib.hid (fun w' (h : Below w.heap.size w w') => hP.below h)
  have HWI := Lib.hid (refWithin_any u 0 11)
  rw [hwi] at HWI
  have HM := Lib.hid hm
  have H_w := Lib.hid hw
  have H_i1 := Lib.hid hi1
  have H_i2 := Lib.hid hi2
  have H_l := Lib.hid hl
  have H_a := Lib.hid ha
  have H_b := Lib.hid hb
  have H_c := Lib.hid hc
  have H_s := Lib.hid hs
  have H_z := Lib.hid hz
  have H_n := Lib.hid hn
  have H_f := Lib.hid hf
  have H_g := Lib.hid hg
  have H_o := Lib.hid ho
  have H_y := Lib.hid hy
  have H_t := Lib.hid ht
  have H_u := Lib.hid hu
  clear hT hP hwi hm hw hi1 hi2 hl ha hb hc hs hz hn hf hg ho hy ht hu
  go_enter Tryd.func9, Tryd.ntmps9
  go_wp2_with (first
    | (go_at_call 11; (with_reducible refine (awake_any _ (HT.out _ (pa (pa (pa (pr))))) (HP.out _ (pa (pa (pa (pr)))))).mono ?_); rintro e w1_ ⟨rfl, h1_⟩; have A_1 : Blk w1_ (w.heap.size) 23 #[.int .i64 k, .int .i64 t, .int .i64 s, .bool r] := (Blk.newAt (by simp)).alloc.alloc.past h1_; have P_1 : Blk w1_ (w.heap.size + 1) 36 #[.int .i64 a, .int .i64 b, .int .i64 c] := (Blk.newAt (by simp)).alloc.past h1_; have Q_1 : Blk w1_ (w.heap.size + 1 + 1) 36 #[.int .i64 2, .int .i64 1, .int .i64 0] := (Blk.newAt (by simp)).past h1_; have S_1 := pt (pa (pa (pa (pr)))) h1_; have Ac0 := A_1.cellAt 0 rfl; have Ac1 := A_1.cellAt 1 rfl; have Ac2 := A_1.cellAt 2 rfl; have Ac3 := A_1.cellAt 3 rfl; have Al := A_1.lt; have Pc0 := P_1.cellAt 0 rfl; have Pc1 := P_1.cellAt 1 rfl; have Pc2 := P_1.cellAt 2 rfl; have Pl := P_1.lt; have Qc0 := Q_1.cellAt 0 rfl; have Qc1 := Q_1.cellAt 1 rfl; have Qc2 := Q_1.cellAt 2 rfl; have Ql := Q_1.lt; clear h1_)
    | (go_at_call 13; (with_reducible refine (H_w.out _).mono ?_); rintro e w2_ ⟨rfl, h2_⟩; have A_2 : Blk w2_ (w.heap.size) 23 #[.int .i64 k, .int .i64 t, .int .i64 s, .bool r] := (A_1).past h2_; have P_2 : Blk w2_ (w.heap.size + 1) 36 #[.int .i64 a, .int .i64 b, .int .i64 c] := (P_1).past h2_; have Q_2 : Blk w2_ (w.heap.size + 1 + 1) 36 #[.int .i64 2, .int .i64 1, .int .i64 0] := (Q_1).past h2_; have S_2 := pt (S_1) h2_; clear A_1 P_1 Q_1 S_1 Ac0 Ac1 Ac2 Ac3 Al Pc0 Pc1 Pc2 Pl Qc0 Qc1 Qc2 Ql; have Ac0 := A_2.cellAt 0 rfl; have Ac1 := A_2.cellAt 1 rfl; have Ac2 := A_2.cellAt 2 rfl; have Ac3 := A_2.cellAt 3 rfl; have Al := A_2.lt; have Pc0 := P_2.cellAt 0 rfl; have Pc1 := P_2.cellAt 1 rfl; have Pc2 := P_2.cellAt 2 rfl; have Pl := P_2.lt; have Qc0 := Q_2.cellAt 0 rfl; have Qc1 := Q_2.cellAt 1 rfl; have Qc2 := Q_2.cellAt 2 rfl; have Ql := Q_2.lt; clear h2_)
    | (go_at_call 45; (with_reducible refine (H_i1.out _).mono ?_); rintro e w3_ ⟨rfl, h3_⟩; have A_3 : Blk w3_ (w.heap.size) 23 #[.int .i64 k, .int .i64 t, .int .i64 s, .bool r] := (A_2).past h3_; have P_3 : Blk w3_ (w.heap.size + 1) 36 #[.int .i64 a, .int .i64 b, .int .i64 c] := (P_2).past h3_; have Q_3 : Blk w3_ (w.heap.size + 1 + 1) 36 #[.int .i64 2, .int .i64 1, .int .i64 0] := (Q_2).past h3_; have S_3 := pt (S_2) h3_; clear A_2 P_2 Q_2 S_2 Ac0 Ac1 Ac2 Ac3 Al Pc0 Pc1 Pc2 Pl Qc0 Qc1 Qc2 Ql; have Ac0 := A_3.cellAt 0 rfl; have Ac1 := A_3.cellAt 1 rfl; have Ac2 := A_3.cellAt 2 rfl; have Ac3 := A_3.cellAt 3 rfl; have Al := A_3.lt; have Pc0 := P_3.cellAt 0 rfl; have Pc1 := P_3.cellAt 1 rfl; have Pc2 := P_3.cellAt 2 rfl; have Pl := P_3.lt; have Qc0 := Q_3.cellAt 0 rfl; have Qc1 := Q_3.cellAt 1 rfl; have Qc2 := Q_3.cellAt 2 rfl; have Ql := Q_3.lt; clear h3_)
    | (go_at_call 45; (with_reducible refine (H_i2.out _).mono ?_); rintro e w4_ ⟨rfl, h4_⟩; have A_4 : Blk w4_ (w.heap.size) 23 #[.int .i64 k, .int .i64 t, .int .i64 s, .bool r] := (A_3).past h4_; have P_4 : Blk w4_ (w.heap.size + 1) 36 #[.int .i64 a, .int .i64 b, .int .i64 c] := (P_3).past h4_; have Q_4 : Blk w4_ (w.heap.size + 1 + 1) 36 #[.int .i64 2, .int .i64 1, .int .i64 0] := (Q_3).past h4_; have S_4 := pt (S_3) h4_; clear A_3 P_3 Q_3 S_3 Ac0 Ac1 Ac2 Ac3 Al Pc0 Pc1 Pc2 Pl Qc0 Qc1 Qc2 Ql; have Ac0 := A_4.cellAt 0 rfl; have Ac1 := A_4.cellAt 1 rfl; have Ac2 := A_4.cellAt 2 rfl; have Ac3 := A_4.cellAt 3 rfl; have Al := A_4.lt; have Pc0 := P_4.cellAt 0 rfl; have Pc1 := P_4.cellAt 1 rfl; have Pc2 := P_4.cellAt 2 rfl; have Pl := P_4.lt; have Qc0 := Q_4.cellAt 0 rfl; have Qc1 := Q_4.cellAt 1 rfl; have Qc2 := Q_4.cellAt 2 rfl; have Ql := Q_4.lt; clear h4_)
    | (go_at_call 20; (with_reducible refine (H_l.out _).mono ?_); rintro e w5_ ⟨rfl, h5_⟩; have A_5 : Blk w5_ (w.heap.size) 23 #[.int .i64 k, .int .i64 t, .int .i64 s, .bool r] := (A_4).past h5_; have P_5 : Blk w5_ (w.heap.size + 1) 36 #[.int .i64 a, .int .i64 b, .int .i64 c] := (P_4).past h5_; have Q_5 : Blk w5_ (w.heap.size + 1 + 1) 36 #[.int .i64 2, .int .i64 1, .int .i64 0] := (Q_4).past h5_; have S_5 := pt (S_4) h5_; clear A_4 P_4 Q_4 S_4 Ac0 Ac1 Ac2 Ac3 Al Pc0 Pc1 Pc2 Pl Qc0 Qc1 Qc2 Ql; have Pc0 := P_5.cellAt 0 rfl; have Pc1 := P_5.cellAt 1 rfl; have Pc2 := P_5.cellAt 2 rfl; have Pl := P_5.lt; have Qc0 := Q_5.cellAt 0 rfl; have Qc1 := Q_5.cellAt 1 rfl; have Qc2 := Q_5.cellAt 2 rfl; have Ql := Q_5.lt; clear h5_)
    | ((with_reducible refine load_sub (T := 38) (x := .tmp 7) (o := 0) (vs := #[.int .i64 x1, .int .i64 x2, .int .i64 x3, .int .i64 x4, .int .i64 x5, .int .i64 x6, .int .i64 x7, .int .i64 x8, .int .i64 x9]) (show Blk _ (w5_.heap.size) 38 #[.int .i64 x1, .int .i64 x2, .int .i64 x3, .int .i64 x4, .int .i64 x5, .int .i64 x6, .int .i64 x7, .int .i64 x8, .int .i64 x9] from (Blk.newAt (by simp))) ?_ ?_ Tryd.underlying38 ?_ ?_ ?_); (focus rfl); (focus rfl); (focus rfl); (focus exact ren9_size))
    | (go_at_call 40; (with_reducible refine (H_a.out _).mono ?_); rintro e w6_ ⟨rfl, h6_⟩; have A_6 : Blk w6_ (w.heap.size) 23 #[.int .i64 k, .int .i64 t, .int .i64 s, .bool r] := (A_5.alloc).past h6_; have P_6 : Blk w6_ (w.heap.size + 1) 36 #[.int .i64 a, .int .i64 b, .int .i64 c] := (P_5.alloc).past h6_; have Q_6 : Blk w6_ (w.heap.size + 1 + 1) 36 #[.int .i64 2, .int .i64 1, .int .i64 0] := (Q_5.alloc).past h6_; have L_6 : Blk w6_ (w5_.heap.size) 38 #[.int .i64 x1, .int .i64 x2, .int .i64 x3, .int .i64 x4, .int .i64 x5, .int .i64 x6, .int .i64 x7, .int .i64 x8, .int .i64 x9] := (Blk.newAt (by simp)).past h6_; have S_6 := pt (pa (S_5)) h6_; clear A_5 P_5 Q_5 S_5 Pc0 Pc1 Pc2 Pl Qc0 Qc1 Qc2 Ql; have Pc0 := P_6.cellAt 0 rfl; have Pc1 := P_6.cellAt 1 rfl; have Pc2 := P_6.cellAt 2 rfl; have Pl := P_6.lt; have Qc0 := Q_6.cellAt 0 rfl; have Qc1 := Q_6.cellAt 1 rfl; have Qc2 := Q_6.cellAt 2 rfl; have Ql := Q_6.lt; clear h6_)
    | ((with_reducible refine load_sub (T := 38) (x := .tmp 8) (o := 0) (vs := #[.int .i64 y1, .int .i64 y2, .int .i64 y3, .int .i64 y4, .int .i64 y5, .int .i64 y6, .int .i64 y7, .int .i64 y8, .int .i64 y9]) (show Blk _ (w6_.heap.size) 38 #[.int .i64 y1, .int .i64 y2, .int .i64 y3, .int .i64 y4, .int .i64 y5, .int .i64 y6, .int .i64 y7, .int .i64 y8, .int .i64 y9] from (Blk.newAt (by simp))) ?_ ?_ Tryd.underlying38 ?_ ?_ ?_); (focus rfl); (focus rfl); (focus rfl); (focus exact ren9_size))
    | (go_at_call 40; (with_reducible refine (H_b.out _).mono ?_); rintro e w7_ ⟨rfl, h7_⟩; have A_7 : Blk w7_ (w.heap.size) 23 #[.int .i64 k, .int .i64 t, .int .i64 s, .bool r] := (A_6.alloc).past h7_; have P_7 : Blk w7_ (w.heap.size + 1) 36 #[.int .i64 a, .int .i64 b, .int .i64 c] := (P_6.alloc).past h7_; have Q_7 : Blk w7_ (w.heap.size + 1 + 1) 36 #[.int .i64 2, .int .i64 1, .int .i64 0] := (Q_6.alloc).past h7_; have L_7 : Blk w7_ (w5_.heap.size) 38 #[.int .i64 x1, .int .i64 x2, .int .i64 x3, .int .i64 x4, .int .i64 x5, .int .i64 x6, .int .i64 x7, .int .i64 x8, .int .i64 x9] := (L_6.alloc).past h7_; have M_7 : Blk w7_ (w6_.heap.size) 38 #[.int .i64 y1, .int .i64 y2, .int .i64 y3, .int .i64 y4, .int .i64 y5, .int .i64 y6, .int .i64 y7, .int .i64 y8, .int .i64 y9] := (Blk.newAt (by simp)).past h7_; have S_7 := pt (pa (S_6)) h7_; clear A_6 P_6 Q_6 L_6 S_6 Pc0 Pc1 Pc2 Pl Qc0 Qc1 Qc2 Ql; have Pc0 := P_7.cellAt 0 rfl; have Pc1 := P_7.cellAt 1 rfl; have Pc2 := P_7.cellAt 2 rfl; have Pl := P_7.lt; have Qc0 := Q_7.cellAt 0 rfl; have Qc1 := Q_7.cellAt 1 rfl; have Qc2 := Q_7.cellAt 2 rfl; have Ql := Q_7.lt; have Lc0 := L_7.cellAt 0 rfl; have Lc1 := L_7.cellAt 1 rfl; have Lc2 := L_7.cellAt 2 rfl; have Lc3 := L_7.cellAt 3 rfl; have Lc4 := L_7.cellAt 4 rfl; have Lc5 := L_7.cellAt 5 rfl; have Lc6 := L_7.cellAt 6 rfl; have Lc7 := L_7.cellAt 7 rfl; have Lc8 := L_7.cellAt 8 rfl; have Ll := L_7.lt; clear h7_))
  have A_8 : Blk (w7_.alloc (.cells #[.int .i64 z1, .int .i64 z2, .int .i64 z3, .int .i64 z4, .int .i64 z5, .int .i64 z6, .int .i64 z7, .int .i64 z8, .int .i64 z9] 38)) (w.heap.size) 23 #[.int .i64 k, .int .i64 t, .int .i64 s, .bool r] := (A_7.alloc)
  have P_8 : Blk (w7_.alloc (.cells #[.int .i64 z1, .int .i64 z2, .int .i64 z3, .int .i64 z4, .int .i64 z5, .int .i64 z6, .int .i64 z7, .int .i64 z8, .int .i64 z9] 38)) (w.heap.size + 1) 36 #[.int .i64 a, .int .i64 b, .int .i64 c] := (P_7.alloc)
  have Q_8 : Blk (w7_.alloc (.cells #[.int .i64 z1, .int .i64 z2, .int .i64 z3, .int .i64 z4, .int .i64 z5, .int .i64 z6, .int .i64 z7, .int .i64 z8, .int .i64 z9] 38)) (w.heap.size + 1 + 1) 36 #[.int .i64 2, .int .i64 1, .int .i64 0] := (Q_7.alloc)
  have L_8 : Blk (w7_.alloc (.cells #[.int .i64 z1, .int .i64 z2, .int .i64 z3, .int .i64 z4, .int .i64 z5, .int .i64 z6, .int .i64 z7, .int .i64 z8, .int .i64 z9] 38)) (w5_.heap.size) 38 #[.int .i64 x1, .int .i64 x2, .int .i64 x3, .int .i64 x4, .int .i64 x5, .int .i64 x6, .int .i64 x7, .int .i64 x8, .int .i64 x9] := (L_7.alloc)
  have M_8 : Blk (w7_.alloc (.cells #[.int .i64 z1, .int .i64 z2, .int .i64 z3, .int .i64 z4, .int .i64 z5, .int .i64 z6, .int .i64 z7, .int .i64 z8, .int .i64 z9] 38)) (w6_.heap.size) 38 #[.int .i64 y1, .int .i64 y2, .int .i64 y3, .int .i64 y4, .int .i64 y5, .int .i64 y6, .int .i64 y7, .int .i64 y8, .int .i64 y9] := (M_7.alloc)
  have B_8 : Blk (w7_.alloc (.cells #[.int .i64 z1, .int .i64 z2, .int .i64 z3, .int .i64 z4, .int .i64 z5, .int .i64 z6, .int .i64 z7, .int .i64 z8, .int .i64 z9] 38)) (w7_.heap.size) 38 #[.int .i64 z1, .int .i64 z2, .int .i64 z3, .int .i64 z4, .int .i64 z5, .int .i64 z6, .int .i64 z7, .int .i64 z8, .int .i64 z9] := (Blk.newAt (by simp))
  have S_8 := (show Below w.heap.size w (w7_.alloc (.cells #[.int .i64 z1, .int .i64 z2, .int .i64 z3, .int .i64 z4, .int .i64 z5, .int .i64 z6, .int .i64 z7, .int .i64 z8, .int .i64 z9] 38)) from pa (S_7))
  clear A_7 P_7 Q_7 L_7 M_7 S_7 Pc0 Pc1 Pc2 Pl Qc0 Qc1 Qc2 Ql Lc0 Lc1 Lc2 Lc3 Lc4 Lc5 Lc6 Lc7 Lc8 Ll
  generalize w7_.alloc (.cells #[.int .i64 z1, .int .i64 z2, .int .i64 z3, .int .i64 z4, .int .i64 z5, .int .i64 z6, .int .i64 z7, .int .i64 z8, .int .i64 z9] 38) = w8_ at *
  have Pc0 := P_8.cellAt 0 rfl
  have Pc1 := P_8.cellAt 1 rfl
  have Pc2 := P_8.cellAt 2 rfl
  have Pl := P_8.lt
  have Qc0 := Q_8.cellAt 0 rfl
  have Qc1 := Q_8.cellAt 1 rfl
  have Qc2 := Q_8.cellAt 2 rfl
  have Ql := Q_8.lt
  have Lc0 := L_8.cellAt 0 rfl
  have Lc1 := L_8.cellAt 1 rfl
  have Lc2 := L_8.cellAt 2 rfl
  have Lc3 := L_8.cellAt 3 rfl
  have Lc4 := L_8.cellAt 4 rfl
  have Lc5 := L_8.cellAt 5 rfl
  have Lc6 := L_8.cellAt 6 rfl
  have Lc7 := L_8.cellAt 7 rfl
  have Lc8 := L_8.cellAt 8 rfl
  have Ll := L_8.lt
  refine region_alloc_late (zs := #[.int .i64 0, .int .i64 0, .int .i64 0, .int .i64 0, .int .i64 0, .int .i64 0, .int .i64 0, .int .i64 0, .int .i64 0]) 17 follows_mixed (by kernel_rfl) rfl rfl (fun _ _ => by kernel_rfl) ?_
  simp only [List.take_succ_cons, List.take_zero, List.drop_succ_cons, List.drop_zero]
  repeat (first
    | ((with_reducible apply grow_plain); (focus rfl); (focus (intro w' hw; obtain ⟨hcq, hfq⟩ := bcell hw; go_simp; (first | done | rfl | (with_reducible exact H_c.out _)))); (simp only [Act.put, List.setIfInBounds_toArray, List.set_cons_succ, List.set_cons_zero]))
    | ((with_reducible apply grow_skip); (focus (first | (simp [Region.wanted, yielded]; done) | (simp [Region.wanted, yielded, undef]; done))); simp only [Act.put, List.setIfInBounds_toArray, List.set_cons_succ, List.set_cons_zero])
    | ((with_reducible apply grow_go); (focus (first | (simp [Region.wanted, yielded]; done) | (simp [Region.wanted, yielded, undef]; done))); (focus (intro w' hw; obtain ⟨hcq, hfq⟩ := bcell hw; go_simp; (first | done | rfl | (with_reducible exact H_c.out _)))); (simp only [Act.put, List.setIfInBounds_toArray, List.set_cons_succ, List.set_cons_zero])))
  refine grow_nil ?_
  refine ⟨#[.int .i64 z1, .int .i64 z2, .int .i64 z3, .int .i64 z4, .int .i64 z5, .int .i64 z6, .int .i64 z7, .int .i64 z8, .int .i64 z9], fun _ => rfl, fun _ => rfl, rfl, ren9_size, (by simp [Value.oneCell']; done), ?_⟩
  intro qb9_ w1 hgZ hbZ hb1
  simp only [Act.put, List.setIfInBounds_toArray, List.set_cons_succ, List.set_cons_zero]
  have A_9 : Blk w1 (w.heap.size) 23 #[.int .i64 k, .int .i64 t, .int .i64 s, .bool r] := A_8.past hb1
  have P_9 : Blk w1 (w.heap.size + 1) 36 #[.int .i64 a, .int .i64 b, .int .i64 c] := P_8.past hb1
  have Q_9 : Blk w1 (w.heap.size + 1 + 1) 36 #[.int .i64 2, .int .i64 1, .int .i64 0] := Q_8.past hb1
  have L_9 : Blk w1 (w5_.heap.size) 38 #[.int .i64 x1, .int .i64 x2, .int .i64 x3, .int .i64 x4, .int .i64 x5, .int .i64 x6, .int .i64 x7, .int .i64 x8, .int .i64 x9] := L_8.past hb1
  have M_9 : Blk w1 (w6_.heap.size) 38 #[.int .i64 y1, .int .i64 y2, .int .i64 y3, .int .i64 y4, .int .i64 y5, .int .i64 y6, .int .i64 y7, .int .i64 y8, .int .i64 y9] := M_8.past hb1
  have B_9 : Blk w1 (w7_.heap.size) 38 #[.int .i64 z1, .int .i64 z2, .int .i64 z3, .int .i64 z4, .int .i64 z5, .int .i64 z6, .int .i64 z7, .int .i64 z8, .int .i64 z9] := B_8.past hb1
  have Z_9 : Blk w1 qb9_ 38 #[.int .i64 z1, .int .i64 z2, .int .i64 z3, .int .i64 z4, .int .i64 z5, .int .i64 z6, .int .i64 z7, .int .i64 z8, .int .i64 z9] := hbZ
  have ge_Z : w.heap.size ≤ qb9_ := by have := (S_8).size; omega
  have S_9 := pt (S_8) hb1
  clear A_8 P_8 Q_8 L_8 M_8 B_8 S_8 Pc0 Pc1 Pc2 Pl Qc0 Qc1 Qc2 Ql Lc0 Lc1 Lc2 Lc3 Lc4 Lc5 Lc6 Lc7 Lc8 Ll
  clear hb1 hbZ hgZ
  obtain ⟨w9_, rfl⟩ : ∃ v, v = w1 := ⟨_, rfl⟩
  have Pc0 := P_9.cellAt 0 rfl
  have Pc1 := P_9.cellAt 1 rfl
  have Pc2 := P_9.cellAt 2 rfl
  have Pl := P_9.lt
  have Qc0 := Q_9.cellAt 0 rfl
  have Qc1 := Q_9.cellAt 1 rfl
  have Qc2 := Q_9.cellAt 2 rfl
  have Ql := Q_9.lt
  have Bc0 := B_9.cellAt 0 rfl
  have Bc1 := B_9.cellAt 1 rfl
  have Bc2 := B_9.cellAt 2 rfl
  have Bc3 := B_9.cellAt 3 rfl
  have Bc4 := B_9.cellAt 4 rfl
  have Bc5 := B_9.cellAt 5 rfl
  have Bc6 := B_9.cellAt 6 rfl
  have Bc7 := B_9.cellAt 7 rfl
  have Bc8 := B_9.cellAt 8 rfl
  have Bl := B_9.lt
  have Zc0 := Z_9.cellAt 0 rfl
  have Zc1 := Z_9.cellAt 1 rfl
  have Zc2 := Z_9.cellAt 2 rfl
  have Zc3 := Z_9.cellAt 3 rfl
  have Zc4 := Z_9.cellAt 4 rfl
  have Zc5 := Z_9.cellAt 5 rfl
  have Zc6 := Z_9.cellAt 6 rfl
  have Zc7 := Z_9.cellAt 7 rfl
  have Zc8 := Z_9.cellAt 8 rfl
  have Zl := Z_9.lt
  go_wp2_with (first
    | ((with_reducible refine load_sub (T := 38) (x := .tmp 8) (o := 0) (vs := #[.int .i64 y1, .int .i64 y2, .int .i64 y3, .int .i64 y4, .int .i64 y5, .int .i64 y6, .int .i64 y7, .int .i64 y8, .int .i64 y9]) (show Blk _ (w6_.heap.size) 38 #[.int .i64 y1, .int .i64 y2, .int .i64 y3, .int .i64 y4, .int .i64 y5, .int .i64 y6, .int .i64 y7, .int .i64 y8, .int .i64 y9] from (M_9)) ?_ ?_ Tryd.underlying38 ?_ ?_ ?_); (focus rfl); (focus rfl); (focus rfl); (focus exact ren9_size))
    | (go_at_call 30; (with_reducible refine (H_s.out _).mono ?_); rintro e w10_ ⟨rfl, h10_⟩; have A_10 : Blk w10_ (w.heap.size) 23 #[.int .i64 k, .int .i64 t, .int .i64 s, .bool r] := (A_9).past h10_; have P_10 : Blk w10_ (w.heap.size + 1) 36 #[.int .i64 a, .int .i64 b, .int .i64 c] := (P_9).past h10_; have Q_10 : Blk w10_ (w.heap.size + 1 + 1) 36 #[.int .i64 2, .int .i64 1, .int .i64 0] := (Q_9).past h10_; have L_10 : Blk w10_ (w5_.heap.size) 38 #[.int .i64 x1, .int .i64 x2, .int .i64 x3, .int .i64 x4, .int .i64 x5, .int .i64 x6, .int .i64 x7, .int .i64 x8, .int .i64 x9] := (L_9).past h10_; have M_10 : Blk w10_ (w6_.heap.size) 38 #[.int .i64 y1, .int .i64 y2, .int .i64 y3, .int .i64 y4, .int .i64 y5, .int .i64 y6, .int .i64 y7, .int .i64 y8, .int .i64 y9] := (M_9).past h10_; have B_10 : Blk w10_ (w7_.heap.size) 38 #[.int .i64 z1, .int .i64 z2, .int .i64 z3, .int .i64 z4, .int .i64 z5, .int .i64 z6, .int .i64 z7, .int .i64 z8, .int .i64 z9] := (B_9).past h10_; have Z_10 : Blk w10_ (qb9_) 38 #[.int .i64 z1, .int .i64 z2, .int .i64 z3, .int .i64 z4, .int .i64 z5, .int .i64 z6, .int .i64 z7, .int .i64 z8, .int .i64 z9] := (Z_9).past h10_; have S_10 := pt (S_9) h10_; clear A_9 P_9 Q_9 L_9 M_9 B_9 Z_9 S_9 Pc0 Pc1 Pc2 Pl Qc0 Qc1 Qc2 Ql Bc0 Bc1 Bc2 Bc3 Bc4 Bc5 Bc6 Bc7 Bc8 Bl Zc0 Zc1 Zc2 Zc3 Zc4 Zc5 Zc6 Zc7 Zc8 Zl; have Pc0 := P_10.cellAt 0 rfl; have Pc1 := P_10.cellAt 1 rfl; have Pc2 := P_10.cellAt 2 rfl; have Pl := P_10.lt; clear h10_)
    | ((with_reducible refine load_sub (T := 38) (x := .tmp 8) (o := 0) (vs := #[.int .i64 y1, .int .i64 y2, .int .i64 y3, .int .i64 y4, .int .i64 y5, .int .i64 y6, .int .i64 y7, .int .i64 y8, .int .i64 y9]) (show Blk _ (w6_.heap.size) 38 #[.int .i64 y1, .int .i64 y2, .int .i64 y3, .int .i64 y4, .int .i64 y5, .int .i64 y6, .int .i64 y7, .int .i64 y8, .int .i64 y9] from (M_10)) ?_ ?_ Tryd.underlying38 ?_ ?_ ?_); (focus rfl); (focus rfl); (focus rfl); (focus exact ren9_size))
    | (go_at_call 31; (with_reducible refine (H_z.out _).mono ?_); rintro e w11_ ⟨rfl, h11_⟩; have A_11 : Blk w11_ (w.heap.size) 23 #[.int .i64 k, .int .i64 t, .int .i64 s, .bool r] := (A_10).past h11_; have P_11 : Blk w11_ (w.heap.size + 1) 36 #[.int .i64 a, .int .i64 b, .int .i64 c] := (P_10).past h11_; have Q_11 : Blk w11_ (w.heap.size + 1 + 1) 36 #[.int .i64 2, .int .i64 1, .int .i64 0] := (Q_10).past h11_; have L_11 : Blk w11_ (w5_.heap.size) 38 #[.int .i64 x1, .int .i64 x2, .int .i64 x3, .int .i64 x4, .int .i64 x5, .int .i64 x6, .int .i64 x7, .int .i64 x8, .int .i64 x9] := (L_10).past h11_; have M_11 : Blk w11_ (w6_.heap.size) 38 #[.int .i64 y1, .int .i64 y2, .int .i64 y3, .int .i64 y4, .int .i64 y5, .int .i64 y6, .int .i64 y7, .int .i64 y8, .int .i64 y9] := (M_10).past h11_; have B_11 : Blk w11_ (w7_.heap.size) 38 #[.int .i64 z1, .int .i64 z2, .int .i64 z3, .int .i64 z4, .int .i64 z5, .int .i64 z6, .int .i64 z7, .int .i64 z8, .int .i64 z9] := (B_10).past h11_; have Z_11 : Blk w11_ (qb9_) 38 #[.int .i64 z1, .int .i64 z2, .int .i64 z3, .int .i64 z4, .int .i64 z5, .int .i64 z6, .int .i64 z7, .int .i64 z8, .int .i64 z9] := (Z_10).past h11_; have S_11 := pt (S_10) h11_; clear A_10 P_10 Q_10 L_10 M_10 B_10 Z_10 S_10 Pc0 Pc1 Pc2 Pl; have Pc0 := P_11.cellAt 0 rfl; have Pc1 := P_11.cellAt 1 rfl; have Pc2 := P_11.cellAt 2 rfl; have Pl := P_11.lt; clear h11_)
    | (go_at_call 22; (with_reducible refine (H_n.out _).mono ?_); rintro e w12_ ⟨rfl, h12_⟩; have A_12 : Blk w12_ (w.heap.size) 23 #[.int .i64 k, .int .i64 t, .int .i64 s, .bool r] := (A_11.alloc).past h12_; have P_12 : Blk w12_ (w.heap.size + 1) 36 #[.int .i64 a, .int .i64 b, .int .i64 c] := (P_11.alloc).past h12_; have Q_12 : Blk w12_ (w.heap.size + 1 + 1) 36 #[.int .i64 2, .int .i64 1, .int .i64 0] := (Q_11.alloc).past h12_; have L_12 : Blk w12_ (w5_.heap.size) 38 #[.int .i64 x1, .int .i64 x2, .int .i64 x3, .int .i64 x4, .int .i64 x5, .int .i64 x6, .int .i64 x7, .int .i64 x8, .int .i64 x9] := (L_11.alloc).past h12_; have M_12 : Blk w12_ (w6_.heap.size) 38 #[.int .i64 y1, .int .i64 y2, .int .i64 y3, .int .i64 y4, .int .i64 y5, .int .i64 y6, .int .i64 y7, .int .i64 y8, .int .i64 y9] := (M_11.alloc).past h12_; have B_12 : Blk w12_ (w7_.heap.size) 38 #[.int .i64 z1, .int .i64 z2, .int .i64 z3, .int .i64 z4, .int .i64 z5, .int .i64 z6, .int .i64 z7, .int .i64 z8, .int .i64 z9] := (B_11.alloc).past h12_; have Z_12 : Blk w12_ (qb9_) 38 #[.int .i64 z1, .int .i64 z2, .int .i64 z3, .int .i64 z4, .int .i64 z5, .int .i64 z6, .int .i64 z7, .int .i64 z8, .int .i64 z9] := (Z_11.alloc).past h12_; have W_12 : Blk w12_ (w11_.heap.size) 48 #[.int .i64 g1, .int .i64 g2] := (Blk.newAt (by simp)).past h12_; have S_12 := pt (pa (S_11)) h12_; clear A_11 P_11 Q_11 L_11 M_11 B_11 Z_11 S_11 Pc0 Pc1 Pc2 Pl; have Pc0 := P_12.cellAt 0 rfl; have Pc1 := P_12.cellAt 1 rfl; have Pc2 := P_12.cellAt 2 rfl; have Pl := P_12.lt; have Lc0 := L_12.cellAt 0 rfl; have Lc1 := L_12.cellAt 1 rfl; have Lc2 := L_12.cellAt 2 rfl; have Lc3 := L_12.cellAt 3 rfl; have Lc4 := L_12.cellAt 4 rfl; have Lc5 := L_12.cellAt 5 rfl; have Lc6 := L_12.cellAt 6 rfl; have Lc7 := L_12.cellAt 7 rfl; have Lc8 := L_12.cellAt 8 rfl; have Ll := L_12.lt; clear h12_)
    | (go_at_call 44; (with_reducible refine (H_f.out _).mono ?_); rintro e w13_ ⟨rfl, h13_⟩; have A_13 : Blk w13_ (w.heap.size) 23 #[.int .i64 k, .int .i64 t, .int .i64 s, .bool r] := (A_12).past h13_; have P_13 : Blk w13_ (w.heap.size + 1) 36 #[.int .i64 a, .int .i64 b, .int .i64 c] := (P_12).past h13_; have Q_13 : Blk w13_ (w.heap.size + 1 + 1) 36 #[.int .i64 2, .int .i64 1, .int .i64 0] := (Q_12).past h13_; have L_13 : Blk w13_ (w5_.heap.size) 38 #[.int .i64 x1, .int .i64 x2, .int .i64 x3, .int .i64 x4, .int .i64 x5, .int .i64 x6, .int .i64 x7, .int .i64 x8, .int .i64 x9] := (L_12).past h13_; have M_13 : Blk w13_ (w6_.heap.size) 38 #[.int .i64 y1, .int .i64 y2, .int .i64 y3, .int .i64 y4, .int .i64 y5, .int .i64 y6, .int .i64 y7, .int .i64 y8, .int .i64 y9] := (M_12).past h13_; have B_13 : Blk w13_ (w7_.heap.size) 38 #[.int .i64 z1, .int .i64 z2, .int .i64 z3, .int .i64 z4, .int .i64 z5, .int .i64 z6, .int .i64 z7, .int .i64 z8, .int .i64 z9] := (B_12).past h13_; have Z_13 : Blk w13_ (qb9_) 38 #[.int .i64 z1, .int .i64 z2, .int .i64 z3, .int .i64 z4, .int .i64 z5, .int .i64 z6, .int .i64 z7, .int .i64 z8, .int .i64 z9] := (Z_12).past h13_; have W_13 : Blk w13_ (w11_.heap.size) 48 #[.int .i64 g1, .int .i64 g2] := (W_12).past h13_; have S_13 := pt (S_12) h13_; clear A_12 P_12 Q_12 L_12 M_12 B_12 Z_12 W_12 S_12 Pc0 Pc1 Pc2 Pl Lc0 Lc1 Lc2 Lc3 Lc4 Lc5 Lc6 Lc7 Lc8 Ll; clear h13_)
    | (go_at_call 27; (with_reducible refine (H_g.out _).mono ?_); rintro e w14_ ⟨rfl, h14_⟩; have A_14 : Blk w14_ (w.heap.size) 23 #[.int .i64 k, .int .i64 t, .int .i64 s, .bool r] := (A_13).past h14_; have P_14 : Blk w14_ (w.heap.size + 1) 36 #[.int .i64 a, .int .i64 b, .int .i64 c] := (P_13).past h14_; have Q_14 : Blk w14_ (w.heap.size + 1 + 1) 36 #[.int .i64 2, .int .i64 1, .int .i64 0] := (Q_13).past h14_; have L_14 : Blk w14_ (w5_.heap.size) 38 #[.int .i64 x1, .int .i64 x2, .int .i64 x3, .int .i64 x4, .int .i64 x5, .int .i64 x6, .int .i64 x7, .int .i64 x8, .int .i64 x9] := (L_13).past h14_; have M_14 : Blk w14_ (w6_.heap.size) 38 #[.int .i64 y1, .int .i64 y2, .int .i64 y3, .int .i64 y4, .int .i64 y5, .int .i64 y6, .int .i64 y7, .int .i64 y8, .int .i64 y9] := (M_13).past h14_; have B_14 : Blk w14_ (w7_.heap.size) 38 #[.int .i64 z1, .int .i64 z2, .int .i64 z3, .int .i64 z4, .int .i64 z5, .int .i64 z6, .int .i64 z7, .int .i64 z8, .int .i64 z9] := (B_13).past h14_; have Z_14 : Blk w14_ (qb9_) 38 #[.int .i64 z1, .int .i64 z2, .int .i64 z3, .int .i64 z4, .int .i64 z5, .int .i64 z6, .int .i64 z7, .int .i64 z8, .int .i64 z9] := (Z_13).past h14_; have W_14 : Blk w14_ (w11_.heap.size) 48 #[.int .i64 g1, .int .i64 g2] := (W_13).past h14_; have S_14 := pt (S_13) h14_; clear A_13 P_13 Q_13 L_13 M_13 B_13 Z_13 W_13 S_13; clear h14_)
    | ((with_reducible refine load_sub (T := 38) (x := .tmp 8) (o := 0) (vs := #[.int .i64 y1, .int .i64 y2, .int .i64 y3, .int .i64 y4, .int .i64 y5, .int .i64 y6, .int .i64 y7, .int .i64 y8, .int .i64 y9]) (show Blk _ (w6_.heap.size) 38 #[.int .i64 y1, .int .i64 y2, .int .i64 y3, .int .i64 y4, .int .i64 y5, .int .i64 y6, .int .i64 y7, .int .i64 y8, .int .i64 y9] from (M_14)) ?_ ?_ Tryd.underlying38 ?_ ?_ ?_); (focus rfl); (focus rfl); (focus rfl); (focus exact ren9_size))
    | (go_at_call 40; (with_reducible refine (H_o.out _).mono ?_); rintro e w15_ ⟨rfl, h15_⟩; have A_15 : Blk w15_ (w.heap.size) 23 #[.int .i64 k, .int .i64 t, .int .i64 s, .bool r] := (A_14).past h15_; have P_15 : Blk w15_ (w.heap.size + 1) 36 #[.int .i64 a, .int .i64 b, .int .i64 c] := (P_14).past h15_; have Q_15 : Blk w15_ (w.heap.size + 1 + 1) 36 #[.int .i64 2, .int .i64 1, .int .i64 0] := (Q_14).past h15_; have L_15 : Blk w15_ (w5_.heap.size) 38 #[.int .i64 x1, .int .i64 x2, .int .i64 x3, .int .i64 x4, .int .i64 x5, .int .i64 x6, .int .i64 x7, .int .i64 x8, .int .i64 x9] := (L_14).past h15_; have M_15 : Blk w15_ (w6_.heap.size) 38 #[.int .i64 y1, .int .i64 y2, .int .i64 y3, .int .i64 y4, .int .i64 y5, .int .i64 y6, .int .i64 y7, .int .i64 y8, .int .i64 y9] := (M_14).past h15_; have B_15 : Blk w15_ (w7_.heap.size) 38 #[.int .i64 z1, .int .i64 z2, .int .i64 z3, .int .i64 z4, .int .i64 z5, .int .i64 z6, .int .i64 z7, .int .i64 z8, .int .i64 z9] := (B_14).past h15_; have Z_15 : Blk w15_ (qb9_) 38 #[.int .i64 z1, .int .i64 z2, .int .i64 z3, .int .i64 z4, .int .i64 z5, .int .i64 z6, .int .i64 z7, .int .i64 z8, .int .i64 z9] := (Z_14).past h15_; have W_15 : Blk w15_ (w11_.heap.size) 48 #[.int .i64 g1, .int .i64 g2] := (W_14).past h15_; have S_15 := pt (S_14) h15_; clear A_14 P_14 Q_14 L_14 M_14 B_14 Z_14 W_14 S_14; clear h15_)
    | ((with_reducible refine load_sub (T := 38) (x := .tmp 21) (o := 0) (vs := #[.int .i64 o1, .int .i64 o2, .int .i64 o3, .int .i64 o4, .int .i64 o5, .int .i64 o6, .int .i64 o7, .int .i64 o8, .int .i64 o9]) (show Blk _ (w15_.heap.size) 38 #[.int .i64 o1, .int .i64 o2, .int .i64 o3, .int .i64 o4, .int .i64 o5, .int .i64 o6, .int .i64 o7, .int .i64 o8, .int .i64 o9] from (Blk.newAt (by simp))) ?_ ?_ Tryd.underlying38 ?_ ?_ ?_); (focus rfl); (focus rfl); (focus rfl); (focus exact ren9_size))
    | (go_at_call 31; (with_reducible refine (H_y.out _).mono ?_); rintro e w16_ ⟨rfl, h16_⟩; have A_16 : Blk w16_ (w.heap.size) 23 #[.int .i64 k, .int .i64 t, .int .i64 s, .bool r] := (A_15.alloc).past h16_; have P_16 : Blk w16_ (w.heap.size + 1) 36 #[.int .i64 a, .int .i64 b, .int .i64 c] := (P_15.alloc).past h16_; have Q_16 : Blk w16_ (w.heap.size + 1 + 1) 36 #[.int .i64 2, .int .i64 1, .int .i64 0] := (Q_15.alloc).past h16_; have L_16 : Blk w16_ (w5_.heap.size) 38 #[.int .i64 x1, .int .i64 x2, .int .i64 x3, .int .i64 x4, .int .i64 x5, .int .i64 x6, .int .i64 x7, .int .i64 x8, .int .i64 x9] := (L_15.alloc).past h16_; have M_16 : Blk w16_ (w6_.heap.size) 38 #[.int .i64 y1, .int .i64 y2, .int .i64 y3, .int .i64 y4, .int .i64 y5, .int .i64 y6, .int .i64 y7, .int .i64 y8, .int .i64 y9] := (M_15.alloc).past h16_; have B_16 : Blk w16_ (w7_.heap.size) 38 #[.int .i64 z1, .int .i64 z2, .int .i64 z3, .int .i64 z4, .int .i64 z5, .int .i64 z6, .int .i64 z7, .int .i64 z8, .int .i64 z9] := (B_15.alloc).past h16_; have Z_16 : Blk w16_ (qb9_) 38 #[.int .i64 z1, .int .i64 z2, .int .i64 z3, .int .i64 z4, .int .i64 z5, .int .i64 z6, .int .i64 z7, .int .i64 z8, .int .i64 z9] := (Z_15.alloc).past h16_; have W_16 : Blk w16_ (w11_.heap.size) 48 #[.int .i64 g1, .int .i64 g2] := (W_15.alloc).past h16_; have O_16 : Blk w16_ (w15_.heap.size) 38 #[.int .i64 o1, .int .i64 o2, .int .i64 o3, .int .i64 o4, .int .i64 o5, .int .i64 o6, .int .i64 o7, .int .i64 o8, .int .i64 o9] := (Blk.newAt (by simp)).past h16_; have S_16 := pt (pa (S_15)) h16_; clear A_15 P_15 Q_15 L_15 M_15 B_15 Z_15 W_15 S_15; have Wc0 := W_16.cellAt 0 rfl; have Wc1 := W_16.cellAt 1 rfl; have Wl := W_16.lt; clear h16_)
    | (go_at_call 23; (with_reducible refine (H_t.out _ (HT.out _ (pa (S_16)))).mono ?_); rintro e w17_ ⟨rfl, h17_⟩; have A_17 : Blk w17_ (w.heap.size) 23 #[.int .i64 k, .int .i64 t, .int .i64 s, .bool r] := (A_16.alloc).past h17_; have P_17 : Blk w17_ (w.heap.size + 1) 36 #[.int .i64 a, .int .i64 b, .int .i64 c] := (P_16.alloc).past h17_; have Q_17 : Blk w17_ (w.heap.size + 1 + 1) 36 #[.int .i64 2, .int .i64 1, .int .i64 0] := (Q_16.alloc).past h17_; have L_17 : Blk w17_ (w5_.heap.size) 38 #[.int .i64 x1, .int .i64 x2, .int .i64 x3, .int .i64 x4, .int .i64 x5, .int .i64 x6, .int .i64 x7, .int .i64 x8, .int .i64 x9] := (L_16.alloc).past h17_; have M_17 : Blk w17_ (w6_.heap.size) 38 #[.int .i64 y1, .int .i64 y2, .int .i64 y3, .int .i64 y4, .int .i64 y5, .int .i64 y6, .int .i64 y7, .int .i64 y8, .int .i64 y9] := (M_16.alloc).past h17_; have B_17 : Blk w17_ (w7_.heap.size) 38 #[.int .i64 z1, .int .i64 z2, .int .i64 z3, .int .i64 z4, .int .i64 z5, .int .i64 z6, .int .i64 z7, .int .i64 z8, .int .i64 z9] := (B_16.alloc).past h17_; have Z_17 : Blk w17_ (qb9_) 38 #[.int .i64 z1, .int .i64 z2, .int .i64 z3, .int .i64 z4, .int .i64 z5, .int .i64 z6, .int .i64 z7, .int .i64 z8, .int .i64 z9] := (Z_16.alloc).past h17_; have W_17 : Blk w17_ (w11_.heap.size) 48 #[.int .i64 g1, .int .i64 g2] := (W_16.alloc).past h17_; have O_17 : Blk w17_ (w15_.heap.size) 38 #[.int .i64 o1, .int .i64 o2, .int .i64 o3, .int .i64 o4, .int .i64 o5, .int .i64 o6, .int .i64 o7, .int .i64 o8, .int .i64 o9] := (O_16.alloc).past h17_; have Y_17 : Blk w17_ (w16_.heap.size) 48 #[.int .i64 p1, .int .i64 p2] := (Blk.newAt (by simp)).past h17_; have S_17 := pt (pa (S_16)) h17_; clear A_16 P_16 Q_16 L_16 M_16 B_16 Z_16 W_16 O_16 S_16 Wc0 Wc1 Wl; have Wc0 := W_17.cellAt 0 rfl; have Wc1 := W_17.cellAt 1 rfl; have Wl := W_17.lt; clear h17_)
    | (go_at_call 23; (with_reducible refine (H_u.out _ (HT.out _ (S_17))).mono ?_); rintro e w18_ ⟨rfl, h18_⟩; have A_18 : Blk w18_ (w.heap.size) 23 #[.int .i64 k, .int .i64 t, .int .i64 s, .bool r] := (A_17).past h18_; have P_18 : Blk w18_ (w.heap.size + 1) 36 #[.int .i64 a, .int .i64 b, .int .i64 c] := (P_17).past h18_; have Q_18 : Blk w18_ (w.heap.size + 1 + 1) 36 #[.int .i64 2, .int .i64 1, .int .i64 0] := (Q_17).past h18_; have L_18 : Blk w18_ (w5_.heap.size) 38 #[.int .i64 x1, .int .i64 x2, .int .i64 x3, .int .i64 x4, .int .i64 x5, .int .i64 x6, .int .i64 x7, .int .i64 x8, .int .i64 x9] := (L_17).past h18_; have M_18 : Blk w18_ (w6_.heap.size) 38 #[.int .i64 y1, .int .i64 y2, .int .i64 y3, .int .i64 y4, .int .i64 y5, .int .i64 y6, .int .i64 y7, .int .i64 y8, .int .i64 y9] := (M_17).past h18_; have B_18 : Blk w18_ (w7_.heap.size) 38 #[.int .i64 z1, .int .i64 z2, .int .i64 z3, .int .i64 z4, .int .i64 z5, .int .i64 z6, .int .i64 z7, .int .i64 z8, .int .i64 z9] := (B_17).past h18_; have Z_18 : Blk w18_ (qb9_) 38 #[.int .i64 z1, .int .i64 z2, .int .i64 z3, .int .i64 z4, .int .i64 z5, .int .i64 z6, .int .i64 z7, .int .i64 z8, .int .i64 z9] := (Z_17).past h18_; have W_18 : Blk w18_ (w11_.heap.size) 48 #[.int .i64 g1, .int .i64 g2] := (W_17).past h18_; have O_18 : Blk w18_ (w15_.heap.size) 38 #[.int .i64 o1, .int .i64 o2, .int .i64 o3, .int .i64 o4, .int .i64 o5, .int .i64 o6, .int .i64 o7, .int .i64 o8, .int .i64 o9] := (O_17).past h18_; have Y_18 : Blk w18_ (w16_.heap.size) 48 #[.int .i64 p1, .int .i64 p2] := (Y_17).past h18_; have S_18 := pt (S_17) h18_; clear A_17 P_17 Q_17 L_17 M_17 B_17 Z_17 W_17 O_17 Y_17 S_17 Wc0 Wc1 Wl; clear h18_)
    | (go_at_call 32; (with_reducible refine (HWI.out _).mono ?_); rintro e w' ⟨rfl, rfl⟩)
    | (go_at_call 29; (with_reducible refine (HM.out _).mono ?_); rintro e w' ⟨rfl, rfl⟩))
  go_ret
  exact ⟨rfl, by repeat (first | exact S_18 | refine pa ?_)⟩

end Go.Proofs.YtnhcamokcggnkaaDoor
end

section
namespace Go.Proofs.YtnhcamokcggnkaaDoor
open Go.RowKit

def NineS (m : Int) (l : L3) : Prop := (Sm m l.x.a ∧ Sm m l.x.b ∧ Sm m l.x.c) ∧ (Sm m l.y.a ∧ Sm m l.y.b ∧ Sm m l.y.c) ∧ (Sm m l.z.a ∧ Sm m l.z.b ∧ Sm m l.z.c)
theorem renS {m : Int} {l : L3} (h : NineS m l) {p : V3} (hp : isPerm p = true) : NineS m (renV l p) := by
  obtain ⟨⟨h1, h2, h3⟩, ⟨h4, h5, h6⟩, ⟨h7, h8, h9⟩⟩ := h
  rcases isPerm_cases hp with rfl | rfl | rfl | rfl | rfl | rfl <;>
    simp [NineS, renV, voltV, rowAt, negV] <;> unfold Sm at * <;> omega
theorem nineE {l : L3} (h : NineS 10000 l) : lineE l.x.a l.x.b l.x.c l.y.a l.y.b l.y.c l.z.a l.z.b l.z.c = 0 :=
  lineE_of h.1.1 h.1.2.1 h.1.2.2 h.2.1.1 h.2.1.2.1 h.2.1.2.2 h.2.2.1 h.2.2.2.1 h.2.2.2.2
theorem seqTwo (p : V3) : seqP p = 1 ∨ seqP p = -1 := by unfold seqP; split <;> simp
theorem ph_small {p q : Int} (hp : Sm 1000000 p) (hq : Sm 1000000 q) : phE p q = 0 := by
  unfold Sm at hp hq
  simp [phE, withinB, unlessV, hp, hq]
theorem add_on {p : V3} (hp : isPerm p = true) (x : Int) : (x + addP (compP p ⟨1, 2, 0⟩)) % 12 = ((x + addP p) % 12 - 4 * seqP p) % 12 := by
  rcases isPerm_cases hp with rfl | rfl | rfl | rfl | rfl | rfl <;> simp [addP, seqP, evenP, compP] <;> omega
theorem small_ph {l : L3} (h : NineS 10000 l) : Sm 1000000 (l.x.a - l.x.b) ∧ Sm 1000000 (l.x.c - l.x.b) := by
  obtain ⟨⟨h1, h2, h3⟩, _⟩ := h
  unfold Sm at *; omega
/-- What lines with hours are worth: contracts. -/
theorem hours_of {l : L3} (h : NineS 10000 l) {u : Int} (hh : hoursV (phP l.x) (phQ l.x) = some u) :
    ∀ w, TwIn w → Calls Tryd.prog 23 #[.agg #[.int .i64 (l.x.a - l.x.b), .int .i64 (l.x.c - l.x.b)]] w fun e w' => e = .returned (.tuple #[.int .i64 u, .int .i64 0]) ∧ Below w.heap.size w w' := fun w hT => by
  have q := HoursOf_any (l.x.a - l.x.b) (l.x.c - l.x.b) (ph_small (small_ph h).1 (small_ph h).2) w hT
  unfold phP phQ at hh
  rw [hh, hoursE_of hh] at q
  exact q
theorem seq_of {l : L3} (h : NineS 10000 l) {u : Int} (hh : hoursV (phP l.x) (phQ l.x) = some u) {p : V3} (hs : seqV l = seqP p) :
    ∀ w, Calls Tryd.prog 30 #[.agg #[.int .i64 l.x.a, .int .i64 l.x.b, .int .i64 l.x.c, .int .i64 l.y.a, .int .i64 l.y.b, .int .i64 l.y.c, .int .i64 l.z.a, .int .i64 l.z.b, .int .i64 l.z.c]] w fun e w' => e = .returned (.tuple #[.int .i64 (seqP p), .int .i64 0]) ∧ Below w.heap.size w w' := fun w => by
  have hz : phB (l.x.a - l.x.b) (l.x.c - l.x.b) 0 0 = false := by
    cases hb : phB (l.x.a - l.x.b) (l.x.c - l.x.b) 0 0
    · rfl
    · have := (phB_iff _ _ _ _).1 hb
      unfold phP phQ at hh
      injection this with i1 i2
      rw [i1, i2] at hh
      cases hh
  have q := SequenceOf_ok _ _ _ _ _ _ _ _ _ (nineE h) hz w
  rw [show seqV (⟨⟨l.x.a, l.x.b, l.x.c⟩, ⟨l.y.a, l.y.b, l.y.c⟩, ⟨l.z.a, l.z.b, l.z.c⟩⟩ : L3) = seqP p from hs] at q
  rcases seqTwo p with e | e
  · rw [e] at q ⊢; exact q
  · rw [e] at q ⊢; exact q
theorem square_is {l : L3} (h : NineS 10000 l) :
    ∀ w, Calls Tryd.prog 22 #[.agg #[.int .i64 (l.x.a - l.x.b), .int .i64 (l.x.c - l.x.b)]] w fun e w' => e = .returned (.tuple #[.int .i64 (sqV (l.x.a - l.x.b) (l.x.c - l.x.b)), .int .i64 0]) ∧ Below w.heap.size w w' := fun w => by
  have q := SquareOf_any (l.x.a - l.x.b) (l.x.c - l.x.b) w
  rw [ph_small (small_ph h).1 (small_ph h).2, if_pos rfl] at q
  exact q

set_option maxHeartbeats 4000000 in
theorem ren_walk (k t s : Int) (r : Bool) (a b c d e f : Int) (w : World) (hT : TwIn w) (hP : PatIn w) :
    Calls Tryd.prog 9 #[.agg #[.int .i64 k, .int .i64 t, .int .i64 s, .bool r], .agg #[.int .i64 a, .int .i64 b, .int .i64 c], .agg #[.int .i64 d, .int .i64 e, .int .i64 f]] w fun z w' => z = .returned (.bool true) ∧ Below w.heap.size w w' := by
  have hw := refWindingErr_any k t s r
  by_cases hE : windE k t s = 0
  · rw [hE] at hw
    have hi1 := refIsPermutation_any a b c
    have hi2 := refIsPermutation_any d e f
    cases hp : isPerm ⟨a, b, c⟩
    · rw [hp] at hi1
      exact ren_bad_p k t s r a b c d e f 1 w hT hP hw hi1 (by decide) (by decide)
    · rw [hp] at hi1
      cases hq : isPerm ⟨d, e, f⟩
      · rw [hq] at hi2
        exact ren_bad_q k t s r a b c d e f 1 w hT hP hw hi1 hi2 (by decide) (by decide)
      · rw [hq] at hi2
        have hu := windE_ok r hE
        obtain ⟨s1, s2, s3, s4, s5, s6, s7, s8, s9⟩ := linesV_sm hu
        have up : ∀ {x : Int}, Sm 4000 x → Sm 10000 x := fun h => by unfold Sm at *; omega
        have hN : NineS 10000 (linesV ⟨k, t, s, r⟩) := ⟨⟨up s1, up s2, up s3⟩, ⟨up s4, up s5, up s6⟩, ⟨up s7, up s8, up s9⟩⟩
        clear s1 s2 s3 s4 s5 s6 s7 s8 s9 up
        have hA := renS hN hp
        have hO := renS hA (p := ⟨1, 2, 0⟩) (by decide)
        have hh := ren_hours hu hp
        have hho : hoursV (phP (renV (renV (linesV ⟨k, t, s, r⟩) ⟨a, b, c⟩) ⟨1, 2, 0⟩).x) (phQ (renV (renV (linesV ⟨k, t, s, r⟩) ⟨a, b, c⟩) ⟨1, 2, 0⟩).x) = some (((whV k s r + addP ⟨a, b, c⟩) % 12 - 4 * seqP ⟨a, b, c⟩) % 12) := by
          rw [ren_ren _ hp (by decide), ren_hours hu (comp_perm hp (by decide)), add_on hp]
        have hsq := ren_sq hu hp
        have hs := ren_seq hu hp
        have hrr := ren_ren (linesV ⟨k, t, s, r⟩) hp hq
        have hcp := comp_perm hp hq
        have hl := refLines_any k t s r hu _ rfl
        have ha := Renamed_ok _ _ _ _ _ _ _ _ _ a b c hp (nineE hN) (renV (linesV ⟨k, t, s, r⟩) ⟨a, b, c⟩) rfl
        have hb := Renamed_ok _ _ _ _ _ _ _ _ _ d e f hq (nineE hA) (renV (renV (linesV ⟨k, t, s, r⟩) ⟨a, b, c⟩) ⟨d, e, f⟩) rfl
        have hc := Renamed_ok _ _ _ _ _ _ _ _ _ _ _ _ hcp (nineE hN) (renV (renV (linesV ⟨k, t, s, r⟩) ⟨a, b, c⟩) ⟨d, e, f⟩) hrr.symm
        have ho := Renamed_ok _ _ _ _ _ _ _ _ _ 1 2 0 (by decide) (nineE hA) (renV (renV (linesV ⟨k, t, s, r⟩) ⟨a, b, c⟩) ⟨1, 2, 0⟩) rfl
        have hz := PhasorOf_ok _ _ _ _ _ _ _ _ _ (nineE hA)
        have hy := PhasorOf_ok _ _ _ _ _ _ _ _ _ (nineE hO)
        have hf := refPhasor3_any _ _ _ hN.1.1 hN.1.2.1 hN.1.2.2
        have hg := refSquare_any _ _ (small_ph hN).1 (small_ph hN).2
        unfold phP phQ at hsq
        rw [← hsq] at hg
        have hn := square_is hA
        have hss := seq_of hA hh hs
        have htt := hours_of hO hho
        have huu := hours_of hA hh
        clear hh hho hsq hs hrr hcp hN hA hO
        generalize linesV ⟨k, t, s, r⟩ = L at *
        have hu0 : 0 ≤ (whV k s r + addP ⟨a, b, c⟩) % 12 ∧ (whV k s r + addP ⟨a, b, c⟩) % 12 < 12 := by omega
        dsimp only at hb hc ha hss htt huu
        generalize (whV k s r + addP ⟨a, b, c⟩) % 12 = u at *
        have hwi : withinB u 0 11 = true := by simp [withinB]; omega
        have hsv := seqTwo ⟨a, b, c⟩
        have hm := refMod12_any (u - 4 * seqP ⟨a, b, c⟩) (by unfold Sm; omega)
        have k4 : IntKind.i64.wrap (4 * seqP ⟨a, b, c⟩) = 4 * seqP ⟨a, b, c⟩ := IntWalk.i64_in _ (by omega)
        have ku : IntKind.i64.wrap (u - 4 * seqP ⟨a, b, c⟩) = u - 4 * seqP ⟨a, b, c⟩ := IntWalk.i64_in _ (by omega)
        have ab : 0 ≤ a ∧ a ≤ 2 := by
          rcases isPerm_cases hp with h | h | h | h | h | h <;> injection h <;> omega
        have ka : IntKind.i64.wrap (a + 1) = a + 1 := IntWalk.i64_in _ (by omega)
        have kt : (a + 1).tmod 3 = (a + 1) % 3 := Int.tmod_eq_emod_of_nonneg (by omega)
        cases hev : evenP ⟨a, b, c⟩
        · have kev : (b == (a + 1).tmod 3) = false := by rw [kt]; exact hev
          have hs1 : seqP ⟨a, b, c⟩ = -1 := by unfold seqP; rw [hev]; rfl
          have ks1 : (seqP ⟨a, b, c⟩ == 1) = false := by rw [hs1]; rfl
          have ks2 : (seqP ⟨a, b, c⟩ != -1) = false := by rw [hs1]; rfl
          clear hev hs1 hsv
          rcases isPerm_cases hq with h | h | h | h | h | h
          · injection h with e1 e2 e3
            subst e1 e2 e3
            exact ren_012_false k t s r a b c _ _ _ _ _ _ _ _ _ _ _ _ _ _ _ _ _ _ _ _ _ _ _ _ _ _ _ _ _ _ _ _ _ _ _ _ (seqP ⟨a, b, c⟩) _ _ _ _ _ _ _ _ u _ _ w hT hP hw hi1 hi2 hl ha hb hc hss hz hn hf hg ho hy htt huu hwi hm ka kev ks1 ks2 k4 ku
          · injection h with e1 e2 e3
            subst e1 e2 e3
            exact ren_021_false k t s r a b c _ _ _ _ _ _ _ _ _ _ _ _ _ _ _ _ _ _ _ _ _ _ _ _ _ _ _ _ _ _ _ _ _ _ _ _ (seqP ⟨a, b, c⟩) _ _ _ _ _ _ _ _ u _ _ w hT hP hw hi1 hi2 hl ha hb hc hss hz hn hf hg ho hy htt huu hwi hm ka kev ks1 ks2 k4 ku
          · injection h with e1 e2 e3
            subst e1 e2 e3
            exact ren_102_false k t s r a b c _ _ _ _ _ _ _ _ _ _ _ _ _ _ _ _ _ _ _ _ _ _ _ _ _ _ _ _ _ _ _ _ _ _ _ _ (seqP ⟨a, b, c⟩) _ _ _ _ _ _ _ _ u _ _ w hT hP hw hi1 hi2 hl ha hb hc hss hz hn hf hg ho hy htt huu hwi hm ka kev ks1 ks2 k4 ku
          · injection h with e1 e2 e3
            subst e1 e2 e3
            exact ren_120_false k t s r a b c _ _ _ _ _ _ _ _ _ _ _ _ _ _ _ _ _ _ _ _ _ _ _ _ _ _ _ _ _ _ _ _ _ _ _ _ (seqP ⟨a, b, c⟩) _ _ _ _ _ _ _ _ u _ _ w hT hP hw hi1 hi2 hl ha hb hc hss hz hn hf hg ho hy htt huu hwi hm ka kev ks1 ks2 k4 ku
          · injection h with e1 e2 e3
            subst e1 e2 e3
            exact ren_201_false k t s r a b c _ _ _ _ _ _ _ _ _ _ _ _ _ _ _ _ _ _ _ _ _ _ _ _ _ _ _ _ _ _ _ _ _ _ _ _ (seqP ⟨a, b, c⟩) _ _ _ _ _ _ _ _ u _ _ w hT hP hw hi1 hi2 hl ha hb hc hss hz hn hf hg ho hy htt huu hwi hm ka kev ks1 ks2 k4 ku
          · injection h with e1 e2 e3
            subst e1 e2 e3
            exact ren_210_false k t s r a b c _ _ _ _ _ _ _ _ _ _ _ _ _ _ _ _ _ _ _ _ _ _ _ _ _ _ _ _ _ _ _ _ _ _ _ _ (seqP ⟨a, b, c⟩) _ _ _ _ _ _ _ _ u _ _ w hT hP hw hi1 hi2 hl ha hb hc hss hz hn hf hg ho hy htt huu hwi hm ka kev ks1 ks2 k4 ku
        · have kev : (b == (a + 1).tmod 3) = true := by rw [kt]; exact hev
          have hs1 : seqP ⟨a, b, c⟩ = 1 := by unfold seqP; rw [hev]; rfl
          have ks1 : (seqP ⟨a, b, c⟩ == 1) = true := by rw [hs1]; rfl
          have ks2 : (seqP ⟨a, b, c⟩ != -1) = true := by rw [hs1]; rfl
          clear hev hs1 hsv
          rcases isPerm_cases hq with h | h | h | h | h | h
          · injection h with e1 e2 e3
            subst e1 e2 e3
            exact ren_012_true k t s r a b c _ _ _ _ _ _ _ _ _ _ _ _ _ _ _ _ _ _ _ _ _ _ _ _ _ _ _ _ _ _ _ _ _ _ _ _ (seqP ⟨a, b, c⟩) _ _ _ _ _ _ _ _ u _ _ w hT hP hw hi1 hi2 hl ha hb hc hss hz hn hf hg ho hy htt huu hwi hm ka kev ks1 ks2 k4 ku
          · injection h with e1 e2 e3
            subst e1 e2 e3
            exact ren_021_true k t s r a b c _ _ _ _ _ _ _ _ _ _ _ _ _ _ _ _ _ _ _ _ _ _ _ _ _ _ _ _ _ _ _ _ _ _ _ _ (seqP ⟨a, b, c⟩) _ _ _ _ _ _ _ _ u _ _ w hT hP hw hi1 hi2 hl ha hb hc hss hz hn hf hg ho hy htt huu hwi hm ka kev ks1 ks2 k4 ku
          · injection h with e1 e2 e3
            subst e1 e2 e3
            exact ren_102_true k t s r a b c _ _ _ _ _ _ _ _ _ _ _ _ _ _ _ _ _ _ _ _ _ _ _ _ _ _ _ _ _ _ _ _ _ _ _ _ (seqP ⟨a, b, c⟩) _ _ _ _ _ _ _ _ u _ _ w hT hP hw hi1 hi2 hl ha hb hc hss hz hn hf hg ho hy htt huu hwi hm ka kev ks1 ks2 k4 ku
          · injection h with e1 e2 e3
            subst e1 e2 e3
            exact ren_120_true k t s r a b c _ _ _ _ _ _ _ _ _ _ _ _ _ _ _ _ _ _ _ _ _ _ _ _ _ _ _ _ _ _ _ _ _ _ _ _ (seqP ⟨a, b, c⟩) _ _ _ _ _ _ _ _ u _ _ w hT hP hw hi1 hi2 hl ha hb hc hss hz hn hf hg ho hy htt huu hwi hm ka kev ks1 ks2 k4 ku
          · injection h with e1 e2 e3
            subst e1 e2 e3
            exact ren_201_true k t s r a b c _ _ _ _ _ _ _ _ _ _ _ _ _ _ _ _ _ _ _ _ _ _ _ _ _ _ _ _ _ _ _ _ _ _ _ _ (seqP ⟨a, b, c⟩) _ _ _ _ _ _ _ _ u _ _ w hT hP hw hi1 hi2 hl ha hb hc hss hz hn hf hg ho hy htt huu hwi hm ka kev ks1 ks2 k4 ku
          · injection h with e1 e2 e3
            subst e1 e2 e3
            exact ren_210_true k t s r a b c _ _ _ _ _ _ _ _ _ _ _ _ _ _ _ _ _ _ _ _ _ _ _ _ _ _ _ _ _ _ _ _ _ _ _ _ (seqP ⟨a, b, c⟩) _ _ _ _ _ _ _ _ u _ _ w hT hP hw hi1 hi2 hl ha hb hc hss hz hn hf hg ho hy htt huu hwi hm ka kev ks1 ks2 k4 ku
  · have h0 : (windE k t s == 0) = false := by simpa using hE
    have h1 : (windE k t s != 0) = true := by simpa using hE
    exact ren_bad_w k t s r a b c d e f _ w hT hP hw h0 h1

end Go.Proofs.YtnhcamokcggnkaaDoor
end
