/- The walk of the law on lines: it returns true. Printed by a program (gen_linelaw.py). -/
import Derived.Test.YtnhcamokcggnkaaDoorHUIsP
import Derived.Test.YtnhcamokcggnkaaDoorH0Seq
import Derived.Test.YtnhcamokcggnkaaDoorGYEql
import Derived.Test.YtnhcamokcggnkaaDoorGJAwake
namespace Go.Proofs.YtnhcamokcggnkaaDoor
open Go.RowKit
attribute [local go_sem ↓] Go.wp_at_zero Go.wp_at_succ
attribute [local go_sem ↓ high] apiph_eql apiph_neq apil_eql

theorem phB_same (p q : Int) : phB p q p q = true := by simp [phB]
theorem SequenceOf_any (x1 x2 x3 x4 x5 x6 x7 x8 x9 : Int) (he : lineE x1 x2 x3 x4 x5 x6 x7 x8 x9 = 0) (w : World) :
    Calls Tryd.prog 30 #[.agg #[.int .i64 x1, .int .i64 x2, .int .i64 x3, .int .i64 x4, .int .i64 x5, .int .i64 x6, .int .i64 x7, .int .i64 x8, .int .i64 x9]] w fun e w' => e = .returned (.tuple #[.int .i64 (if phB (x1 - x2) (x3 - x2) 0 0 = true then 0 else seqV ⟨⟨x1, x2, x3⟩, ⟨x4, x5, x6⟩, ⟨x7, x8, x9⟩⟩), .int .i64 (if phB (x1 - x2) (x3 - x2) 0 0 = true then 11 else unlessV (seqV ⟨⟨x1, x2, x3⟩, ⟨x4, x5, x6⟩, ⟨x7, x8, x9⟩⟩ != 0) 12)]) ∧ Below w.heap.size w w' := by
  cases hz : phB (x1 - x2) (x3 - x2) 0 0
  · rw [if_neg (by decide), if_neg (by decide)]
    exact SequenceOf_ok x1 x2 x3 x4 x5 x6 x7 x8 x9 he hz w
  · rw [if_pos rfl, if_pos rfl]
    exact SequenceOf_zero x1 x2 x3 x4 x5 x6 x7 x8 x9 he hz w

set_option maxHeartbeats 16000000 in
set_option maxRecDepth 100000 in
theorem lines_bad (x1 x2 x3 x4 x5 x6 x7 x8 x9 a b c : Int) (E : Int) (he : lineE x1 x2 x3 x4 x5 x6 x7 x8 x9 = E) (h0 : (E == 0) = false) (w : World) (hT : TwIn w) (hP : PatIn w) :
    Calls Tryd.prog 8 #[.agg #[.int .i64 x1, .int .i64 x2, .int .i64 x3, .int .i64 x4, .int .i64 x5, .int .i64 x6, .int .i64 x7, .int .i64 x8, .int .i64 x9], .agg #[.int .i64 a, .int .i64 b, .int .i64 c]] w fun e w' => e = .returned (.bool true) ∧ Below w.heap.size w w' := by
  have HT := Lib.hid (fun w' (h : Below w.heap.size w w') => hT.below h)
  have HP := Lib.hid (fun w' (h : Below w.heap.size w w') => hP.below h)
  clear hT hP
  have HL := Lib.hid (refLinesErr_any x1 x2 x3 x4 x5 x6 x7 x8 x9)
  have HC := Lib.hid (checkLines_any x1 x2 x3 x4 x5 x6 x7 x8 x9)
  have HI := Lib.hid (refIsPermutation_any a b c)
  have hne : lineE x1 x2 x3 x4 x5 x6 x7 x8 x9 ≠ 0 := fun h => by rw [he] at h; subst h; cases h0
  have hr : renE (lineE x1 x2 x3 x4 x5 x6 x7 x8 x9) (isPerm ⟨a, b, c⟩) = lineE x1 x2 x3 x4 x5 x6 x7 x8 x9 := by unfold renE; simp [firstV, hne]
  have HA := Lib.hid (PhasorOf_err x1 x2 x3 x4 x5 x6 x7 x8 x9 hne)
  have HS := Lib.hid (SequenceOf_err x1 x2 x3 x4 x5 x6 x7 x8 x9 hne)
  have HR := Lib.hid (Renamed_err x1 x2 x3 x4 x5 x6 x7 x8 x9 a b c (by rw [hr]; exact hne))
  rw [hr] at HR
  rw [he] at HA HS HR HL HC
  have h0' : ¬ E = 0 := fun h => by subst h; cases h0
  have g0 : (E != 0) = true := by simp [h0']
  have t0 := phB_same 0 0
  clear hne he hr
  go_enter Tryd.func8, Tryd.ntmps8
  go_wp2_with (first
    | (go_at_call 11; (with_reducible refine (awake_any _ (HT.out _ (pa (pa (pr)))) (HP.out _ (pa (pa (pr))))).mono ?_); rintro e w1_ ⟨rfl, h1_⟩; have L_1 : Blk w1_ (w.heap.size) 38 #[.int .i64 x1, .int .i64 x2, .int .i64 x3, .int .i64 x4, .int .i64 x5, .int .i64 x6, .int .i64 x7, .int .i64 x8, .int .i64 x9] := (Blk.newAt (by simp)).alloc.past h1_; have P_1 : Blk w1_ (w.heap.size + 1) 36 #[.int .i64 a, .int .i64 b, .int .i64 c] := (Blk.newAt (by simp)).past h1_; have S_1 := pt (pa (pa (pr))) h1_; have Pc0 := P_1.cellAt 0 rfl; have Pc1 := P_1.cellAt 1 rfl; have Pc2 := P_1.cellAt 2 rfl; have Pl := P_1.lt; clear h1_)
    | ((with_reducible refine load_sub (T := 38) (x := .tmp 2) (o := 0) (vs := #[.int .i64 x1, .int .i64 x2, .int .i64 x3, .int .i64 x4, .int .i64 x5, .int .i64 x6, .int .i64 x7, .int .i64 x8, .int .i64 x9]) (show Blk _ (w.heap.size) 38 #[.int .i64 x1, .int .i64 x2, .int .i64 x3, .int .i64 x4, .int .i64 x5, .int .i64 x6, .int .i64 x7, .int .i64 x8, .int .i64 x9] from (L_1)) ?_ ?_ Tryd.underlying38 ?_ ?_ ?_); (focus rfl); (focus rfl); (focus rfl); (focus exact apiLines_size))
    | (go_at_call 31; (with_reducible refine (HA.out _).mono ?_); rintro e w2_ ⟨rfl, h2_⟩; have L_2 : Blk w2_ (w.heap.size) 38 #[.int .i64 x1, .int .i64 x2, .int .i64 x3, .int .i64 x4, .int .i64 x5, .int .i64 x6, .int .i64 x7, .int .i64 x8, .int .i64 x9] := (L_1).past h2_; have P_2 : Blk w2_ (w.heap.size + 1) 36 #[.int .i64 a, .int .i64 b, .int .i64 c] := (P_1).past h2_; have S_2 := pt (S_1) h2_; clear L_1 P_1 S_1 Pc0 Pc1 Pc2 Pl; have Pc0 := P_2.cellAt 0 rfl; have Pc1 := P_2.cellAt 1 rfl; have Pc2 := P_2.cellAt 2 rfl; have Pl := P_2.lt; clear h2_)
    | ((with_reducible refine load_sub (T := 38) (x := .tmp 2) (o := 0) (vs := #[.int .i64 x1, .int .i64 x2, .int .i64 x3, .int .i64 x4, .int .i64 x5, .int .i64 x6, .int .i64 x7, .int .i64 x8, .int .i64 x9]) (show Blk _ (w.heap.size) 38 #[.int .i64 x1, .int .i64 x2, .int .i64 x3, .int .i64 x4, .int .i64 x5, .int .i64 x6, .int .i64 x7, .int .i64 x8, .int .i64 x9] from (L_2.alloc)) ?_ ?_ Tryd.underlying38 ?_ ?_ ?_); (focus rfl); (focus rfl); (focus rfl); (focus exact apiLines_size))
    | (go_at_call 30; (with_reducible refine (HS.out _).mono ?_); rintro e w3_ ⟨rfl, h3_⟩; have L_3 : Blk w3_ (w.heap.size) 38 #[.int .i64 x1, .int .i64 x2, .int .i64 x3, .int .i64 x4, .int .i64 x5, .int .i64 x6, .int .i64 x7, .int .i64 x8, .int .i64 x9] := (L_2.alloc).past h3_; have P_3 : Blk w3_ (w.heap.size + 1) 36 #[.int .i64 a, .int .i64 b, .int .i64 c] := (P_2.alloc).past h3_; have Z_3 : Blk w3_ (w2_.heap.size) 48 #[.int .i64 0, .int .i64 0] := (Blk.newAt (by simp)).past h3_; have S_3 := pt (pa (S_2)) h3_; clear L_2 P_2 S_2 Pc0 Pc1 Pc2 Pl; have Pc0 := P_3.cellAt 0 rfl; have Pc1 := P_3.cellAt 1 rfl; have Pc2 := P_3.cellAt 2 rfl; have Pl := P_3.lt; clear h3_)
    | ((with_reducible refine load_sub (T := 38) (x := .tmp 2) (o := 0) (vs := #[.int .i64 x1, .int .i64 x2, .int .i64 x3, .int .i64 x4, .int .i64 x5, .int .i64 x6, .int .i64 x7, .int .i64 x8, .int .i64 x9]) (show Blk _ (w.heap.size) 38 #[.int .i64 x1, .int .i64 x2, .int .i64 x3, .int .i64 x4, .int .i64 x5, .int .i64 x6, .int .i64 x7, .int .i64 x8, .int .i64 x9] from (L_3)) ?_ ?_ Tryd.underlying38 ?_ ?_ ?_); (focus rfl); (focus rfl); (focus rfl); (focus exact apiLines_size))
    | (go_at_call 40; (with_reducible refine (HR.out _).mono ?_); rintro e w4_ ⟨rfl, h4_⟩; have L_4 : Blk w4_ (w.heap.size) 38 #[.int .i64 x1, .int .i64 x2, .int .i64 x3, .int .i64 x4, .int .i64 x5, .int .i64 x6, .int .i64 x7, .int .i64 x8, .int .i64 x9] := (L_3).past h4_; have P_4 : Blk w4_ (w.heap.size + 1) 36 #[.int .i64 a, .int .i64 b, .int .i64 c] := (P_3).past h4_; have Z_4 : Blk w4_ (w2_.heap.size) 48 #[.int .i64 0, .int .i64 0] := (Z_3).past h4_; have S_4 := pt (S_3) h4_; clear L_3 P_3 Z_3 S_3 Pc0 Pc1 Pc2 Pl; have Pc0 := P_4.cellAt 0 rfl; have Pc1 := P_4.cellAt 1 rfl; have Pc2 := P_4.cellAt 2 rfl; have Pl := P_4.lt; clear h4_)
    | ((with_reducible refine load_sub (T := 38) (x := .tmp 2) (o := 0) (vs := #[.int .i64 x1, .int .i64 x2, .int .i64 x3, .int .i64 x4, .int .i64 x5, .int .i64 x6, .int .i64 x7, .int .i64 x8, .int .i64 x9]) (show Blk _ (w.heap.size) 38 #[.int .i64 x1, .int .i64 x2, .int .i64 x3, .int .i64 x4, .int .i64 x5, .int .i64 x6, .int .i64 x7, .int .i64 x8, .int .i64 x9] from (L_4.alloc)) ?_ ?_ Tryd.underlying38 ?_ ?_ ?_); (focus rfl); (focus rfl); (focus rfl); (focus exact apiLines_size))
    | (go_at_call 41; (with_reducible refine (HL.out _).mono ?_); rintro e w5_ ⟨rfl, h5_⟩; have L_5 : Blk w5_ (w.heap.size) 38 #[.int .i64 x1, .int .i64 x2, .int .i64 x3, .int .i64 x4, .int .i64 x5, .int .i64 x6, .int .i64 x7, .int .i64 x8, .int .i64 x9] := (L_4.alloc).past h5_; have P_5 : Blk w5_ (w.heap.size + 1) 36 #[.int .i64 a, .int .i64 b, .int .i64 c] := (P_4.alloc).past h5_; have Z_5 : Blk w5_ (w2_.heap.size) 48 #[.int .i64 0, .int .i64 0] := (Z_4.alloc).past h5_; have M_5 : Blk w5_ (w4_.heap.size) 38 #[.int .i64 0, .int .i64 0, .int .i64 0, .int .i64 0, .int .i64 0, .int .i64 0, .int .i64 0, .int .i64 0, .int .i64 0] := (Blk.newAt (by simp)).past h5_; have S_5 := pt (pa (S_4)) h5_; clear L_4 P_4 Z_4 S_4 Pc0 Pc1 Pc2 Pl; have Pc0 := P_5.cellAt 0 rfl; have Pc1 := P_5.cellAt 1 rfl; have Pc2 := P_5.cellAt 2 rfl; have Pl := P_5.lt; clear h5_)
    | ((with_reducible refine load_sub (T := 38) (x := .tmp 2) (o := 0) (vs := #[.int .i64 x1, .int .i64 x2, .int .i64 x3, .int .i64 x4, .int .i64 x5, .int .i64 x6, .int .i64 x7, .int .i64 x8, .int .i64 x9]) (show Blk _ (w.heap.size) 38 #[.int .i64 x1, .int .i64 x2, .int .i64 x3, .int .i64 x4, .int .i64 x5, .int .i64 x6, .int .i64 x7, .int .i64 x8, .int .i64 x9] from (L_5)) ?_ ?_ Tryd.underlying38 ?_ ?_ ?_); (focus rfl); (focus rfl); (focus rfl); (focus exact apiLines_size))
    | (go_at_call 42; (with_reducible refine (HC.out _).mono ?_); rintro e w6_ ⟨rfl, h6_⟩; have L_6 : Blk w6_ (w.heap.size) 38 #[.int .i64 x1, .int .i64 x2, .int .i64 x3, .int .i64 x4, .int .i64 x5, .int .i64 x6, .int .i64 x7, .int .i64 x8, .int .i64 x9] := (L_5).past h6_; have P_6 : Blk w6_ (w.heap.size + 1) 36 #[.int .i64 a, .int .i64 b, .int .i64 c] := (P_5).past h6_; have Z_6 : Blk w6_ (w2_.heap.size) 48 #[.int .i64 0, .int .i64 0] := (Z_5).past h6_; have M_6 : Blk w6_ (w4_.heap.size) 38 #[.int .i64 0, .int .i64 0, .int .i64 0, .int .i64 0, .int .i64 0, .int .i64 0, .int .i64 0, .int .i64 0, .int .i64 0] := (M_5).past h6_; have S_6 := pt (S_5) h6_; clear L_5 P_5 Z_5 M_5 S_5 Pc0 Pc1 Pc2 Pl; have Lc0 := L_6.cellAt 0 rfl; have Lc1 := L_6.cellAt 1 rfl; have Lc2 := L_6.cellAt 2 rfl; have Lc3 := L_6.cellAt 3 rfl; have Lc4 := L_6.cellAt 4 rfl; have Lc5 := L_6.cellAt 5 rfl; have Lc6 := L_6.cellAt 6 rfl; have Lc7 := L_6.cellAt 7 rfl; have Lc8 := L_6.cellAt 8 rfl; have Ll := L_6.lt; have Pc0 := P_6.cellAt 0 rfl; have Pc1 := P_6.cellAt 1 rfl; have Pc2 := P_6.cellAt 2 rfl; have Pl := P_6.lt; have Zc0 := Z_6.cellAt 0 rfl; have Zc1 := Z_6.cellAt 1 rfl; have Zl := Z_6.lt; have Mc0 := M_6.cellAt 0 rfl; have Mc1 := M_6.cellAt 1 rfl; have Mc2 := M_6.cellAt 2 rfl; have Mc3 := M_6.cellAt 3 rfl; have Mc4 := M_6.cellAt 4 rfl; have Mc5 := M_6.cellAt 5 rfl; have Mc6 := M_6.cellAt 6 rfl; have Mc7 := M_6.cellAt 7 rfl; have Mc8 := M_6.cellAt 8 rfl; have Ml := M_6.lt; clear h6_))
  go_ret
  exact ⟨rfl, by repeat (first | exact S_6 | refine pa ?_)⟩

set_option maxHeartbeats 16000000 in
set_option maxRecDepth 100000 in
theorem lines_off (x1 x2 x3 x4 x5 x6 x7 x8 x9 a b c : Int) (he : lineE x1 x2 x3 x4 x5 x6 x7 x8 x9 = 0) (hp : isPerm ⟨a, b, c⟩ = false) (w : World) (hT : TwIn w) (hP : PatIn w) :
    Calls Tryd.prog 8 #[.agg #[.int .i64 x1, .int .i64 x2, .int .i64 x3, .int .i64 x4, .int .i64 x5, .int .i64 x6, .int .i64 x7, .int .i64 x8, .int .i64 x9], .agg #[.int .i64 a, .int .i64 b, .int .i64 c]] w fun e w' => e = .returned (.bool true) ∧ Below w.heap.size w w' := by
  have HT := Lib.hid (fun w' (h : Below w.heap.size w w') => hT.below h)
  have HP := Lib.hid (fun w' (h : Below w.heap.size w w') => hP.below h)
  clear hT hP
  have HL := Lib.hid (refLinesErr_any x1 x2 x3 x4 x5 x6 x7 x8 x9)
  have HC := Lib.hid (checkLines_any x1 x2 x3 x4 x5 x6 x7 x8 x9)
  have HI := Lib.hid (refIsPermutation_any a b c)
  have HA := Lib.hid (PhasorOf_ok x1 x2 x3 x4 x5 x6 x7 x8 x9 he)
  have HS := Lib.hid (SequenceOf_any x1 x2 x3 x4 x5 x6 x7 x8 x9 he)
  have RS := Lib.hid (refSequence_any x1 x2 x3 x4 x5 x6 x7 x8 x9 he)
  obtain ⟨s1, s2, s3, _⟩ := lineE_sm he
  have RP := Lib.hid (refPhasor3_any x1 x2 x3 s1 s2 s3)
  have hr : renE (lineE x1 x2 x3 x4 x5 x6 x7 x8 x9) (isPerm ⟨a, b, c⟩) = 3 := by unfold renE; rw [he, hp]; rfl
  have HR := Lib.hid (Renamed_err x1 x2 x3 x4 x5 x6 x7 x8 x9 a b c (by rw [hr]; decide))
  rw [hr] at HR
  rw [he] at HL HC
  rw [hp] at HI
  clear he hr hp s1 s2 s3
  generalize (if phB (x1 - x2) (x3 - x2) 0 0 = true then 0 else seqV ⟨⟨x1, x2, x3⟩, ⟨x4, x5, x6⟩, ⟨x7, x8, x9⟩⟩) = sv at *
  generalize (if phB (x1 - x2) (x3 - x2) 0 0 = true then 11 else unlessV (seqV ⟨⟨x1, x2, x3⟩, ⟨x4, x5, x6⟩, ⟨x7, x8, x9⟩⟩ != 0) 12) = se at *
  have t1 := phB_same (x1 - x2) (x3 - x2)
  generalize x1 - x2 = p at *
  generalize x3 - x2 = q at *
  go_enter Tryd.func8, Tryd.ntmps8
  go_wp2_with (first
    | (go_at_call 11; (with_reducible refine (awake_any _ (HT.out _ (pa (pa (pr)))) (HP.out _ (pa (pa (pr))))).mono ?_); rintro e w1_ ⟨rfl, h1_⟩; have L_1 : Blk w1_ (w.heap.size) 38 #[.int .i64 x1, .int .i64 x2, .int .i64 x3, .int .i64 x4, .int .i64 x5, .int .i64 x6, .int .i64 x7, .int .i64 x8, .int .i64 x9] := (Blk.newAt (by simp)).alloc.past h1_; have P_1 : Blk w1_ (w.heap.size + 1) 36 #[.int .i64 a, .int .i64 b, .int .i64 c] := (Blk.newAt (by simp)).past h1_; have S_1 := pt (pa (pa (pr))) h1_; have Pc0 := P_1.cellAt 0 rfl; have Pc1 := P_1.cellAt 1 rfl; have Pc2 := P_1.cellAt 2 rfl; have Pl := P_1.lt; clear h1_)
    | ((with_reducible refine load_sub (T := 38) (x := .tmp 2) (o := 0) (vs := #[.int .i64 x1, .int .i64 x2, .int .i64 x3, .int .i64 x4, .int .i64 x5, .int .i64 x6, .int .i64 x7, .int .i64 x8, .int .i64 x9]) (show Blk _ (w.heap.size) 38 #[.int .i64 x1, .int .i64 x2, .int .i64 x3, .int .i64 x4, .int .i64 x5, .int .i64 x6, .int .i64 x7, .int .i64 x8, .int .i64 x9] from (L_1)) ?_ ?_ Tryd.underlying38 ?_ ?_ ?_); (focus rfl); (focus rfl); (focus rfl); (focus exact apiLines_size))
    | (go_at_call 31; (with_reducible refine (HA.out _).mono ?_); rintro e w2_ ⟨rfl, h2_⟩; have L_2 : Blk w2_ (w.heap.size) 38 #[.int .i64 x1, .int .i64 x2, .int .i64 x3, .int .i64 x4, .int .i64 x5, .int .i64 x6, .int .i64 x7, .int .i64 x8, .int .i64 x9] := (L_1).past h2_; have P_2 : Blk w2_ (w.heap.size + 1) 36 #[.int .i64 a, .int .i64 b, .int .i64 c] := (P_1).past h2_; have S_2 := pt (S_1) h2_; clear L_1 P_1 S_1 Pc0 Pc1 Pc2 Pl; have Pc0 := P_2.cellAt 0 rfl; have Pc1 := P_2.cellAt 1 rfl; have Pc2 := P_2.cellAt 2 rfl; have Pl := P_2.lt; clear h2_)
    | ((with_reducible refine load_sub (T := 38) (x := .tmp 2) (o := 0) (vs := #[.int .i64 x1, .int .i64 x2, .int .i64 x3, .int .i64 x4, .int .i64 x5, .int .i64 x6, .int .i64 x7, .int .i64 x8, .int .i64 x9]) (show Blk _ (w.heap.size) 38 #[.int .i64 x1, .int .i64 x2, .int .i64 x3, .int .i64 x4, .int .i64 x5, .int .i64 x6, .int .i64 x7, .int .i64 x8, .int .i64 x9] from (L_2.alloc)) ?_ ?_ Tryd.underlying38 ?_ ?_ ?_); (focus rfl); (focus rfl); (focus rfl); (focus exact apiLines_size))
    | (go_at_call 30; (with_reducible refine (HS.out _).mono ?_); rintro e w3_ ⟨rfl, h3_⟩; have L_3 : Blk w3_ (w.heap.size) 38 #[.int .i64 x1, .int .i64 x2, .int .i64 x3, .int .i64 x4, .int .i64 x5, .int .i64 x6, .int .i64 x7, .int .i64 x8, .int .i64 x9] := (L_2.alloc).past h3_; have P_3 : Blk w3_ (w.heap.size + 1) 36 #[.int .i64 a, .int .i64 b, .int .i64 c] := (P_2.alloc).past h3_; have Z_3 : Blk w3_ (w2_.heap.size) 48 #[.int .i64 p, .int .i64 q] := (Blk.newAt (by simp)).past h3_; have S_3 := pt (pa (S_2)) h3_; clear L_2 P_2 S_2 Pc0 Pc1 Pc2 Pl; have Pc0 := P_3.cellAt 0 rfl; have Pc1 := P_3.cellAt 1 rfl; have Pc2 := P_3.cellAt 2 rfl; have Pl := P_3.lt; clear h3_)
    | ((with_reducible refine load_sub (T := 38) (x := .tmp 2) (o := 0) (vs := #[.int .i64 x1, .int .i64 x2, .int .i64 x3, .int .i64 x4, .int .i64 x5, .int .i64 x6, .int .i64 x7, .int .i64 x8, .int .i64 x9]) (show Blk _ (w.heap.size) 38 #[.int .i64 x1, .int .i64 x2, .int .i64 x3, .int .i64 x4, .int .i64 x5, .int .i64 x6, .int .i64 x7, .int .i64 x8, .int .i64 x9] from (L_3)) ?_ ?_ Tryd.underlying38 ?_ ?_ ?_); (focus rfl); (focus rfl); (focus rfl); (focus exact apiLines_size))
    | (go_at_call 40; (with_reducible refine (HR.out _).mono ?_); rintro e w4_ ⟨rfl, h4_⟩; have L_4 : Blk w4_ (w.heap.size) 38 #[.int .i64 x1, .int .i64 x2, .int .i64 x3, .int .i64 x4, .int .i64 x5, .int .i64 x6, .int .i64 x7, .int .i64 x8, .int .i64 x9] := (L_3).past h4_; have P_4 : Blk w4_ (w.heap.size + 1) 36 #[.int .i64 a, .int .i64 b, .int .i64 c] := (P_3).past h4_; have Z_4 : Blk w4_ (w2_.heap.size) 48 #[.int .i64 p, .int .i64 q] := (Z_3).past h4_; have S_4 := pt (S_3) h4_; clear L_3 P_3 Z_3 S_3 Pc0 Pc1 Pc2 Pl; have Pc0 := P_4.cellAt 0 rfl; have Pc1 := P_4.cellAt 1 rfl; have Pc2 := P_4.cellAt 2 rfl; have Pl := P_4.lt; clear h4_)
    | ((with_reducible refine load_sub (T := 38) (x := .tmp 2) (o := 0) (vs := #[.int .i64 x1, .int .i64 x2, .int .i64 x3, .int .i64 x4, .int .i64 x5, .int .i64 x6, .int .i64 x7, .int .i64 x8, .int .i64 x9]) (show Blk _ (w.heap.size) 38 #[.int .i64 x1, .int .i64 x2, .int .i64 x3, .int .i64 x4, .int .i64 x5, .int .i64 x6, .int .i64 x7, .int .i64 x8, .int .i64 x9] from (L_4.alloc)) ?_ ?_ Tryd.underlying38 ?_ ?_ ?_); (focus rfl); (focus rfl); (focus rfl); (focus exact apiLines_size))
    | (go_at_call 41; (with_reducible refine (HL.out _).mono ?_); rintro e w5_ ⟨rfl, h5_⟩; have L_5 : Blk w5_ (w.heap.size) 38 #[.int .i64 x1, .int .i64 x2, .int .i64 x3, .int .i64 x4, .int .i64 x5, .int .i64 x6, .int .i64 x7, .int .i64 x8, .int .i64 x9] := (L_4.alloc).past h5_; have P_5 : Blk w5_ (w.heap.size + 1) 36 #[.int .i64 a, .int .i64 b, .int .i64 c] := (P_4.alloc).past h5_; have Z_5 : Blk w5_ (w2_.heap.size) 48 #[.int .i64 p, .int .i64 q] := (Z_4.alloc).past h5_; have M_5 : Blk w5_ (w4_.heap.size) 38 #[.int .i64 0, .int .i64 0, .int .i64 0, .int .i64 0, .int .i64 0, .int .i64 0, .int .i64 0, .int .i64 0, .int .i64 0] := (Blk.newAt (by simp)).past h5_; have S_5 := pt (pa (S_4)) h5_; clear L_4 P_4 Z_4 S_4 Pc0 Pc1 Pc2 Pl; have Pc0 := P_5.cellAt 0 rfl; have Pc1 := P_5.cellAt 1 rfl; have Pc2 := P_5.cellAt 2 rfl; have Pl := P_5.lt; clear h5_)
    | ((with_reducible refine load_sub (T := 38) (x := .tmp 2) (o := 0) (vs := #[.int .i64 x1, .int .i64 x2, .int .i64 x3, .int .i64 x4, .int .i64 x5, .int .i64 x6, .int .i64 x7, .int .i64 x8, .int .i64 x9]) (show Blk _ (w.heap.size) 38 #[.int .i64 x1, .int .i64 x2, .int .i64 x3, .int .i64 x4, .int .i64 x5, .int .i64 x6, .int .i64 x7, .int .i64 x8, .int .i64 x9] from (L_5)) ?_ ?_ Tryd.underlying38 ?_ ?_ ?_); (focus rfl); (focus rfl); (focus rfl); (focus exact apiLines_size))
    | (go_at_call 42; (with_reducible refine (HC.out _).mono ?_); rintro e w6_ ⟨rfl, h6_⟩; have L_6 : Blk w6_ (w.heap.size) 38 #[.int .i64 x1, .int .i64 x2, .int .i64 x3, .int .i64 x4, .int .i64 x5, .int .i64 x6, .int .i64 x7, .int .i64 x8, .int .i64 x9] := (L_5).past h6_; have P_6 : Blk w6_ (w.heap.size + 1) 36 #[.int .i64 a, .int .i64 b, .int .i64 c] := (P_5).past h6_; have Z_6 : Blk w6_ (w2_.heap.size) 48 #[.int .i64 p, .int .i64 q] := (Z_5).past h6_; have M_6 : Blk w6_ (w4_.heap.size) 38 #[.int .i64 0, .int .i64 0, .int .i64 0, .int .i64 0, .int .i64 0, .int .i64 0, .int .i64 0, .int .i64 0, .int .i64 0] := (M_5).past h6_; have S_6 := pt (S_5) h6_; clear L_5 P_5 Z_5 M_5 S_5 Pc0 Pc1 Pc2 Pl; have Lc0 := L_6.cellAt 0 rfl; have Lc1 := L_6.cellAt 1 rfl; have Lc2 := L_6.cellAt 2 rfl; have Lc3 := L_6.cellAt 3 rfl; have Lc4 := L_6.cellAt 4 rfl; have Lc5 := L_6.cellAt 5 rfl; have Lc6 := L_6.cellAt 6 rfl; have Lc7 := L_6.cellAt 7 rfl; have Lc8 := L_6.cellAt 8 rfl; have Ll := L_6.lt; have Pc0 := P_6.cellAt 0 rfl; have Pc1 := P_6.cellAt 1 rfl; have Pc2 := P_6.cellAt 2 rfl; have Pl := P_6.lt; have Zc0 := Z_6.cellAt 0 rfl; have Zc1 := Z_6.cellAt 1 rfl; have Zl := Z_6.lt; have Mc0 := M_6.cellAt 0 rfl; have Mc1 := M_6.cellAt 1 rfl; have Mc2 := M_6.cellAt 2 rfl; have Mc3 := M_6.cellAt 3 rfl; have Mc4 := M_6.cellAt 4 rfl; have Mc5 := M_6.cellAt 5 rfl; have Mc6 := M_6.cellAt 6 rfl; have Mc7 := M_6.cellAt 7 rfl; have Mc8 := M_6.cellAt 8 rfl; have Ml := M_6.lt; clear h6_)
    | ((with_reducible refine load_sub (T := 38) (x := .tmp 2) (o := 0) (vs := #[.int .i64 x1, .int .i64 x2, .int .i64 x3, .int .i64 x4, .int .i64 x5, .int .i64 x6, .int .i64 x7, .int .i64 x8, .int .i64 x9]) (show Blk _ (w.heap.size) 38 #[.int .i64 x1, .int .i64 x2, .int .i64 x3, .int .i64 x4, .int .i64 x5, .int .i64 x6, .int .i64 x7, .int .i64 x8, .int .i64 x9] from (L_6)) ?_ ?_ Tryd.underlying38 ?_ ?_ ?_); (focus rfl); (focus rfl); (focus rfl); (focus exact apiLines_size))
    | (go_at_call 43; (with_reducible refine (RS.out _).mono ?_); rintro e w7_ ⟨rfl, h7_⟩; have L_7 : Blk w7_ (w.heap.size) 38 #[.int .i64 x1, .int .i64 x2, .int .i64 x3, .int .i64 x4, .int .i64 x5, .int .i64 x6, .int .i64 x7, .int .i64 x8, .int .i64 x9] := (L_6).past h7_; have P_7 : Blk w7_ (w.heap.size + 1) 36 #[.int .i64 a, .int .i64 b, .int .i64 c] := (P_6).past h7_; have Z_7 : Blk w7_ (w2_.heap.size) 48 #[.int .i64 p, .int .i64 q] := (Z_6).past h7_; have M_7 : Blk w7_ (w4_.heap.size) 38 #[.int .i64 0, .int .i64 0, .int .i64 0, .int .i64 0, .int .i64 0, .int .i64 0, .int .i64 0, .int .i64 0, .int .i64 0] := (M_6).past h7_; have S_7 := pt (S_6) h7_; clear L_6 P_6 Z_6 M_6 S_6 Lc0 Lc1 Lc2 Lc3 Lc4 Lc5 Lc6 Lc7 Lc8 Ll Pc0 Pc1 Pc2 Pl Zc0 Zc1 Zl Mc0 Mc1 Mc2 Mc3 Mc4 Mc5 Mc6 Mc7 Mc8 Ml; have Lc0 := L_7.cellAt 0 rfl; have Lc1 := L_7.cellAt 1 rfl; have Lc2 := L_7.cellAt 2 rfl; have Lc3 := L_7.cellAt 3 rfl; have Lc4 := L_7.cellAt 4 rfl; have Lc5 := L_7.cellAt 5 rfl; have Lc6 := L_7.cellAt 6 rfl; have Lc7 := L_7.cellAt 7 rfl; have Lc8 := L_7.cellAt 8 rfl; have Ll := L_7.lt; have Pc0 := P_7.cellAt 0 rfl; have Pc1 := P_7.cellAt 1 rfl; have Pc2 := P_7.cellAt 2 rfl; have Pl := P_7.lt; have Zc0 := Z_7.cellAt 0 rfl; have Zc1 := Z_7.cellAt 1 rfl; have Zl := Z_7.lt; have Mc0 := M_7.cellAt 0 rfl; have Mc1 := M_7.cellAt 1 rfl; have Mc2 := M_7.cellAt 2 rfl; have Mc3 := M_7.cellAt 3 rfl; have Mc4 := M_7.cellAt 4 rfl; have Mc5 := M_7.cellAt 5 rfl; have Mc6 := M_7.cellAt 6 rfl; have Mc7 := M_7.cellAt 7 rfl; have Mc8 := M_7.cellAt 8 rfl; have Ml := M_7.lt; clear h7_))
  refine region_below 18 follows_mixed (by kernel_rfl) ?_
  intro C hC
  simp only [List.take_succ_cons, List.take_zero, List.drop_succ_cons, List.drop_zero]
  repeat (first
    | ((with_reducible refine quiet_plain rfl (fun K hK => ?_)); (focus (apply quiet_val; (focus (intro w' hw; obtain ⟨hcq, hfq⟩ := bcell ((hC.out _).1 hw); go_simp; (first | done | rfl | (with_reducible exact call_below hC hw (RP.out _))))); (simp only [Act.put, List.setIfInBounds_toArray, List.set_cons_succ, List.set_cons_zero]); (with_reducible refine hK _ ?_); clear hK K)))
    | ((with_reducible refine quiet_skip ?_ ?_); (focus (first | (simp [Region.wanted, yielded]; done) | (simp [Region.wanted, yielded, undef]; done))); simp only [Act.put, List.setIfInBounds_toArray, List.set_cons_succ, List.set_cons_zero])
    | ((with_reducible refine quiet_go ?_ (fun K hK => ?_)); (focus (first | (simp [Region.wanted, yielded]; done) | (simp [Region.wanted, yielded, undef]; done))); (focus (apply quiet_val; (focus (intro w' hw; obtain ⟨hcq, hfq⟩ := bcell ((hC.out _).1 hw); go_simp; (first | done | rfl | (with_reducible exact call_below hC hw (RP.out _))))); (simp only [Act.put, List.setIfInBounds_toArray, List.set_cons_succ, List.set_cons_zero]); (with_reducible refine hK _ ?_); clear hK K))))
  refine wpQuiet_nil ?_
  intro w1 hb1
  replace hb1 := (hC.out _).1 hb1
  clear hC C
  obtain ⟨hc1, hf1⟩ := bcell hb1
  have L_8 : Blk w1 (w.heap.size) 38 #[.int .i64 x1, .int .i64 x2, .int .i64 x3, .int .i64 x4, .int .i64 x5, .int .i64 x6, .int .i64 x7, .int .i64 x8, .int .i64 x9] := (L_7).past hb1
  have P_8 : Blk w1 (w.heap.size + 1) 36 #[.int .i64 a, .int .i64 b, .int .i64 c] := (P_7).past hb1
  have Z_8 : Blk w1 (w2_.heap.size) 48 #[.int .i64 p, .int .i64 q] := (Z_7).past hb1
  have M_8 : Blk w1 (w4_.heap.size) 38 #[.int .i64 0, .int .i64 0, .int .i64 0, .int .i64 0, .int .i64 0, .int .i64 0, .int .i64 0, .int .i64 0, .int .i64 0] := (M_7).past hb1
  have S_8 := pt (S_7) hb1
  clear L_7 P_7 Z_7 M_7 S_7 Lc0 Lc1 Lc2 Lc3 Lc4 Lc5 Lc6 Lc7 Lc8 Ll Pc0 Pc1 Pc2 Pl Zc0 Zc1 Zl Mc0 Mc1 Mc2 Mc3 Mc4 Mc5 Mc6 Mc7 Mc8 Ml
  have Lc0 := L_8.cellAt 0 rfl
  have Lc1 := L_8.cellAt 1 rfl
  have Lc2 := L_8.cellAt 2 rfl
  have Lc3 := L_8.cellAt 3 rfl
  have Lc4 := L_8.cellAt 4 rfl
  have Lc5 := L_8.cellAt 5 rfl
  have Lc6 := L_8.cellAt 6 rfl
  have Lc7 := L_8.cellAt 7 rfl
  have Lc8 := L_8.cellAt 8 rfl
  have Ll := L_8.lt
  have Pc0 := P_8.cellAt 0 rfl
  have Pc1 := P_8.cellAt 1 rfl
  have Pc2 := P_8.cellAt 2 rfl
  have Pl := P_8.lt
  have Zc0 := Z_8.cellAt 0 rfl
  have Zc1 := Z_8.cellAt 1 rfl
  have Zl := Z_8.lt
  have Mc0 := M_8.cellAt 0 rfl
  have Mc1 := M_8.cellAt 1 rfl
  have Mc2 := M_8.cellAt 2 rfl
  have Mc3 := M_8.cellAt 3 rfl
  have Mc4 := M_8.cellAt 4 rfl
  have Mc5 := M_8.cellAt 5 rfl
  have Mc6 := M_8.cellAt 6 rfl
  have Mc7 := M_8.cellAt 7 rfl
  have Mc8 := M_8.cellAt 8 rfl
  have Ml := M_8.lt
  clear hb1 hc1 hf1
  obtain ⟨w8_, rfl⟩ : ∃ v, v = w1 := ⟨_, rfl⟩
  go_wp2_with (first
    | (go_at_call 45; (with_reducible refine (HI.out _).mono ?_); rintro e w9_ ⟨rfl, h9_⟩; have L_9 : Blk w9_ (w.heap.size) 38 #[.int .i64 x1, .int .i64 x2, .int .i64 x3, .int .i64 x4, .int .i64 x5, .int .i64 x6, .int .i64 x7, .int .i64 x8, .int .i64 x9] := (L_8).past h9_; have P_9 : Blk w9_ (w.heap.size + 1) 36 #[.int .i64 a, .int .i64 b, .int .i64 c] := (P_8).past h9_; have Z_9 : Blk w9_ (w2_.heap.size) 48 #[.int .i64 p, .int .i64 q] := (Z_8).past h9_; have M_9 : Blk w9_ (w4_.heap.size) 38 #[.int .i64 0, .int .i64 0, .int .i64 0, .int .i64 0, .int .i64 0, .int .i64 0, .int .i64 0, .int .i64 0, .int .i64 0] := (M_8).past h9_; have S_9 := pt (S_8) h9_; clear L_8 P_8 Z_8 M_8 S_8 Lc0 Lc1 Lc2 Lc3 Lc4 Lc5 Lc6 Lc7 Lc8 Ll Pc0 Pc1 Pc2 Pl Zc0 Zc1 Zl Mc0 Mc1 Mc2 Mc3 Mc4 Mc5 Mc6 Mc7 Mc8 Ml; have Lc0 := L_9.cellAt 0 rfl; have Lc1 := L_9.cellAt 1 rfl; have Lc2 := L_9.cellAt 2 rfl; have Lc3 := L_9.cellAt 3 rfl; have Lc4 := L_9.cellAt 4 rfl; have Lc5 := L_9.cellAt 5 rfl; have Lc6 := L_9.cellAt 6 rfl; have Lc7 := L_9.cellAt 7 rfl; have Lc8 := L_9.cellAt 8 rfl; have Ll := L_9.lt; have Pc0 := P_9.cellAt 0 rfl; have Pc1 := P_9.cellAt 1 rfl; have Pc2 := P_9.cellAt 2 rfl; have Pl := P_9.lt; have Zc0 := Z_9.cellAt 0 rfl; have Zc1 := Z_9.cellAt 1 rfl; have Zl := Z_9.lt; have Mc0 := M_9.cellAt 0 rfl; have Mc1 := M_9.cellAt 1 rfl; have Mc2 := M_9.cellAt 2 rfl; have Mc3 := M_9.cellAt 3 rfl; have Mc4 := M_9.cellAt 4 rfl; have Mc5 := M_9.cellAt 5 rfl; have Mc6 := M_9.cellAt 6 rfl; have Mc7 := M_9.cellAt 7 rfl; have Mc8 := M_9.cellAt 8 rfl; have Ml := M_9.lt; clear h9_))
  go_ret
  exact ⟨rfl, by repeat (first | exact S_9 | refine pa ?_)⟩

set_option maxHeartbeats 16000000 in
set_option maxRecDepth 100000 in
theorem lines_ok (x1 x2 x3 x4 x5 x6 x7 x8 x9 a b c : Int) (he : lineE x1 x2 x3 x4 x5 x6 x7 x8 x9 = 0) (hp : isPerm ⟨a, b, c⟩ = true) (w : World) (hT : TwIn w) (hP : PatIn w) :
    Calls Tryd.prog 8 #[.agg #[.int .i64 x1, .int .i64 x2, .int .i64 x3, .int .i64 x4, .int .i64 x5, .int .i64 x6, .int .i64 x7, .int .i64 x8, .int .i64 x9], .agg #[.int .i64 a, .int .i64 b, .int .i64 c]] w fun e w' => e = .returned (.bool true) ∧ Below w.heap.size w w' := by
  have HT := Lib.hid (fun w' (h : Below w.heap.size w w') => hT.below h)
  have HP := Lib.hid (fun w' (h : Below w.heap.size w w') => hP.below h)
  clear hT hP
  have HL := Lib.hid (refLinesErr_any x1 x2 x3 x4 x5 x6 x7 x8 x9)
  have HC := Lib.hid (checkLines_any x1 x2 x3 x4 x5 x6 x7 x8 x9)
  have HI := Lib.hid (refIsPermutation_any a b c)
  have HA := Lib.hid (PhasorOf_ok x1 x2 x3 x4 x5 x6 x7 x8 x9 he)
  have HS := Lib.hid (SequenceOf_any x1 x2 x3 x4 x5 x6 x7 x8 x9 he)
  have RS := Lib.hid (refSequence_any x1 x2 x3 x4 x5 x6 x7 x8 x9 he)
  obtain ⟨s1, s2, s3, _⟩ := lineE_sm he
  have RP := Lib.hid (refPhasor3_any x1 x2 x3 s1 s2 s3)
  obtain ⟨M, hM⟩ : ∃ M, renV ⟨⟨x1, x2, x3⟩, ⟨x4, x5, x6⟩, ⟨x7, x8, x9⟩⟩ ⟨a, b, c⟩ = M := ⟨_, rfl⟩
  have HR := Lib.hid (Renamed_ok x1 x2 x3 x4 x5 x6 x7 x8 x9 a b c hp he M hM)
  have RR := Lib.hid (refRenamed_any x1 x2 x3 x4 x5 x6 x7 x8 x9 a b c hp he M hM)
  rw [he] at HL HC
  rw [hp] at HI
  clear he hp s1 s2 s3 hM
  generalize (if phB (x1 - x2) (x3 - x2) 0 0 = true then 0 else seqV ⟨⟨x1, x2, x3⟩, ⟨x4, x5, x6⟩, ⟨x7, x8, x9⟩⟩) = sv at *
  generalize (if phB (x1 - x2) (x3 - x2) 0 0 = true then 11 else unlessV (seqV ⟨⟨x1, x2, x3⟩, ⟨x4, x5, x6⟩, ⟨x7, x8, x9⟩⟩ != 0) 12) = se at *
  have t1 := phB_same (x1 - x2) (x3 - x2)
  generalize x1 - x2 = p at *
  generalize x3 - x2 = q at *
  generalize M.x.a = m1 at *
  generalize M.x.b = m2 at *
  generalize M.x.c = m3 at *
  generalize M.y.a = m4 at *
  generalize M.y.b = m5 at *
  generalize M.y.c = m6 at *
  generalize M.z.a = m7 at *
  generalize M.z.b = m8 at *
  generalize M.z.c = m9 at *
  go_enter Tryd.func8, Tryd.ntmps8
  go_wp2_with (first
    | (go_at_call 11; (with_reducible refine (awake_any _ (HT.out _ (pa (pa (pr)))) (HP.out _ (pa (pa (pr))))).mono ?_); rintro e w1_ ⟨rfl, h1_⟩; have L_1 : Blk w1_ (w.heap.size) 38 #[.int .i64 x1, .int .i64 x2, .int .i64 x3, .int .i64 x4, .int .i64 x5, .int .i64 x6, .int .i64 x7, .int .i64 x8, .int .i64 x9] := (Blk.newAt (by simp)).alloc.past h1_; have P_1 : Blk w1_ (w.heap.size + 1) 36 #[.int .i64 a, .int .i64 b, .int .i64 c] := (Blk.newAt (by simp)).past h1_; have S_1 := pt (pa (pa (pr))) h1_; have Pc0 := P_1.cellAt 0 rfl; have Pc1 := P_1.cellAt 1 rfl; have Pc2 := P_1.cellAt 2 rfl; have Pl := P_1.lt; clear h1_)
    | ((with_reducible refine load_sub (T := 38) (x := .tmp 2) (o := 0) (vs := #[.int .i64 x1, .int .i64 x2, .int .i64 x3, .int .i64 x4, .int .i64 x5, .int .i64 x6, .int .i64 x7, .int .i64 x8, .int .i64 x9]) (show Blk _ (w.heap.size) 38 #[.int .i64 x1, .int .i64 x2, .int .i64 x3, .int .i64 x4, .int .i64 x5, .int .i64 x6, .int .i64 x7, .int .i64 x8, .int .i64 x9] from (L_1)) ?_ ?_ Tryd.underlying38 ?_ ?_ ?_); (focus rfl); (focus rfl); (focus rfl); (focus exact apiLines_size))
    | (go_at_call 31; (with_reducible refine (HA.out _).mono ?_); rintro e w2_ ⟨rfl, h2_⟩; have L_2 : Blk w2_ (w.heap.size) 38 #[.int .i64 x1, .int .i64 x2, .int .i64 x3, .int .i64 x4, .int .i64 x5, .int .i64 x6, .int .i64 x7, .int .i64 x8, .int .i64 x9] := (L_1).past h2_; have P_2 : Blk w2_ (w.heap.size + 1) 36 #[.int .i64 a, .int .i64 b, .int .i64 c] := (P_1).past h2_; have S_2 := pt (S_1) h2_; clear L_1 P_1 S_1 Pc0 Pc1 Pc2 Pl; have Pc0 := P_2.cellAt 0 rfl; have Pc1 := P_2.cellAt 1 rfl; have Pc2 := P_2.cellAt 2 rfl; have Pl := P_2.lt; clear h2_)
    | ((with_reducible refine load_sub (T := 38) (x := .tmp 2) (o := 0) (vs := #[.int .i64 x1, .int .i64 x2, .int .i64 x3, .int .i64 x4, .int .i64 x5, .int .i64 x6, .int .i64 x7, .int .i64 x8, .int .i64 x9]) (show Blk _ (w.heap.size) 38 #[.int .i64 x1, .int .i64 x2, .int .i64 x3, .int .i64 x4, .int .i64 x5, .int .i64 x6, .int .i64 x7, .int .i64 x8, .int .i64 x9] from (L_2.alloc)) ?_ ?_ Tryd.underlying38 ?_ ?_ ?_); (focus rfl); (focus rfl); (focus rfl); (focus exact apiLines_size))
    | (go_at_call 30; (with_reducible refine (HS.out _).mono ?_); rintro e w3_ ⟨rfl, h3_⟩; have L_3 : Blk w3_ (w.heap.size) 38 #[.int .i64 x1, .int .i64 x2, .int .i64 x3, .int .i64 x4, .int .i64 x5, .int .i64 x6, .int .i64 x7, .int .i64 x8, .int .i64 x9] := (L_2.alloc).past h3_; have P_3 : Blk w3_ (w.heap.size + 1) 36 #[.int .i64 a, .int .i64 b, .int .i64 c] := (P_2.alloc).past h3_; have Z_3 : Blk w3_ (w2_.heap.size) 48 #[.int .i64 p, .int .i64 q] := (Blk.newAt (by simp)).past h3_; have S_3 := pt (pa (S_2)) h3_; clear L_2 P_2 S_2 Pc0 Pc1 Pc2 Pl; have Pc0 := P_3.cellAt 0 rfl; have Pc1 := P_3.cellAt 1 rfl; have Pc2 := P_3.cellAt 2 rfl; have Pl := P_3.lt; clear h3_)
    | ((with_reducible refine load_sub (T := 38) (x := .tmp 2) (o := 0) (vs := #[.int .i64 x1, .int .i64 x2, .int .i64 x3, .int .i64 x4, .int .i64 x5, .int .i64 x6, .int .i64 x7, .int .i64 x8, .int .i64 x9]) (show Blk _ (w.heap.size) 38 #[.int .i64 x1, .int .i64 x2, .int .i64 x3, .int .i64 x4, .int .i64 x5, .int .i64 x6, .int .i64 x7, .int .i64 x8, .int .i64 x9] from (L_3)) ?_ ?_ Tryd.underlying38 ?_ ?_ ?_); (focus rfl); (focus rfl); (focus rfl); (focus exact apiLines_size))
    | (go_at_call 40; (with_reducible refine (HR.out _).mono ?_); rintro e w4_ ⟨rfl, h4_⟩; have L_4 : Blk w4_ (w.heap.size) 38 #[.int .i64 x1, .int .i64 x2, .int .i64 x3, .int .i64 x4, .int .i64 x5, .int .i64 x6, .int .i64 x7, .int .i64 x8, .int .i64 x9] := (L_3).past h4_; have P_4 : Blk w4_ (w.heap.size + 1) 36 #[.int .i64 a, .int .i64 b, .int .i64 c] := (P_3).past h4_; have Z_4 : Blk w4_ (w2_.heap.size) 48 #[.int .i64 p, .int .i64 q] := (Z_3).past h4_; have S_4 := pt (S_3) h4_; clear L_3 P_3 Z_3 S_3 Pc0 Pc1 Pc2 Pl; have Pc0 := P_4.cellAt 0 rfl; have Pc1 := P_4.cellAt 1 rfl; have Pc2 := P_4.cellAt 2 rfl; have Pl := P_4.lt; clear h4_)
    | ((with_reducible refine load_sub (T := 38) (x := .tmp 2) (o := 0) (vs := #[.int .i64 x1, .int .i64 x2, .int .i64 x3, .int .i64 x4, .int .i64 x5, .int .i64 x6, .int .i64 x7, .int .i64 x8, .int .i64 x9]) (show Blk _ (w.heap.size) 38 #[.int .i64 x1, .int .i64 x2, .int .i64 x3, .int .i64 x4, .int .i64 x5, .int .i64 x6, .int .i64 x7, .int .i64 x8, .int .i64 x9] from (L_4.alloc)) ?_ ?_ Tryd.underlying38 ?_ ?_ ?_); (focus rfl); (focus rfl); (focus rfl); (focus exact apiLines_size))
    | (go_at_call 41; (with_reducible refine (HL.out _).mono ?_); rintro e w5_ ⟨rfl, h5_⟩; have L_5 : Blk w5_ (w.heap.size) 38 #[.int .i64 x1, .int .i64 x2, .int .i64 x3, .int .i64 x4, .int .i64 x5, .int .i64 x6, .int .i64 x7, .int .i64 x8, .int .i64 x9] := (L_4.alloc).past h5_; have P_5 : Blk w5_ (w.heap.size + 1) 36 #[.int .i64 a, .int .i64 b, .int .i64 c] := (P_4.alloc).past h5_; have Z_5 : Blk w5_ (w2_.heap.size) 48 #[.int .i64 p, .int .i64 q] := (Z_4.alloc).past h5_; have M_5 : Blk w5_ (w4_.heap.size) 38 #[.int .i64 m1, .int .i64 m2, .int .i64 m3, .int .i64 m4, .int .i64 m5, .int .i64 m6, .int .i64 m7, .int .i64 m8, .int .i64 m9] := (Blk.newAt (by simp)).past h5_; have S_5 := pt (pa (S_4)) h5_; clear L_4 P_4 Z_4 S_4 Pc0 Pc1 Pc2 Pl; have Pc0 := P_5.cellAt 0 rfl; have Pc1 := P_5.cellAt 1 rfl; have Pc2 := P_5.cellAt 2 rfl; have Pl := P_5.lt; clear h5_)
    | ((with_reducible refine load_sub (T := 38) (x := .tmp 2) (o := 0) (vs := #[.int .i64 x1, .int .i64 x2, .int .i64 x3, .int .i64 x4, .int .i64 x5, .int .i64 x6, .int .i64 x7, .int .i64 x8, .int .i64 x9]) (show Blk _ (w.heap.size) 38 #[.int .i64 x1, .int .i64 x2, .int .i64 x3, .int .i64 x4, .int .i64 x5, .int .i64 x6, .int .i64 x7, .int .i64 x8, .int .i64 x9] from (L_5)) ?_ ?_ Tryd.underlying38 ?_ ?_ ?_); (focus rfl); (focus rfl); (focus rfl); (focus exact apiLines_size))
    | (go_at_call 42; (with_reducible refine (HC.out _).mono ?_); rintro e w6_ ⟨rfl, h6_⟩; have L_6 : Blk w6_ (w.heap.size) 38 #[.int .i64 x1, .int .i64 x2, .int .i64 x3, .int .i64 x4, .int .i64 x5, .int .i64 x6, .int .i64 x7, .int .i64 x8, .int .i64 x9] := (L_5).past h6_; have P_6 : Blk w6_ (w.heap.size + 1) 36 #[.int .i64 a, .int .i64 b, .int .i64 c] := (P_5).past h6_; have Z_6 : Blk w6_ (w2_.heap.size) 48 #[.int .i64 p, .int .i64 q] := (Z_5).past h6_; have M_6 : Blk w6_ (w4_.heap.size) 38 #[.int .i64 m1, .int .i64 m2, .int .i64 m3, .int .i64 m4, .int .i64 m5, .int .i64 m6, .int .i64 m7, .int .i64 m8, .int .i64 m9] := (M_5).past h6_; have S_6 := pt (S_5) h6_; clear L_5 P_5 Z_5 M_5 S_5 Pc0 Pc1 Pc2 Pl; have Lc0 := L_6.cellAt 0 rfl; have Lc1 := L_6.cellAt 1 rfl; have Lc2 := L_6.cellAt 2 rfl; have Lc3 := L_6.cellAt 3 rfl; have Lc4 := L_6.cellAt 4 rfl; have Lc5 := L_6.cellAt 5 rfl; have Lc6 := L_6.cellAt 6 rfl; have Lc7 := L_6.cellAt 7 rfl; have Lc8 := L_6.cellAt 8 rfl; have Ll := L_6.lt; have Pc0 := P_6.cellAt 0 rfl; have Pc1 := P_6.cellAt 1 rfl; have Pc2 := P_6.cellAt 2 rfl; have Pl := P_6.lt; have Zc0 := Z_6.cellAt 0 rfl; have Zc1 := Z_6.cellAt 1 rfl; have Zl := Z_6.lt; have Mc0 := M_6.cellAt 0 rfl; have Mc1 := M_6.cellAt 1 rfl; have Mc2 := M_6.cellAt 2 rfl; have Mc3 := M_6.cellAt 3 rfl; have Mc4 := M_6.cellAt 4 rfl; have Mc5 := M_6.cellAt 5 rfl; have Mc6 := M_6.cellAt 6 rfl; have Mc7 := M_6.cellAt 7 rfl; have Mc8 := M_6.cellAt 8 rfl; have Ml := M_6.lt; clear h6_)
    | ((with_reducible refine load_sub (T := 38) (x := .tmp 2) (o := 0) (vs := #[.int .i64 x1, .int .i64 x2, .int .i64 x3, .int .i64 x4, .int .i64 x5, .int .i64 x6, .int .i64 x7, .int .i64 x8, .int .i64 x9]) (show Blk _ (w.heap.size) 38 #[.int .i64 x1, .int .i64 x2, .int .i64 x3, .int .i64 x4, .int .i64 x5, .int .i64 x6, .int .i64 x7, .int .i64 x8, .int .i64 x9] from (L_6)) ?_ ?_ Tryd.underlying38 ?_ ?_ ?_); (focus rfl); (focus rfl); (focus rfl); (focus exact apiLines_size))
    | (go_at_call 43; (with_reducible refine (RS.out _).mono ?_); rintro e w7_ ⟨rfl, h7_⟩; have L_7 : Blk w7_ (w.heap.size) 38 #[.int .i64 x1, .int .i64 x2, .int .i64 x3, .int .i64 x4, .int .i64 x5, .int .i64 x6, .int .i64 x7, .int .i64 x8, .int .i64 x9] := (L_6).past h7_; have P_7 : Blk w7_ (w.heap.size + 1) 36 #[.int .i64 a, .int .i64 b, .int .i64 c] := (P_6).past h7_; have Z_7 : Blk w7_ (w2_.heap.size) 48 #[.int .i64 p, .int .i64 q] := (Z_6).past h7_; have M_7 : Blk w7_ (w4_.heap.size) 38 #[.int .i64 m1, .int .i64 m2, .int .i64 m3, .int .i64 m4, .int .i64 m5, .int .i64 m6, .int .i64 m7, .int .i64 m8, .int .i64 m9] := (M_6).past h7_; have S_7 := pt (S_6) h7_; clear L_6 P_6 Z_6 M_6 S_6 Lc0 Lc1 Lc2 Lc3 Lc4 Lc5 Lc6 Lc7 Lc8 Ll Pc0 Pc1 Pc2 Pl Zc0 Zc1 Zl Mc0 Mc1 Mc2 Mc3 Mc4 Mc5 Mc6 Mc7 Mc8 Ml; have Lc0 := L_7.cellAt 0 rfl; have Lc1 := L_7.cellAt 1 rfl; have Lc2 := L_7.cellAt 2 rfl; have Lc3 := L_7.cellAt 3 rfl; have Lc4 := L_7.cellAt 4 rfl; have Lc5 := L_7.cellAt 5 rfl; have Lc6 := L_7.cellAt 6 rfl; have Lc7 := L_7.cellAt 7 rfl; have Lc8 := L_7.cellAt 8 rfl; have Ll := L_7.lt; have Pc0 := P_7.cellAt 0 rfl; have Pc1 := P_7.cellAt 1 rfl; have Pc2 := P_7.cellAt 2 rfl; have Pl := P_7.lt; have Zc0 := Z_7.cellAt 0 rfl; have Zc1 := Z_7.cellAt 1 rfl; have Zl := Z_7.lt; have Mc0 := M_7.cellAt 0 rfl; have Mc1 := M_7.cellAt 1 rfl; have Mc2 := M_7.cellAt 2 rfl; have Mc3 := M_7.cellAt 3 rfl; have Mc4 := M_7.cellAt 4 rfl; have Mc5 := M_7.cellAt 5 rfl; have Mc6 := M_7.cellAt 6 rfl; have Mc7 := M_7.cellAt 7 rfl; have Mc8 := M_7.cellAt 8 rfl; have Ml := M_7.lt; clear h7_))
  refine region_below 18 follows_mixed (by kernel_rfl) ?_
  intro C hC
  simp only [List.take_succ_cons, List.take_zero, List.drop_succ_cons, List.drop_zero]
  repeat (first
    | ((with_reducible refine quiet_plain rfl (fun K hK => ?_)); (focus (apply quiet_val; (focus (intro w' hw; obtain ⟨hcq, hfq⟩ := bcell ((hC.out _).1 hw); go_simp; (first | done | rfl | (with_reducible exact call_below hC hw (RP.out _))))); (simp only [Act.put, List.setIfInBounds_toArray, List.set_cons_succ, List.set_cons_zero]); (with_reducible refine hK _ ?_); clear hK K)))
    | ((with_reducible refine quiet_skip ?_ ?_); (focus (first | (simp [Region.wanted, yielded]; done) | (simp [Region.wanted, yielded, undef]; done))); simp only [Act.put, List.setIfInBounds_toArray, List.set_cons_succ, List.set_cons_zero])
    | ((with_reducible refine quiet_go ?_ (fun K hK => ?_)); (focus (first | (simp [Region.wanted, yielded]; done) | (simp [Region.wanted, yielded, undef]; done))); (focus (apply quiet_val; (focus (intro w' hw; obtain ⟨hcq, hfq⟩ := bcell ((hC.out _).1 hw); go_simp; (first | done | rfl | (with_reducible exact call_below hC hw (RP.out _))))); (simp only [Act.put, List.setIfInBounds_toArray, List.set_cons_succ, List.set_cons_zero]); (with_reducible refine hK _ ?_); clear hK K))))
  refine wpQuiet_nil ?_
  intro w1 hb1
  replace hb1 := (hC.out _).1 hb1
  clear hC C
  obtain ⟨hc1, hf1⟩ := bcell hb1
  have L_8 : Blk w1 (w.heap.size) 38 #[.int .i64 x1, .int .i64 x2, .int .i64 x3, .int .i64 x4, .int .i64 x5, .int .i64 x6, .int .i64 x7, .int .i64 x8, .int .i64 x9] := (L_7).past hb1
  have P_8 : Blk w1 (w.heap.size + 1) 36 #[.int .i64 a, .int .i64 b, .int .i64 c] := (P_7).past hb1
  have Z_8 : Blk w1 (w2_.heap.size) 48 #[.int .i64 p, .int .i64 q] := (Z_7).past hb1
  have M_8 : Blk w1 (w4_.heap.size) 38 #[.int .i64 m1, .int .i64 m2, .int .i64 m3, .int .i64 m4, .int .i64 m5, .int .i64 m6, .int .i64 m7, .int .i64 m8, .int .i64 m9] := (M_7).past hb1
  have S_8 := pt (S_7) hb1
  clear L_7 P_7 Z_7 M_7 S_7 Lc0 Lc1 Lc2 Lc3 Lc4 Lc5 Lc6 Lc7 Lc8 Ll Pc0 Pc1 Pc2 Pl Zc0 Zc1 Zl Mc0 Mc1 Mc2 Mc3 Mc4 Mc5 Mc6 Mc7 Mc8 Ml
  have Lc0 := L_8.cellAt 0 rfl
  have Lc1 := L_8.cellAt 1 rfl
  have Lc2 := L_8.cellAt 2 rfl
  have Lc3 := L_8.cellAt 3 rfl
  have Lc4 := L_8.cellAt 4 rfl
  have Lc5 := L_8.cellAt 5 rfl
  have Lc6 := L_8.cellAt 6 rfl
  have Lc7 := L_8.cellAt 7 rfl
  have Lc8 := L_8.cellAt 8 rfl
  have Ll := L_8.lt
  have Pc0 := P_8.cellAt 0 rfl
  have Pc1 := P_8.cellAt 1 rfl
  have Pc2 := P_8.cellAt 2 rfl
  have Pl := P_8.lt
  have Zc0 := Z_8.cellAt 0 rfl
  have Zc1 := Z_8.cellAt 1 rfl
  have Zl := Z_8.lt
  have Mc0 := M_8.cellAt 0 rfl
  have Mc1 := M_8.cellAt 1 rfl
  have Mc2 := M_8.cellAt 2 rfl
  have Mc3 := M_8.cellAt 3 rfl
  have Mc4 := M_8.cellAt 4 rfl
  have Mc5 := M_8.cellAt 5 rfl
  have Mc6 := M_8.cellAt 6 rfl
  have Mc7 := M_8.cellAt 7 rfl
  have Mc8 := M_8.cellAt 8 rfl
  have Ml := M_8.lt
  clear hb1 hc1 hf1
  obtain ⟨w8_, rfl⟩ : ∃ v, v = w1 := ⟨_, rfl⟩
  go_wp2_with (first
    | (go_at_call 45; (with_reducible refine (HI.out _).mono ?_); rintro e w9_ ⟨rfl, h9_⟩; have L_9 : Blk w9_ (w.heap.size) 38 #[.int .i64 x1, .int .i64 x2, .int .i64 x3, .int .i64 x4, .int .i64 x5, .int .i64 x6, .int .i64 x7, .int .i64 x8, .int .i64 x9] := (L_8).past h9_; have P_9 : Blk w9_ (w.heap.size + 1) 36 #[.int .i64 a, .int .i64 b, .int .i64 c] := (P_8).past h9_; have Z_9 : Blk w9_ (w2_.heap.size) 48 #[.int .i64 p, .int .i64 q] := (Z_8).past h9_; have M_9 : Blk w9_ (w4_.heap.size) 38 #[.int .i64 m1, .int .i64 m2, .int .i64 m3, .int .i64 m4, .int .i64 m5, .int .i64 m6, .int .i64 m7, .int .i64 m8, .int .i64 m9] := (M_8).past h9_; have S_9 := pt (S_8) h9_; clear L_8 P_8 Z_8 M_8 S_8 Lc0 Lc1 Lc2 Lc3 Lc4 Lc5 Lc6 Lc7 Lc8 Ll Pc0 Pc1 Pc2 Pl Zc0 Zc1 Zl Mc0 Mc1 Mc2 Mc3 Mc4 Mc5 Mc6 Mc7 Mc8 Ml; have Lc0 := L_9.cellAt 0 rfl; have Lc1 := L_9.cellAt 1 rfl; have Lc2 := L_9.cellAt 2 rfl; have Lc3 := L_9.cellAt 3 rfl; have Lc4 := L_9.cellAt 4 rfl; have Lc5 := L_9.cellAt 5 rfl; have Lc6 := L_9.cellAt 6 rfl; have Lc7 := L_9.cellAt 7 rfl; have Lc8 := L_9.cellAt 8 rfl; have Ll := L_9.lt; have Pc0 := P_9.cellAt 0 rfl; have Pc1 := P_9.cellAt 1 rfl; have Pc2 := P_9.cellAt 2 rfl; have Pl := P_9.lt; have Zc0 := Z_9.cellAt 0 rfl; have Zc1 := Z_9.cellAt 1 rfl; have Zl := Z_9.lt; have Mc0 := M_9.cellAt 0 rfl; have Mc1 := M_9.cellAt 1 rfl; have Mc2 := M_9.cellAt 2 rfl; have Mc3 := M_9.cellAt 3 rfl; have Mc4 := M_9.cellAt 4 rfl; have Mc5 := M_9.cellAt 5 rfl; have Mc6 := M_9.cellAt 6 rfl; have Mc7 := M_9.cellAt 7 rfl; have Mc8 := M_9.cellAt 8 rfl; have Ml := M_9.lt; clear h9_))
  refine region_below 9 follows_mixed (by kernel_rfl) ?_
  intro C hC
  simp only [List.take_succ_cons, List.take_zero, List.drop_succ_cons, List.drop_zero]
  repeat (first
    | ((with_reducible refine quiet_plain rfl (fun K hK => ?_)); (focus (apply quiet_val; (focus (intro w' hw; obtain ⟨hcq, hfq⟩ := bcell ((hC.out _).1 hw); go_simp; (first | done | rfl | (with_reducible exact call_below hC hw (RR.out _))))); (simp only [Act.put, List.setIfInBounds_toArray, List.set_cons_succ, List.set_cons_zero]); (with_reducible refine hK _ ?_); clear hK K)))
    | ((with_reducible refine quiet_skip ?_ ?_); (focus (first | (simp [Region.wanted, yielded]; done) | (simp [Region.wanted, yielded, undef]; done))); simp only [Act.put, List.setIfInBounds_toArray, List.set_cons_succ, List.set_cons_zero])
    | ((with_reducible refine quiet_go ?_ (fun K hK => ?_)); (focus (first | (simp [Region.wanted, yielded]; done) | (simp [Region.wanted, yielded, undef]; done))); (focus (apply quiet_val; (focus (intro w' hw; obtain ⟨hcq, hfq⟩ := bcell ((hC.out _).1 hw); go_simp; (first | done | rfl | (with_reducible exact call_below hC hw (RR.out _))))); (simp only [Act.put, List.setIfInBounds_toArray, List.set_cons_succ, List.set_cons_zero]); (with_reducible refine hK _ ?_); clear hK K))))
  refine wpQuiet_nil ?_
  intro w1 hb1
  replace hb1 := (hC.out _).1 hb1
  clear hC C
  obtain ⟨hc1, hf1⟩ := bcell hb1
  have L_10 : Blk w1 (w.heap.size) 38 #[.int .i64 x1, .int .i64 x2, .int .i64 x3, .int .i64 x4, .int .i64 x5, .int .i64 x6, .int .i64 x7, .int .i64 x8, .int .i64 x9] := (L_9).past hb1
  have P_10 : Blk w1 (w.heap.size + 1) 36 #[.int .i64 a, .int .i64 b, .int .i64 c] := (P_9).past hb1
  have Z_10 : Blk w1 (w2_.heap.size) 48 #[.int .i64 p, .int .i64 q] := (Z_9).past hb1
  have M_10 : Blk w1 (w4_.heap.size) 38 #[.int .i64 m1, .int .i64 m2, .int .i64 m3, .int .i64 m4, .int .i64 m5, .int .i64 m6, .int .i64 m7, .int .i64 m8, .int .i64 m9] := (M_9).past hb1
  have S_10 := pt (S_9) hb1
  clear L_9 P_9 Z_9 M_9 S_9 Lc0 Lc1 Lc2 Lc3 Lc4 Lc5 Lc6 Lc7 Lc8 Ll Pc0 Pc1 Pc2 Pl Zc0 Zc1 Zl Mc0 Mc1 Mc2 Mc3 Mc4 Mc5 Mc6 Mc7 Mc8 Ml
  clear hb1 hc1 hf1
  obtain ⟨w10_, rfl⟩ : ∃ v, v = w1 := ⟨_, rfl⟩
  go_wp2
  go_ret
  exact ⟨rfl, by repeat (first | exact S_10 | refine pa ?_)⟩

theorem lines_walk (x1 x2 x3 x4 x5 x6 x7 x8 x9 a b c : Int) (w : World) (hT : TwIn w) (hP : PatIn w) :
    Calls Tryd.prog 8 #[.agg #[.int .i64 x1, .int .i64 x2, .int .i64 x3, .int .i64 x4, .int .i64 x5, .int .i64 x6, .int .i64 x7, .int .i64 x8, .int .i64 x9], .agg #[.int .i64 a, .int .i64 b, .int .i64 c]] w fun e w' => e = .returned (.bool true) ∧ Below w.heap.size w w' := by
  by_cases he : lineE x1 x2 x3 x4 x5 x6 x7 x8 x9 = 0
  · cases hp : isPerm ⟨a, b, c⟩
    · exact lines_off x1 x2 x3 x4 x5 x6 x7 x8 x9 a b c he hp w hT hP
    · exact lines_ok x1 x2 x3 x4 x5 x6 x7 x8 x9 a b c he hp w hT hP
  · exact lines_bad x1 x2 x3 x4 x5 x6 x7 x8 x9 a b c _ rfl (by simpa using he) w hT hP

end Go.Proofs.YtnhcamokcggnkaaDoor
