/- The walk of the law on balanced windings: it returns true. Printed by a program (gen_ballaw.py). -/
import Derived.Test.YtnhcamokcggnkaaDoorGZLow
import Derived.Test.YtnhcamokcggnkaaDoorGJAwake
import Derived.Test.YtnhcamokcggnkaaDoorHRHours
import Derived.Test.YtnhcamokcggnkaaDoorARegionL
import Derived.Test.YtnhcamokcggnkaaDoorH0Seq
namespace Go.Proofs.YtnhcamokcggnkaaDoor
open Go.RowKit
attribute [local go_sem ↓] Go.wp_at_zero Go.wp_at_succ

theorem phasor2_size : (Tryd.prog.info? 48).map (·.size) = some 2 := by kernel_rfl

set_option maxHeartbeats 32000000 in
set_option maxRecDepth 100000 in
theorem bal_0 (t s : Int) (r : Bool) (x1 x2 x3 x4 x5 x6 x7 x8 x9 p0 q0 p1 q1 p2 q2 f1 N h0 h1 h2 a b : Int) (w : World) (hT : TwIn w) (hP : PatIn w) (hw : windE 0 t s = 0)
    (hl : ∀ w, PatIn w → Calls Tryd.prog 16 #[.agg #[.int .i64 0, .int .i64 t, .int .i64 s, .bool r]] w fun e w' => e = .returned (.tuple #[.agg #[.int .i64 x1, .int .i64 x2, .int .i64 x3, .int .i64 x4, .int .i64 x5, .int .i64 x6, .int .i64 x7, .int .i64 x8, .int .i64 x9], .int .i64 0]) ∧ Below w.heap.size w w')
    (hq : ∀ w, Calls Tryd.prog 30 #[.agg #[.int .i64 x1, .int .i64 x2, .int .i64 x3, .int .i64 x4, .int .i64 x5, .int .i64 x6, .int .i64 x7, .int .i64 x8, .int .i64 x9]] w fun e w' => e = .returned (.tuple #[.int .i64 1, .int .i64 0]) ∧ Below w.heap.size w w')
    (hp0 : ∀ w, Calls Tryd.prog 31 #[.agg #[.int .i64 x1, .int .i64 x2, .int .i64 x3, .int .i64 x4, .int .i64 x5, .int .i64 x6, .int .i64 x7, .int .i64 x8, .int .i64 x9]] w fun e w' => e = .returned (.tuple #[.agg #[.int .i64 p0, .int .i64 q0], .int .i64 0]) ∧ Below w.heap.size w w')
    (hs0 : ∀ w, Calls Tryd.prog 22 #[.agg #[.int .i64 p0, .int .i64 q0]] w fun e w' => e = .returned (.tuple #[.int .i64 N, .int .i64 0]) ∧ Below w.heap.size w w')
    (hh0 : ∀ w, TwIn w → Calls Tryd.prog 23 #[.agg #[.int .i64 p0, .int .i64 q0]] w fun e w' => e = .returned (.tuple #[.int .i64 h0, .int .i64 0]) ∧ Below w.heap.size w w')
    (hw0 : withinB h0 0 11 = true)
    (hp1 : ∀ w, Calls Tryd.prog 31 #[.agg #[.int .i64 x4, .int .i64 x5, .int .i64 x6, .int .i64 x7, .int .i64 x8, .int .i64 x9, .int .i64 x1, .int .i64 x2, .int .i64 x3]] w fun e w' => e = .returned (.tuple #[.agg #[.int .i64 p1, .int .i64 q1], .int .i64 0]) ∧ Below w.heap.size w w')
    (hs1 : ∀ w, Calls Tryd.prog 22 #[.agg #[.int .i64 p1, .int .i64 q1]] w fun e w' => e = .returned (.tuple #[.int .i64 N, .int .i64 0]) ∧ Below w.heap.size w w')
    (hh1 : ∀ w, TwIn w → Calls Tryd.prog 23 #[.agg #[.int .i64 p1, .int .i64 q1]] w fun e w' => e = .returned (.tuple #[.int .i64 h1, .int .i64 0]) ∧ Below w.heap.size w w')
    (hw1 : withinB h1 0 11 = true)
    (hp2 : ∀ w, Calls Tryd.prog 31 #[.agg #[.int .i64 x7, .int .i64 x8, .int .i64 x9, .int .i64 x1, .int .i64 x2, .int .i64 x3, .int .i64 x4, .int .i64 x5, .int .i64 x6]] w fun e w' => e = .returned (.tuple #[.agg #[.int .i64 p2, .int .i64 q2], .int .i64 0]) ∧ Below w.heap.size w w')
    (hs2 : ∀ w, Calls Tryd.prog 22 #[.agg #[.int .i64 p2, .int .i64 q2]] w fun e w' => e = .returned (.tuple #[.int .i64 N, .int .i64 0]) ∧ Below w.heap.size w w')
    (hh2 : ∀ w, TwIn w → Calls Tryd.prog 23 #[.agg #[.int .i64 p2, .int .i64 q2]] w fun e w' => e = .returned (.tuple #[.int .i64 h2, .int .i64 0]) ∧ Below w.heap.size w w')
    (hw2 : withinB h2 0 11 = true)
    (hf1 : IntKind.i64.wrap (3 * t) = f1) (hf2 : IntKind.i64.wrap (f1 * t) = N)
    (ha0 : IntKind.i64.wrap p0 = p0) (ha1 : IntKind.i64.wrap (p0 + p1) = a) (ha2 : IntKind.i64.wrap (a + p2) = 0)
    (hb0 : IntKind.i64.wrap q0 = q0) (hb1' : IntKind.i64.wrap (q0 + q1) = b) (hb2 : IntKind.i64.wrap (b + q2) = 0)
    (u0 : Int) (hu0 : IntKind.i64.wrap (x1 + x4) = u0) (hv0 : IntKind.i64.wrap (u0 + x7) = 0)
    (u1 : Int) (hu1 : IntKind.i64.wrap (x2 + x5) = u1) (hv1 : IntKind.i64.wrap (u1 + x8) = 0)
    (u2 : Int) (hu2 : IntKind.i64.wrap (x3 + x6) = u2) (hv2 : IntKind.i64.wrap (u2 + x9) = 0)
    : Calls Tryd.prog 6 #[.agg #[.int .i64 0, .int .i64 t, .int .i64 s, .bool r]] w fun e w' => e = .returned (.bool true) ∧ Below w.heap.size w w' := by
  have HT := Lib.hid (fun w' (h : Below w.heap.size w w') => hT.below h)
  have HP := Lib.hid (fun w' (h : Below w.heap.size w w') => hP.below h)
  have HE := Lib.hid (refWindingErr_any 0 t s r)
  rw [hw] at HE
  have HL := Lib.hid hl
  have HQ := Lib.hid hq
  clear hT hP hl hq hw
  have HP0 := Lib.hid hp0
  have HS0 := Lib.hid hs0
  have HH0 := Lib.hid hh0
  have HW0 := Lib.hid (refWithin_any h0 0 11)
  rw [hw0] at HW0
  clear hp0 hs0 hh0 hw0
  have HP1 := Lib.hid hp1
  have HS1 := Lib.hid hs1
  have HH1 := Lib.hid hh1
  have HW1 := Lib.hid (refWithin_any h1 0 11)
  rw [hw1] at HW1
  clear hp1 hs1 hh1 hw1
  have HP2 := Lib.hid hp2
  have HS2 := Lib.hid hs2
  have HH2 := Lib.hid hh2
  have HW2 := Lib.hid (refWithin_any h2 0 11)
  rw [hw2] at HW2
  clear hp2 hs2 hh2 hw2
  have z0 : IntKind.i64.wrap 0 = 0 := by decide
  have z1 : IntKind.i64.wrap 1 = 1 := by decide
  have z2 : IntKind.i64.wrap 2 = 2 := by decide
  have z3 : IntKind.i64.wrap 3 = 3 := by decide
  have z4 : IntKind.i64.wrap 4 = 4 := by decide
  go_enter Tryd.func6, Tryd.ntmps6
  go_wp2_with (first
    | (go_at_call 11; (with_reducible refine (awake_any _ (HT.out _ (pa (pr))) (HP.out _ (pa (pr)))).mono ?_); rintro e w1_ ⟨rfl, h1_⟩; have A_1 : Blk w1_ (w.heap.size) 23 #[.int .i64 0, .int .i64 t, .int .i64 s, .bool r] := (Blk.newAt (by simp)).past h1_; have S_1 := pt (pa (pr)) h1_; have Ac0 := A_1.cellAt 0 rfl; have Ac1 := A_1.cellAt 1 rfl; have Ac2 := A_1.cellAt 2 rfl; have Ac3 := A_1.cellAt 3 rfl; have Al := A_1.lt; clear h1_)
    | (go_at_call 13; (with_reducible refine (HE.out _).mono ?_); rintro e w2_ ⟨rfl, h2_⟩; have A_2 : Blk w2_ (w.heap.size) 23 #[.int .i64 0, .int .i64 t, .int .i64 s, .bool r] := (A_1).past h2_; have S_2 := pt (S_1) h2_; clear A_1 S_1 Ac0 Ac1 Ac2 Ac3 Al; have Ac0 := A_2.cellAt 0 rfl; have Ac1 := A_2.cellAt 1 rfl; have Ac2 := A_2.cellAt 2 rfl; have Ac3 := A_2.cellAt 3 rfl; have Al := A_2.lt; clear h2_)
    | (go_at_call 16; (with_reducible refine (HL.out _ (HP.out _ (S_2))).mono ?_); rintro e w3_ ⟨rfl, h3_⟩; have A_3 : Blk w3_ (w.heap.size) 23 #[.int .i64 0, .int .i64 t, .int .i64 s, .bool r] := (A_2).past h3_; have S_3 := pt (S_2) h3_; clear A_2 S_2 Ac0 Ac1 Ac2 Ac3 Al; have Ac0 := A_3.cellAt 0 rfl; have Ac1 := A_3.cellAt 1 rfl; have Ac2 := A_3.cellAt 2 rfl; have Ac3 := A_3.cellAt 3 rfl; have Al := A_3.lt; clear h3_)
    | ((with_reducible refine load_sub (T := 38) (x := .tmp 3) (o := 0) (vs := #[.int .i64 x1, .int .i64 x2, .int .i64 x3, .int .i64 x4, .int .i64 x5, .int .i64 x6, .int .i64 x7, .int .i64 x8, .int .i64 x9]) (show Blk _ (w3_.heap.size) 38 #[.int .i64 x1, .int .i64 x2, .int .i64 x3, .int .i64 x4, .int .i64 x5, .int .i64 x6, .int .i64 x7, .int .i64 x8, .int .i64 x9] from (Blk.newAt (by simp))) ?_ ?_ Tryd.underlying38 ?_ ?_ ?_); (focus rfl); (focus rfl); (focus rfl); (focus exact apiLines_size))
    | (go_at_call 30; (with_reducible refine (HQ.out _).mono ?_); rintro e w4_ ⟨rfl, h4_⟩; have A_4 : Blk w4_ (w.heap.size) 23 #[.int .i64 0, .int .i64 t, .int .i64 s, .bool r] := (A_3.alloc).past h4_; have L_4 : Blk w4_ (w3_.heap.size) 38 #[.int .i64 x1, .int .i64 x2, .int .i64 x3, .int .i64 x4, .int .i64 x5, .int .i64 x6, .int .i64 x7, .int .i64 x8, .int .i64 x9] := (Blk.newAt (by simp)).past h4_; have S_4 := pt (pa (S_3)) h4_; clear A_3 S_3 Ac0 Ac1 Ac2 Ac3 Al; have Ac0 := A_4.cellAt 0 rfl; have Ac1 := A_4.cellAt 1 rfl; have Ac2 := A_4.cellAt 2 rfl; have Ac3 := A_4.cellAt 3 rfl; have Al := A_4.lt; have Lc0 := L_4.cellAt 0 rfl; have Lc1 := L_4.cellAt 1 rfl; have Lc2 := L_4.cellAt 2 rfl; have Lc3 := L_4.cellAt 3 rfl; have Lc4 := L_4.cellAt 4 rfl; have Lc5 := L_4.cellAt 5 rfl; have Lc6 := L_4.cellAt 6 rfl; have Lc7 := L_4.cellAt 7 rfl; have Lc8 := L_4.cellAt 8 rfl; have Ll := L_4.lt; clear h4_))
  have A_5 : Blk (w4_.alloc (.cells #[.int .i64 3, .int .i64 1, .int .i64 9] 3)) (w.heap.size) 23 #[.int .i64 0, .int .i64 t, .int .i64 s, .bool r] := (A_4.alloc)
  have L_5 : Blk (w4_.alloc (.cells #[.int .i64 3, .int .i64 1, .int .i64 9] 3)) (w3_.heap.size) 38 #[.int .i64 x1, .int .i64 x2, .int .i64 x3, .int .i64 x4, .int .i64 x5, .int .i64 x6, .int .i64 x7, .int .i64 x8, .int .i64 x9] := (L_4.alloc)
  have B_5 : Blk (w4_.alloc (.cells #[.int .i64 3, .int .i64 1, .int .i64 9] 3)) (w4_.heap.size) 3 #[.int .i64 3, .int .i64 1, .int .i64 9] := (Blk.newAt (by simp))
  have S_5 := (show Below w.heap.size w (w4_.alloc (.cells #[.int .i64 3, .int .i64 1, .int .i64 9] 3)) from pa (S_4))
  clear A_4 L_4 S_4 Ac0 Ac1 Ac2 Ac3 Al Lc0 Lc1 Lc2 Lc3 Lc4 Lc5 Lc6 Lc7 Lc8 Ll
  generalize w4_.alloc (.cells #[.int .i64 3, .int .i64 1, .int .i64 9] 3) = w5_ at *
  clear B_5
  refine wp_loop_rounds 4 ?_
  rw [rounds_succ]
  have Ac0 := A_5.cellAt 0 rfl
  have Ac1 := A_5.cellAt 1 rfl
  have Ac2 := A_5.cellAt 2 rfl
  have Ac3 := A_5.cellAt 3 rfl
  have Al := A_5.lt
  have Lc0 := L_5.cellAt 0 rfl
  have Lc1 := L_5.cellAt 1 rfl
  have Lc2 := L_5.cellAt 2 rfl
  have Lc3 := L_5.cellAt 3 rfl
  have Lc4 := L_5.cellAt 4 rfl
  have Lc5 := L_5.cellAt 5 rfl
  have Lc6 := L_5.cellAt 6 rfl
  have Lc7 := L_5.cellAt 7 rfl
  have Lc8 := L_5.cellAt 8 rfl
  have Ll := L_5.lt
  go_wp2
  refine region_alloc_late (zs := #[.int .i64 0, .int .i64 0]) 17 follows_mixed (by kernel_rfl) rfl rfl (fun _ _ => by kernel_rfl) ?_
  simp only [List.take_succ_cons, List.take_zero, List.drop_succ_cons, List.drop_zero]
  repeat (first
    | ((with_reducible apply grow_plain); (focus rfl); (focus (intro w' hw; obtain ⟨hcq, hfq⟩ := bcell hw; go_simp; (first | done | rfl | (with_reducible exact HP0.out _)))); (simp only [Act.put, List.setIfInBounds_toArray, List.set_cons_succ, List.set_cons_zero]))
    | ((with_reducible apply grow_skip); (focus (first | (simp [Region.wanted, yielded]; done) | (simp [Region.wanted, yielded, undef]; done))); simp only [Act.put, List.setIfInBounds_toArray, List.set_cons_succ, List.set_cons_zero])
    | ((with_reducible apply grow_go); (focus (first | (simp [Region.wanted, yielded]; done) | (simp [Region.wanted, yielded, undef]; done))); (focus (intro w' hw; obtain ⟨hcq, hfq⟩ := bcell hw; go_simp; (first | done | rfl | (with_reducible exact HP0.out _)))); (simp only [Act.put, List.setIfInBounds_toArray, List.set_cons_succ, List.set_cons_zero])))
  refine grow_nil ?_
  refine ⟨#[.int .i64 p0, .int .i64 q0], fun _ => rfl, fun _ => rfl, rfl, phasor2_size, (by simp [Value.oneCell']; done), ?_⟩
  intro qb6_ w1 hgZ hbZ hb1
  simp only [Act.put, List.setIfInBounds_toArray, List.set_cons_succ, List.set_cons_zero]
  have ne_A_Z0 : w.heap.size ≠ qb6_ := by have := A_5.lt; omega
  have A_6 : Blk w1 (w.heap.size) 23 #[.int .i64 0, .int .i64 t, .int .i64 s, .bool r] := A_5.past hb1
  have ne_L_Z0 : w3_.heap.size ≠ qb6_ := by have := L_5.lt; omega
  have L_6 : Blk w1 (w3_.heap.size) 38 #[.int .i64 x1, .int .i64 x2, .int .i64 x3, .int .i64 x4, .int .i64 x5, .int .i64 x6, .int .i64 x7, .int .i64 x8, .int .i64 x9] := L_5.past hb1
  have Z0_6 : Blk w1 qb6_ 48 #[.int .i64 p0, .int .i64 q0] := hbZ
  have ge_Z0 : w.heap.size ≤ qb6_ := by have := (S_5).size; omega
  have S_6 := pt (S_5) hb1
  clear A_5 L_5 S_5 Ac0 Ac1 Ac2 Ac3 Al Lc0 Lc1 Lc2 Lc3 Lc4 Lc5 Lc6 Lc7 Lc8 Ll
  clear hb1 hbZ hgZ
  obtain ⟨w6_, rfl⟩ : ∃ v, v = w1 := ⟨_, rfl⟩
  have Ac0 := A_6.cellAt 0 rfl
  have Ac1 := A_6.cellAt 1 rfl
  have Ac2 := A_6.cellAt 2 rfl
  have Ac3 := A_6.cellAt 3 rfl
  have Al := A_6.lt
  have Lc0 := L_6.cellAt 0 rfl
  have Lc1 := L_6.cellAt 1 rfl
  have Lc2 := L_6.cellAt 2 rfl
  have Lc3 := L_6.cellAt 3 rfl
  have Lc4 := L_6.cellAt 4 rfl
  have Lc5 := L_6.cellAt 5 rfl
  have Lc6 := L_6.cellAt 6 rfl
  have Lc7 := L_6.cellAt 7 rfl
  have Lc8 := L_6.cellAt 8 rfl
  have Ll := L_6.lt
  have Z0c0 := Z0_6.cellAt 0 rfl
  have Z0c1 := Z0_6.cellAt 1 rfl
  have Z0l := Z0_6.lt
  go_wp2_with (first
    | (go_at_call 22; (with_reducible refine (HS0.out _).mono ?_); rintro e w7_ ⟨rfl, h7_⟩; have A_7 : Blk w7_ (w.heap.size) 23 #[.int .i64 0, .int .i64 t, .int .i64 s, .bool r] := (A_6).past h7_; have L_7 : Blk w7_ (w3_.heap.size) 38 #[.int .i64 x1, .int .i64 x2, .int .i64 x3, .int .i64 x4, .int .i64 x5, .int .i64 x6, .int .i64 x7, .int .i64 x8, .int .i64 x9] := (L_6).past h7_; have Z0_7 : Blk w7_ (qb6_) 48 #[.int .i64 p0, .int .i64 q0] := (Z0_6).past h7_; have S_7 := pt (S_6) h7_; clear A_6 L_6 Z0_6 S_6 Ac0 Ac1 Ac2 Ac3 Al Lc0 Lc1 Lc2 Lc3 Lc4 Lc5 Lc6 Lc7 Lc8 Ll Z0c0 Z0c1 Z0l; have Ac0 := A_7.cellAt 0 rfl; have Ac1 := A_7.cellAt 1 rfl; have Ac2 := A_7.cellAt 2 rfl; have Ac3 := A_7.cellAt 3 rfl; have Al := A_7.lt; have Lc0 := L_7.cellAt 0 rfl; have Lc1 := L_7.cellAt 1 rfl; have Lc2 := L_7.cellAt 2 rfl; have Lc3 := L_7.cellAt 3 rfl; have Lc4 := L_7.cellAt 4 rfl; have Lc5 := L_7.cellAt 5 rfl; have Lc6 := L_7.cellAt 6 rfl; have Lc7 := L_7.cellAt 7 rfl; have Lc8 := L_7.cellAt 8 rfl; have Ll := L_7.lt; have Z0c0 := Z0_7.cellAt 0 rfl; have Z0c1 := Z0_7.cellAt 1 rfl; have Z0l := Z0_7.lt; clear h7_)
    | (go_at_call 23; (with_reducible refine (HH0.out _ (HT.out _ (S_7))).mono ?_); rintro e w8_ ⟨rfl, h8_⟩; have A_8 : Blk w8_ (w.heap.size) 23 #[.int .i64 0, .int .i64 t, .int .i64 s, .bool r] := (A_7).past h8_; have L_8 : Blk w8_ (w3_.heap.size) 38 #[.int .i64 x1, .int .i64 x2, .int .i64 x3, .int .i64 x4, .int .i64 x5, .int .i64 x6, .int .i64 x7, .int .i64 x8, .int .i64 x9] := (L_7).past h8_; have Z0_8 : Blk w8_ (qb6_) 48 #[.int .i64 p0, .int .i64 q0] := (Z0_7).past h8_; have S_8 := pt (S_7) h8_; clear A_7 L_7 Z0_7 S_7 Ac0 Ac1 Ac2 Ac3 Al Lc0 Lc1 Lc2 Lc3 Lc4 Lc5 Lc6 Lc7 Lc8 Ll Z0c0 Z0c1 Z0l; have Ac0 := A_8.cellAt 0 rfl; have Ac1 := A_8.cellAt 1 rfl; have Ac2 := A_8.cellAt 2 rfl; have Ac3 := A_8.cellAt 3 rfl; have Al := A_8.lt; have Lc0 := L_8.cellAt 0 rfl; have Lc1 := L_8.cellAt 1 rfl; have Lc2 := L_8.cellAt 2 rfl; have Lc3 := L_8.cellAt 3 rfl; have Lc4 := L_8.cellAt 4 rfl; have Lc5 := L_8.cellAt 5 rfl; have Lc6 := L_8.cellAt 6 rfl; have Lc7 := L_8.cellAt 7 rfl; have Lc8 := L_8.cellAt 8 rfl; have Ll := L_8.lt; have Z0c0 := Z0_8.cellAt 0 rfl; have Z0c1 := Z0_8.cellAt 1 rfl; have Z0l := Z0_8.lt; clear h8_)
    | (go_at_call 32; (with_reducible refine (HW0.out _).mono ?_); rintro e w' ⟨rfl, rfl⟩))
  go_quiet (fail)
  have hb1 : Below w8_.heap.size w8_ (w8_.drewN nq) := below_drewN' (Below.refl _ _) nq
  have A_10 : Blk (w8_.drewN nq) (w.heap.size) 23 #[.int .i64 0, .int .i64 t, .int .i64 s, .bool r] := (A_8).past hb1
  have L_10 : Blk (w8_.drewN nq) (w3_.heap.size) 38 #[.int .i64 x1, .int .i64 x2, .int .i64 x3, .int .i64 x4, .int .i64 x5, .int .i64 x6, .int .i64 x7, .int .i64 x8, .int .i64 x9] := (L_8).past hb1
  have Z0_10 : Blk (w8_.drewN nq) (qb6_) 48 #[.int .i64 p0, .int .i64 q0] := (Z0_8).past hb1
  have S_10 := pt (S_8) hb1
  clear A_8 L_8 Z0_8 S_8 Ac0 Ac1 Ac2 Ac3 Al Lc0 Lc1 Lc2 Lc3 Lc4 Lc5 Lc6 Lc7 Lc8 Ll Z0c0 Z0c1 Z0l
  clear hb1
  generalize w8_.drewN nq = w10_ at *
  have Ac0 := A_10.cellAt 0 rfl
  have Ac1 := A_10.cellAt 1 rfl
  have Ac2 := A_10.cellAt 2 rfl
  have Ac3 := A_10.cellAt 3 rfl
  have Al := A_10.lt
  have Lc0 := L_10.cellAt 0 rfl
  have Lc1 := L_10.cellAt 1 rfl
  have Lc2 := L_10.cellAt 2 rfl
  have Lc3 := L_10.cellAt 3 rfl
  have Lc4 := L_10.cellAt 4 rfl
  have Lc5 := L_10.cellAt 5 rfl
  have Lc6 := L_10.cellAt 6 rfl
  have Lc7 := L_10.cellAt 7 rfl
  have Lc8 := L_10.cellAt 8 rfl
  have Ll := L_10.lt
  go_wp2
  go_quiet (fail)
  have hb1 : Below w10_.heap.size w10_ (w10_.drewN nq) := below_drewN' (Below.refl _ _) nq
  have A_11 : Blk (w10_.drewN nq) (w.heap.size) 23 #[.int .i64 0, .int .i64 t, .int .i64 s, .bool r] := (A_10).past hb1
  have L_11 : Blk (w10_.drewN nq) (w3_.heap.size) 38 #[.int .i64 x1, .int .i64 x2, .int .i64 x3, .int .i64 x4, .int .i64 x5, .int .i64 x6, .int .i64 x7, .int .i64 x8, .int .i64 x9] := (L_10).past hb1
  have Z0_11 : Blk (w10_.drewN nq) (qb6_) 48 #[.int .i64 p0, .int .i64 q0] := (Z0_10).past hb1
  have S_11 := pt (S_10) hb1
  clear A_10 L_10 Z0_10 S_10 Ac0 Ac1 Ac2 Ac3 Al Lc0 Lc1 Lc2 Lc3 Lc4 Lc5 Lc6 Lc7 Lc8 Ll
  clear hb1
  generalize w10_.drewN nq = w11_ at *
  have Ac0 := A_11.cellAt 0 rfl
  have Ac1 := A_11.cellAt 1 rfl
  have Ac2 := A_11.cellAt 2 rfl
  have Ac3 := A_11.cellAt 3 rfl
  have Al := A_11.lt
  have Lc0 := L_11.cellAt 0 rfl
  have Lc1 := L_11.cellAt 1 rfl
  have Lc2 := L_11.cellAt 2 rfl
  have Lc3 := L_11.cellAt 3 rfl
  have Lc4 := L_11.cellAt 4 rfl
  have Lc5 := L_11.cellAt 5 rfl
  have Lc6 := L_11.cellAt 6 rfl
  have Lc7 := L_11.cellAt 7 rfl
  have Lc8 := L_11.cellAt 8 rfl
  have Ll := L_11.lt
  go_wp2
  clear Z0_11
  clear ne_A_Z0 ne_L_Z0
  rw [rounds_succ]
  go_wp2
  refine region_alloc_late (zs := #[.int .i64 0, .int .i64 0]) 17 follows_mixed (by kernel_rfl) rfl rfl (fun _ _ => by kernel_rfl) ?_
  simp only [List.take_succ_cons, List.take_zero, List.drop_succ_cons, List.drop_zero]
  repeat (first
    | ((with_reducible apply grow_plain); (focus rfl); (focus (intro w' hw; obtain ⟨hcq, hfq⟩ := bcell hw; go_simp; (first | done | rfl | (with_reducible exact HP1.out _)))); (simp only [Act.put, List.setIfInBounds_toArray, List.set_cons_succ, List.set_cons_zero]))
    | ((with_reducible apply grow_skip); (focus (first | (simp [Region.wanted, yielded]; done) | (simp [Region.wanted, yielded, undef]; done))); simp only [Act.put, List.setIfInBounds_toArray, List.set_cons_succ, List.set_cons_zero])
    | ((with_reducible apply grow_go); (focus (first | (simp [Region.wanted, yielded]; done) | (simp [Region.wanted, yielded, undef]; done))); (focus (intro w' hw; obtain ⟨hcq, hfq⟩ := bcell hw; go_simp; (first | done | rfl | (with_reducible exact HP1.out _)))); (simp only [Act.put, List.setIfInBounds_toArray, List.set_cons_succ, List.set_cons_zero])))
  refine grow_nil ?_
  refine ⟨#[.int .i64 p1, .int .i64 q1], fun _ => rfl, fun _ => rfl, rfl, phasor2_size, (by simp [Value.oneCell']; done), ?_⟩
  intro qb12_ w1 hgZ hbZ hb1
  simp only [Act.put, List.setIfInBounds_toArray, List.set_cons_succ, List.set_cons_zero]
  have ne_A_Z1 : w.heap.size ≠ qb12_ := by have := A_11.lt; omega
  have A_12 : Blk w1 (w.heap.size) 23 #[.int .i64 0, .int .i64 t, .int .i64 s, .bool r] := A_11.past hb1
  have ne_L_Z1 : w3_.heap.size ≠ qb12_ := by have := L_11.lt; omega
  have L_12 : Blk w1 (w3_.heap.size) 38 #[.int .i64 x1, .int .i64 x2, .int .i64 x3, .int .i64 x4, .int .i64 x5, .int .i64 x6, .int .i64 x7, .int .i64 x8, .int .i64 x9] := L_11.past hb1
  have Z1_12 : Blk w1 qb12_ 48 #[.int .i64 p1, .int .i64 q1] := hbZ
  have ge_Z1 : w.heap.size ≤ qb12_ := by have := (S_11).size; omega
  have S_12 := pt (S_11) hb1
  clear A_11 L_11 S_11 Ac0 Ac1 Ac2 Ac3 Al Lc0 Lc1 Lc2 Lc3 Lc4 Lc5 Lc6 Lc7 Lc8 Ll
  clear hb1 hbZ hgZ
  obtain ⟨w12_, rfl⟩ : ∃ v, v = w1 := ⟨_, rfl⟩
  have Ac0 := A_12.cellAt 0 rfl
  have Ac1 := A_12.cellAt 1 rfl
  have Ac2 := A_12.cellAt 2 rfl
  have Ac3 := A_12.cellAt 3 rfl
  have Al := A_12.lt
  have Lc0 := L_12.cellAt 0 rfl
  have Lc1 := L_12.cellAt 1 rfl
  have Lc2 := L_12.cellAt 2 rfl
  have Lc3 := L_12.cellAt 3 rfl
  have Lc4 := L_12.cellAt 4 rfl
  have Lc5 := L_12.cellAt 5 rfl
  have Lc6 := L_12.cellAt 6 rfl
  have Lc7 := L_12.cellAt 7 rfl
  have Lc8 := L_12.cellAt 8 rfl
  have Ll := L_12.lt
  have Z1c0 := Z1_12.cellAt 0 rfl
  have Z1c1 := Z1_12.cellAt 1 rfl
  have Z1l := Z1_12.lt
  go_wp2_with (first
    | (go_at_call 22; (with_reducible refine (HS1.out _).mono ?_); rintro e w13_ ⟨rfl, h13_⟩; have A_13 : Blk w13_ (w.heap.size) 23 #[.int .i64 0, .int .i64 t, .int .i64 s, .bool r] := (A_12).past h13_; have L_13 : Blk w13_ (w3_.heap.size) 38 #[.int .i64 x1, .int .i64 x2, .int .i64 x3, .int .i64 x4, .int .i64 x5, .int .i64 x6, .int .i64 x7, .int .i64 x8, .int .i64 x9] := (L_12).past h13_; have Z1_13 : Blk w13_ (qb12_) 48 #[.int .i64 p1, .int .i64 q1] := (Z1_12).past h13_; have S_13 := pt (S_12) h13_; clear A_12 L_12 Z1_12 S_12 Ac0 Ac1 Ac2 Ac3 Al Lc0 Lc1 Lc2 Lc3 Lc4 Lc5 Lc6 Lc7 Lc8 Ll Z1c0 Z1c1 Z1l; have Ac0 := A_13.cellAt 0 rfl; have Ac1 := A_13.cellAt 1 rfl; have Ac2 := A_13.cellAt 2 rfl; have Ac3 := A_13.cellAt 3 rfl; have Al := A_13.lt; have Lc0 := L_13.cellAt 0 rfl; have Lc1 := L_13.cellAt 1 rfl; have Lc2 := L_13.cellAt 2 rfl; have Lc3 := L_13.cellAt 3 rfl; have Lc4 := L_13.cellAt 4 rfl; have Lc5 := L_13.cellAt 5 rfl; have Lc6 := L_13.cellAt 6 rfl; have Lc7 := L_13.cellAt 7 rfl; have Lc8 := L_13.cellAt 8 rfl; have Ll := L_13.lt; have Z1c0 := Z1_13.cellAt 0 rfl; have Z1c1 := Z1_13.cellAt 1 rfl; have Z1l := Z1_13.lt; clear h13_)
    | (go_at_call 23; (with_reducible refine (HH1.out _ (HT.out _ (S_13))).mono ?_); rintro e w14_ ⟨rfl, h14_⟩; have A_14 : Blk w14_ (w.heap.size) 23 #[.int .i64 0, .int .i64 t, .int .i64 s, .bool r] := (A_13).past h14_; have L_14 : Blk w14_ (w3_.heap.size) 38 #[.int .i64 x1, .int .i64 x2, .int .i64 x3, .int .i64 x4, .int .i64 x5, .int .i64 x6, .int .i64 x7, .int .i64 x8, .int .i64 x9] := (L_13).past h14_; have Z1_14 : Blk w14_ (qb12_) 48 #[.int .i64 p1, .int .i64 q1] := (Z1_13).past h14_; have S_14 := pt (S_13) h14_; clear A_13 L_13 Z1_13 S_13 Ac0 Ac1 Ac2 Ac3 Al Lc0 Lc1 Lc2 Lc3 Lc4 Lc5 Lc6 Lc7 Lc8 Ll Z1c0 Z1c1 Z1l; have Ac0 := A_14.cellAt 0 rfl; have Ac1 := A_14.cellAt 1 rfl; have Ac2 := A_14.cellAt 2 rfl; have Ac3 := A_14.cellAt 3 rfl; have Al := A_14.lt; have Lc0 := L_14.cellAt 0 rfl; have Lc1 := L_14.cellAt 1 rfl; have Lc2 := L_14.cellAt 2 rfl; have Lc3 := L_14.cellAt 3 rfl; have Lc4 := L_14.cellAt 4 rfl; have Lc5 := L_14.cellAt 5 rfl; have Lc6 := L_14.cellAt 6 rfl; have Lc7 := L_14.cellAt 7 rfl; have Lc8 := L_14.cellAt 8 rfl; have Ll := L_14.lt; have Z1c0 := Z1_14.cellAt 0 rfl; have Z1c1 := Z1_14.cellAt 1 rfl; have Z1l := Z1_14.lt; clear h14_)
    | (go_at_call 32; (with_reducible refine (HW1.out _).mono ?_); rintro e w' ⟨rfl, rfl⟩))
  go_quiet (fail)
  have hb1 : Below w14_.heap.size w14_ (w14_.drewN nq) := below_drewN' (Below.refl _ _) nq
  have A_16 : Blk (w14_.drewN nq) (w.heap.size) 23 #[.int .i64 0, .int .i64 t, .int .i64 s, .bool r] := (A_14).past hb1
  have L_16 : Blk (w14_.drewN nq) (w3_.heap.size) 38 #[.int .i64 x1, .int .i64 x2, .int .i64 x3, .int .i64 x4, .int .i64 x5, .int .i64 x6, .int .i64 x7, .int .i64 x8, .int .i64 x9] := (L_14).past hb1
  have Z1_16 : Blk (w14_.drewN nq) (qb12_) 48 #[.int .i64 p1, .int .i64 q1] := (Z1_14).past hb1
  have S_16 := pt (S_14) hb1
  clear A_14 L_14 Z1_14 S_14 Ac0 Ac1 Ac2 Ac3 Al Lc0 Lc1 Lc2 Lc3 Lc4 Lc5 Lc6 Lc7 Lc8 Ll Z1c0 Z1c1 Z1l
  clear hb1
  generalize w14_.drewN nq = w16_ at *
  have Ac0 := A_16.cellAt 0 rfl
  have Ac1 := A_16.cellAt 1 rfl
  have Ac2 := A_16.cellAt 2 rfl
  have Ac3 := A_16.cellAt 3 rfl
  have Al := A_16.lt
  have Lc0 := L_16.cellAt 0 rfl
  have Lc1 := L_16.cellAt 1 rfl
  have Lc2 := L_16.cellAt 2 rfl
  have Lc3 := L_16.cellAt 3 rfl
  have Lc4 := L_16.cellAt 4 rfl
  have Lc5 := L_16.cellAt 5 rfl
  have Lc6 := L_16.cellAt 6 rfl
  have Lc7 := L_16.cellAt 7 rfl
  have Lc8 := L_16.cellAt 8 rfl
  have Ll := L_16.lt
  go_wp2
  go_quiet (fail)
  have hb1 : Below w16_.heap.size w16_ (w16_.drewN nq) := below_drewN' (Below.refl _ _) nq
  have A_17 : Blk (w16_.drewN nq) (w.heap.size) 23 #[.int .i64 0, .int .i64 t, .int .i64 s, .bool r] := (A_16).past hb1
  have L_17 : Blk (w16_.drewN nq) (w3_.heap.size) 38 #[.int .i64 x1, .int .i64 x2, .int .i64 x3, .int .i64 x4, .int .i64 x5, .int .i64 x6, .int .i64 x7, .int .i64 x8, .int .i64 x9] := (L_16).past hb1
  have Z1_17 : Blk (w16_.drewN nq) (qb12_) 48 #[.int .i64 p1, .int .i64 q1] := (Z1_16).past hb1
  have S_17 := pt (S_16) hb1
  clear A_16 L_16 Z1_16 S_16 Ac0 Ac1 Ac2 Ac3 Al Lc0 Lc1 Lc2 Lc3 Lc4 Lc5 Lc6 Lc7 Lc8 Ll
  clear hb1
  generalize w16_.drewN nq = w17_ at *
  have Ac0 := A_17.cellAt 0 rfl
  have Ac1 := A_17.cellAt 1 rfl
  have Ac2 := A_17.cellAt 2 rfl
  have Ac3 := A_17.cellAt 3 rfl
  have Al := A_17.lt
  have Lc0 := L_17.cellAt 0 rfl
  have Lc1 := L_17.cellAt 1 rfl
  have Lc2 := L_17.cellAt 2 rfl
  have Lc3 := L_17.cellAt 3 rfl
  have Lc4 := L_17.cellAt 4 rfl
  have Lc5 := L_17.cellAt 5 rfl
  have Lc6 := L_17.cellAt 6 rfl
  have Lc7 := L_17.cellAt 7 rfl
  have Lc8 := L_17.cellAt 8 rfl
  have Ll := L_17.lt
  go_wp2
  clear Z1_17
  clear ne_A_Z1 ne_L_Z1
  rw [rounds_succ]
  go_wp2
  refine region_alloc_late (zs := #[.int .i64 0, .int .i64 0]) 17 follows_mixed (by kernel_rfl) rfl rfl (fun _ _ => by kernel_rfl) ?_
  simp only [List.take_succ_cons, List.take_zero, List.drop_succ_cons, List.drop_zero]
  repeat (first
    | ((with_reducible apply grow_plain); (focus rfl); (focus (intro w' hw; obtain ⟨hcq, hfq⟩ := bcell hw; go_simp; (first | done | rfl | (with_reducible exact HP2.out _)))); (simp only [Act.put, List.setIfInBounds_toArray, List.set_cons_succ, List.set_cons_zero]))
    | ((with_reducible apply grow_skip); (focus (first | (simp [Region.wanted, yielded]; done) | (simp [Region.wanted, yielded, undef]; done))); simp only [Act.put, List.setIfInBounds_toArray, List.set_cons_succ, List.set_cons_zero])
    | ((with_reducible apply grow_go); (focus (first | (simp [Region.wanted, yielded]; done) | (simp [Region.wanted, yielded, undef]; done))); (focus (intro w' hw; obtain ⟨hcq, hfq⟩ := bcell hw; go_simp; (first | done | rfl | (with_reducible exact HP2.out _)))); (simp only [Act.put, List.setIfInBounds_toArray, List.set_cons_succ, List.set_cons_zero])))
  refine grow_nil ?_
  refine ⟨#[.int .i64 p2, .int .i64 q2], fun _ => rfl, fun _ => rfl, rfl, phasor2_size, (by simp [Value.oneCell']; done), ?_⟩
  intro qb18_ w1 hgZ hbZ hb1
  simp only [Act.put, List.setIfInBounds_toArray, List.set_cons_succ, List.set_cons_zero]
  have ne_A_Z2 : w.heap.size ≠ qb18_ := by have := A_17.lt; omega
  have A_18 : Blk w1 (w.heap.size) 23 #[.int .i64 0, .int .i64 t, .int .i64 s, .bool r] := A_17.past hb1
  have ne_L_Z2 : w3_.heap.size ≠ qb18_ := by have := L_17.lt; omega
  have L_18 : Blk w1 (w3_.heap.size) 38 #[.int .i64 x1, .int .i64 x2, .int .i64 x3, .int .i64 x4, .int .i64 x5, .int .i64 x6, .int .i64 x7, .int .i64 x8, .int .i64 x9] := L_17.past hb1
  have Z2_18 : Blk w1 qb18_ 48 #[.int .i64 p2, .int .i64 q2] := hbZ
  have ge_Z2 : w.heap.size ≤ qb18_ := by have := (S_17).size; omega
  have S_18 := pt (S_17) hb1
  clear A_17 L_17 S_17 Ac0 Ac1 Ac2 Ac3 Al Lc0 Lc1 Lc2 Lc3 Lc4 Lc5 Lc6 Lc7 Lc8 Ll
  clear hb1 hbZ hgZ
  obtain ⟨w18_, rfl⟩ : ∃ v, v = w1 := ⟨_, rfl⟩
  have Ac0 := A_18.cellAt 0 rfl
  have Ac1 := A_18.cellAt 1 rfl
  have Ac2 := A_18.cellAt 2 rfl
  have Ac3 := A_18.cellAt 3 rfl
  have Al := A_18.lt
  have Lc0 := L_18.cellAt 0 rfl
  have Lc1 := L_18.cellAt 1 rfl
  have Lc2 := L_18.cellAt 2 rfl
  have Lc3 := L_18.cellAt 3 rfl
  have Lc4 := L_18.cellAt 4 rfl
  have Lc5 := L_18.cellAt 5 rfl
  have Lc6 := L_18.cellAt 6 rfl
  have Lc7 := L_18.cellAt 7 rfl
  have Lc8 := L_18.cellAt 8 rfl
  have Ll := L_18.lt
  have Z2c0 := Z2_18.cellAt 0 rfl
  have Z2c1 := Z2_18.cellAt 1 rfl
  have Z2l := Z2_18.lt
  go_wp2_with (first
    | (go_at_call 22; (with_reducible refine (HS2.out _).mono ?_); rintro e w19_ ⟨rfl, h19_⟩; have A_19 : Blk w19_ (w.heap.size) 23 #[.int .i64 0, .int .i64 t, .int .i64 s, .bool r] := (A_18).past h19_; have L_19 : Blk w19_ (w3_.heap.size) 38 #[.int .i64 x1, .int .i64 x2, .int .i64 x3, .int .i64 x4, .int .i64 x5, .int .i64 x6, .int .i64 x7, .int .i64 x8, .int .i64 x9] := (L_18).past h19_; have Z2_19 : Blk w19_ (qb18_) 48 #[.int .i64 p2, .int .i64 q2] := (Z2_18).past h19_; have S_19 := pt (S_18) h19_; clear A_18 L_18 Z2_18 S_18 Ac0 Ac1 Ac2 Ac3 Al Lc0 Lc1 Lc2 Lc3 Lc4 Lc5 Lc6 Lc7 Lc8 Ll Z2c0 Z2c1 Z2l; have Ac0 := A_19.cellAt 0 rfl; have Ac1 := A_19.cellAt 1 rfl; have Ac2 := A_19.cellAt 2 rfl; have Ac3 := A_19.cellAt 3 rfl; have Al := A_19.lt; have Lc0 := L_19.cellAt 0 rfl; have Lc1 := L_19.cellAt 1 rfl; have Lc2 := L_19.cellAt 2 rfl; have Lc3 := L_19.cellAt 3 rfl; have Lc4 := L_19.cellAt 4 rfl; have Lc5 := L_19.cellAt 5 rfl; have Lc6 := L_19.cellAt 6 rfl; have Lc7 := L_19.cellAt 7 rfl; have Lc8 := L_19.cellAt 8 rfl; have Ll := L_19.lt; have Z2c0 := Z2_19.cellAt 0 rfl; have Z2c1 := Z2_19.cellAt 1 rfl; have Z2l := Z2_19.lt; clear h19_)
    | (go_at_call 23; (with_reducible refine (HH2.out _ (HT.out _ (S_19))).mono ?_); rintro e w20_ ⟨rfl, h20_⟩; have A_20 : Blk w20_ (w.heap.size) 23 #[.int .i64 0, .int .i64 t, .int .i64 s, .bool r] := (A_19).past h20_; have L_20 : Blk w20_ (w3_.heap.size) 38 #[.int .i64 x1, .int .i64 x2, .int .i64 x3, .int .i64 x4, .int .i64 x5, .int .i64 x6, .int .i64 x7, .int .i64 x8, .int .i64 x9] := (L_19).past h20_; have Z2_20 : Blk w20_ (qb18_) 48 #[.int .i64 p2, .int .i64 q2] := (Z2_19).past h20_; have S_20 := pt (S_19) h20_; clear A_19 L_19 Z2_19 S_19 Ac0 Ac1 Ac2 Ac3 Al Lc0 Lc1 Lc2 Lc3 Lc4 Lc5 Lc6 Lc7 Lc8 Ll Z2c0 Z2c1 Z2l; have Ac0 := A_20.cellAt 0 rfl; have Ac1 := A_20.cellAt 1 rfl; have Ac2 := A_20.cellAt 2 rfl; have Ac3 := A_20.cellAt 3 rfl; have Al := A_20.lt; have Lc0 := L_20.cellAt 0 rfl; have Lc1 := L_20.cellAt 1 rfl; have Lc2 := L_20.cellAt 2 rfl; have Lc3 := L_20.cellAt 3 rfl; have Lc4 := L_20.cellAt 4 rfl; have Lc5 := L_20.cellAt 5 rfl; have Lc6 := L_20.cellAt 6 rfl; have Lc7 := L_20.cellAt 7 rfl; have Lc8 := L_20.cellAt 8 rfl; have Ll := L_20.lt; have Z2c0 := Z2_20.cellAt 0 rfl; have Z2c1 := Z2_20.cellAt 1 rfl; have Z2l := Z2_20.lt; clear h20_)
    | (go_at_call 32; (with_reducible refine (HW2.out _).mono ?_); rintro e w' ⟨rfl, rfl⟩))
  go_quiet (fail)
  have hb1 : Below w20_.heap.size w20_ (w20_.drewN nq) := below_drewN' (Below.refl _ _) nq
  have A_22 : Blk (w20_.drewN nq) (w.heap.size) 23 #[.int .i64 0, .int .i64 t, .int .i64 s, .bool r] := (A_20).past hb1
  have L_22 : Blk (w20_.drewN nq) (w3_.heap.size) 38 #[.int .i64 x1, .int .i64 x2, .int .i64 x3, .int .i64 x4, .int .i64 x5, .int .i64 x6, .int .i64 x7, .int .i64 x8, .int .i64 x9] := (L_20).past hb1
  have Z2_22 : Blk (w20_.drewN nq) (qb18_) 48 #[.int .i64 p2, .int .i64 q2] := (Z2_20).past hb1
  have S_22 := pt (S_20) hb1
  clear A_20 L_20 Z2_20 S_20 Ac0 Ac1 Ac2 Ac3 Al Lc0 Lc1 Lc2 Lc3 Lc4 Lc5 Lc6 Lc7 Lc8 Ll Z2c0 Z2c1 Z2l
  clear hb1
  generalize w20_.drewN nq = w22_ at *
  have Ac0 := A_22.cellAt 0 rfl
  have Ac1 := A_22.cellAt 1 rfl
  have Ac2 := A_22.cellAt 2 rfl
  have Ac3 := A_22.cellAt 3 rfl
  have Al := A_22.lt
  have Lc0 := L_22.cellAt 0 rfl
  have Lc1 := L_22.cellAt 1 rfl
  have Lc2 := L_22.cellAt 2 rfl
  have Lc3 := L_22.cellAt 3 rfl
  have Lc4 := L_22.cellAt 4 rfl
  have Lc5 := L_22.cellAt 5 rfl
  have Lc6 := L_22.cellAt 6 rfl
  have Lc7 := L_22.cellAt 7 rfl
  have Lc8 := L_22.cellAt 8 rfl
  have Ll := L_22.lt
  go_wp2
  go_quiet (fail)
  have hb1 : Below w22_.heap.size w22_ (w22_.drewN nq) := below_drewN' (Below.refl _ _) nq
  have A_23 : Blk (w22_.drewN nq) (w.heap.size) 23 #[.int .i64 0, .int .i64 t, .int .i64 s, .bool r] := (A_22).past hb1
  have L_23 : Blk (w22_.drewN nq) (w3_.heap.size) 38 #[.int .i64 x1, .int .i64 x2, .int .i64 x3, .int .i64 x4, .int .i64 x5, .int .i64 x6, .int .i64 x7, .int .i64 x8, .int .i64 x9] := (L_22).past hb1
  have Z2_23 : Blk (w22_.drewN nq) (qb18_) 48 #[.int .i64 p2, .int .i64 q2] := (Z2_22).past hb1
  have S_23 := pt (S_22) hb1
  clear A_22 L_22 Z2_22 S_22 Ac0 Ac1 Ac2 Ac3 Al Lc0 Lc1 Lc2 Lc3 Lc4 Lc5 Lc6 Lc7 Lc8 Ll
  clear hb1
  generalize w22_.drewN nq = w23_ at *
  have Ac0 := A_23.cellAt 0 rfl
  have Ac1 := A_23.cellAt 1 rfl
  have Ac2 := A_23.cellAt 2 rfl
  have Ac3 := A_23.cellAt 3 rfl
  have Al := A_23.lt
  have Lc0 := L_23.cellAt 0 rfl
  have Lc1 := L_23.cellAt 1 rfl
  have Lc2 := L_23.cellAt 2 rfl
  have Lc3 := L_23.cellAt 3 rfl
  have Lc4 := L_23.cellAt 4 rfl
  have Lc5 := L_23.cellAt 5 rfl
  have Lc6 := L_23.cellAt 6 rfl
  have Lc7 := L_23.cellAt 7 rfl
  have Lc8 := L_23.cellAt 8 rfl
  have Ll := L_23.lt
  go_wp2
  clear Z2_23
  clear ne_A_Z2 ne_L_Z2
  rw [rounds_succ]
  go_wp2
  go_ret
  exact ⟨rfl, by repeat (first | exact S_23 | refine pa ?_)⟩

set_option maxHeartbeats 32000000 in
set_option maxRecDepth 100000 in
theorem bal_1 (t s : Int) (r : Bool) (x1 x2 x3 x4 x5 x6 x7 x8 x9 p0 q0 p1 q1 p2 q2 f1 N h0 h1 h2 a b : Int) (w : World) (hT : TwIn w) (hP : PatIn w) (hw : windE 1 t s = 0)
    (hl : ∀ w, PatIn w → Calls Tryd.prog 16 #[.agg #[.int .i64 1, .int .i64 t, .int .i64 s, .bool r]] w fun e w' => e = .returned (.tuple #[.agg #[.int .i64 x1, .int .i64 x2, .int .i64 x3, .int .i64 x4, .int .i64 x5, .int .i64 x6, .int .i64 x7, .int .i64 x8, .int .i64 x9], .int .i64 0]) ∧ Below w.heap.size w w')
    (hq : ∀ w, Calls Tryd.prog 30 #[.agg #[.int .i64 x1, .int .i64 x2, .int .i64 x3, .int .i64 x4, .int .i64 x5, .int .i64 x6, .int .i64 x7, .int .i64 x8, .int .i64 x9]] w fun e w' => e = .returned (.tuple #[.int .i64 1, .int .i64 0]) ∧ Below w.heap.size w w')
    (hp0 : ∀ w, Calls Tryd.prog 31 #[.agg #[.int .i64 x1, .int .i64 x2, .int .i64 x3, .int .i64 x4, .int .i64 x5, .int .i64 x6, .int .i64 x7, .int .i64 x8, .int .i64 x9]] w fun e w' => e = .returned (.tuple #[.agg #[.int .i64 p0, .int .i64 q0], .int .i64 0]) ∧ Below w.heap.size w w')
    (hs0 : ∀ w, Calls Tryd.prog 22 #[.agg #[.int .i64 p0, .int .i64 q0]] w fun e w' => e = .returned (.tuple #[.int .i64 N, .int .i64 0]) ∧ Below w.heap.size w w')
    (hh0 : ∀ w, TwIn w → Calls Tryd.prog 23 #[.agg #[.int .i64 p0, .int .i64 q0]] w fun e w' => e = .returned (.tuple #[.int .i64 h0, .int .i64 0]) ∧ Below w.heap.size w w')
    (hw0 : withinB h0 0 11 = true)
    (hp1 : ∀ w, Calls Tryd.prog 31 #[.agg #[.int .i64 x4, .int .i64 x5, .int .i64 x6, .int .i64 x7, .int .i64 x8, .int .i64 x9, .int .i64 x1, .int .i64 x2, .int .i64 x3]] w fun e w' => e = .returned (.tuple #[.agg #[.int .i64 p1, .int .i64 q1], .int .i64 0]) ∧ Below w.heap.size w w')
    (hs1 : ∀ w, Calls Tryd.prog 22 #[.agg #[.int .i64 p1, .int .i64 q1]] w fun e w' => e = .returned (.tuple #[.int .i64 N, .int .i64 0]) ∧ Below w.heap.size w w')
    (hh1 : ∀ w, TwIn w → Calls Tryd.prog 23 #[.agg #[.int .i64 p1, .int .i64 q1]] w fun e w' => e = .returned (.tuple #[.int .i64 h1, .int .i64 0]) ∧ Below w.heap.size w w')
    (hw1 : withinB h1 0 11 = true)
    (hp2 : ∀ w, Calls Tryd.prog 31 #[.agg #[.int .i64 x7, .int .i64 x8, .int .i64 x9, .int .i64 x1, .int .i64 x2, .int .i64 x3, .int .i64 x4, .int .i64 x5, .int .i64 x6]] w fun e w' => e = .returned (.tuple #[.agg #[.int .i64 p2, .int .i64 q2], .int .i64 0]) ∧ Below w.heap.size w w')
    (hs2 : ∀ w, Calls Tryd.prog 22 #[.agg #[.int .i64 p2, .int .i64 q2]] w fun e w' => e = .returned (.tuple #[.int .i64 N, .int .i64 0]) ∧ Below w.heap.size w w')
    (hh2 : ∀ w, TwIn w → Calls Tryd.prog 23 #[.agg #[.int .i64 p2, .int .i64 q2]] w fun e w' => e = .returned (.tuple #[.int .i64 h2, .int .i64 0]) ∧ Below w.heap.size w w')
    (hw2 : withinB h2 0 11 = true)
    (hf1 : IntKind.i64.wrap (1 * t) = f1) (hf2 : IntKind.i64.wrap (f1 * t) = N)
    (ha0 : IntKind.i64.wrap p0 = p0) (ha1 : IntKind.i64.wrap (p0 + p1) = a) (ha2 : IntKind.i64.wrap (a + p2) = 0)
    (hb0 : IntKind.i64.wrap q0 = q0) (hb1' : IntKind.i64.wrap (q0 + q1) = b) (hb2 : IntKind.i64.wrap (b + q2) = 0)
    : Calls Tryd.prog 6 #[.agg #[.int .i64 1, .int .i64 t, .int .i64 s, .bool r]] w fun e w' => e = .returned (.bool true) ∧ Below w.heap.size w w' := by
  have HT := Lib.hid (fun w' (h : Below w.heap.size w w') => hT.below h)
  have HP := Lib.hid (fun w' (h : Below w.heap.size w w') => hP.below h)
  have HE := Lib.hid (refWindingErr_any 1 t s r)
  rw [hw] at HE
  have HL := Lib.hid hl
  have HQ := Lib.hid hq
  clear hT hP hl hq hw
  have HP0 := Lib.hid hp0
  have HS0 := Lib.hid hs0
  have HH0 := Lib.hid hh0
  have HW0 := Lib.hid (refWithin_any h0 0 11)
  rw [hw0] at HW0
  clear hp0 hs0 hh0 hw0
  have HP1 := Lib.hid hp1
  have HS1 := Lib.hid hs1
  have HH1 := Lib.hid hh1
  have HW1 := Lib.hid (refWithin_any h1 0 11)
  rw [hw1] at HW1
  clear hp1 hs1 hh1 hw1
  have HP2 := Lib.hid hp2
  have HS2 := Lib.hid hs2
  have HH2 := Lib.hid hh2
  have HW2 := Lib.hid (refWithin_any h2 0 11)
  rw [hw2] at HW2
  clear hp2 hs2 hh2 hw2
  rw [Int.one_mul] at hf1
  have z0 : IntKind.i64.wrap 0 = 0 := by decide
  have z1 : IntKind.i64.wrap 1 = 1 := by decide
  have z2 : IntKind.i64.wrap 2 = 2 := by decide
  have z3 : IntKind.i64.wrap 3 = 3 := by decide
  have z4 : IntKind.i64.wrap 4 = 4 := by decide
  go_enter Tryd.func6, Tryd.ntmps6
  go_wp2_with (first
    | (go_at_call 11; (with_reducible refine (awake_any _ (HT.out _ (pa (pr))) (HP.out _ (pa (pr)))).mono ?_); rintro e w1_ ⟨rfl, h1_⟩; have A_1 : Blk w1_ (w.heap.size) 23 #[.int .i64 1, .int .i64 t, .int .i64 s, .bool r] := (Blk.newAt (by simp)).past h1_; have S_1 := pt (pa (pr)) h1_; have Ac0 := A_1.cellAt 0 rfl; have Ac1 := A_1.cellAt 1 rfl; have Ac2 := A_1.cellAt 2 rfl; have Ac3 := A_1.cellAt 3 rfl; have Al := A_1.lt; clear h1_)
    | (go_at_call 13; (with_reducible refine (HE.out _).mono ?_); rintro e w2_ ⟨rfl, h2_⟩; have A_2 : Blk w2_ (w.heap.size) 23 #[.int .i64 1, .int .i64 t, .int .i64 s, .bool r] := (A_1).past h2_; have S_2 := pt (S_1) h2_; clear A_1 S_1 Ac0 Ac1 Ac2 Ac3 Al; have Ac0 := A_2.cellAt 0 rfl; have Ac1 := A_2.cellAt 1 rfl; have Ac2 := A_2.cellAt 2 rfl; have Ac3 := A_2.cellAt 3 rfl; have Al := A_2.lt; clear h2_)
    | (go_at_call 16; (with_reducible refine (HL.out _ (HP.out _ (S_2))).mono ?_); rintro e w3_ ⟨rfl, h3_⟩; have A_3 : Blk w3_ (w.heap.size) 23 #[.int .i64 1, .int .i64 t, .int .i64 s, .bool r] := (A_2).past h3_; have S_3 := pt (S_2) h3_; clear A_2 S_2 Ac0 Ac1 Ac2 Ac3 Al; have Ac0 := A_3.cellAt 0 rfl; have Ac1 := A_3.cellAt 1 rfl; have Ac2 := A_3.cellAt 2 rfl; have Ac3 := A_3.cellAt 3 rfl; have Al := A_3.lt; clear h3_)
    | ((with_reducible refine load_sub (T := 38) (x := .tmp 3) (o := 0) (vs := #[.int .i64 x1, .int .i64 x2, .int .i64 x3, .int .i64 x4, .int .i64 x5, .int .i64 x6, .int .i64 x7, .int .i64 x8, .int .i64 x9]) (show Blk _ (w3_.heap.size) 38 #[.int .i64 x1, .int .i64 x2, .int .i64 x3, .int .i64 x4, .int .i64 x5, .int .i64 x6, .int .i64 x7, .int .i64 x8, .int .i64 x9] from (Blk.newAt (by simp))) ?_ ?_ Tryd.underlying38 ?_ ?_ ?_); (focus rfl); (focus rfl); (focus rfl); (focus exact apiLines_size))
    | (go_at_call 30; (with_reducible refine (HQ.out _).mono ?_); rintro e w4_ ⟨rfl, h4_⟩; have A_4 : Blk w4_ (w.heap.size) 23 #[.int .i64 1, .int .i64 t, .int .i64 s, .bool r] := (A_3.alloc).past h4_; have L_4 : Blk w4_ (w3_.heap.size) 38 #[.int .i64 x1, .int .i64 x2, .int .i64 x3, .int .i64 x4, .int .i64 x5, .int .i64 x6, .int .i64 x7, .int .i64 x8, .int .i64 x9] := (Blk.newAt (by simp)).past h4_; have S_4 := pt (pa (S_3)) h4_; clear A_3 S_3 Ac0 Ac1 Ac2 Ac3 Al; have Ac0 := A_4.cellAt 0 rfl; have Ac1 := A_4.cellAt 1 rfl; have Ac2 := A_4.cellAt 2 rfl; have Ac3 := A_4.cellAt 3 rfl; have Al := A_4.lt; have Lc0 := L_4.cellAt 0 rfl; have Lc1 := L_4.cellAt 1 rfl; have Lc2 := L_4.cellAt 2 rfl; have Lc3 := L_4.cellAt 3 rfl; have Lc4 := L_4.cellAt 4 rfl; have Lc5 := L_4.cellAt 5 rfl; have Lc6 := L_4.cellAt 6 rfl; have Lc7 := L_4.cellAt 7 rfl; have Lc8 := L_4.cellAt 8 rfl; have Ll := L_4.lt; clear h4_))
  have A_5 : Blk (w4_.alloc (.cells #[.int .i64 3, .int .i64 1, .int .i64 9] 3)) (w.heap.size) 23 #[.int .i64 1, .int .i64 t, .int .i64 s, .bool r] := (A_4.alloc)
  have L_5 : Blk (w4_.alloc (.cells #[.int .i64 3, .int .i64 1, .int .i64 9] 3)) (w3_.heap.size) 38 #[.int .i64 x1, .int .i64 x2, .int .i64 x3, .int .i64 x4, .int .i64 x5, .int .i64 x6, .int .i64 x7, .int .i64 x8, .int .i64 x9] := (L_4.alloc)
  have B_5 : Blk (w4_.alloc (.cells #[.int .i64 3, .int .i64 1, .int .i64 9] 3)) (w4_.heap.size) 3 #[.int .i64 3, .int .i64 1, .int .i64 9] := (Blk.newAt (by simp))
  have S_5 := (show Below w.heap.size w (w4_.alloc (.cells #[.int .i64 3, .int .i64 1, .int .i64 9] 3)) from pa (S_4))
  clear A_4 L_4 S_4 Ac0 Ac1 Ac2 Ac3 Al Lc0 Lc1 Lc2 Lc3 Lc4 Lc5 Lc6 Lc7 Lc8 Ll
  generalize w4_.alloc (.cells #[.int .i64 3, .int .i64 1, .int .i64 9] 3) = w5_ at *
  clear B_5
  refine wp_loop_rounds 4 ?_
  rw [rounds_succ]
  have Ac0 := A_5.cellAt 0 rfl
  have Ac1 := A_5.cellAt 1 rfl
  have Ac2 := A_5.cellAt 2 rfl
  have Ac3 := A_5.cellAt 3 rfl
  have Al := A_5.lt
  have Lc0 := L_5.cellAt 0 rfl
  have Lc1 := L_5.cellAt 1 rfl
  have Lc2 := L_5.cellAt 2 rfl
  have Lc3 := L_5.cellAt 3 rfl
  have Lc4 := L_5.cellAt 4 rfl
  have Lc5 := L_5.cellAt 5 rfl
  have Lc6 := L_5.cellAt 6 rfl
  have Lc7 := L_5.cellAt 7 rfl
  have Lc8 := L_5.cellAt 8 rfl
  have Ll := L_5.lt
  go_wp2
  refine region_alloc_late (zs := #[.int .i64 0, .int .i64 0]) 17 follows_mixed (by kernel_rfl) rfl rfl (fun _ _ => by kernel_rfl) ?_
  simp only [List.take_succ_cons, List.take_zero, List.drop_succ_cons, List.drop_zero]
  repeat (first
    | ((with_reducible apply grow_plain); (focus rfl); (focus (intro w' hw; obtain ⟨hcq, hfq⟩ := bcell hw; go_simp; (first | done | rfl | (with_reducible exact HP0.out _)))); (simp only [Act.put, List.setIfInBounds_toArray, List.set_cons_succ, List.set_cons_zero]))
    | ((with_reducible apply grow_skip); (focus (first | (simp [Region.wanted, yielded]; done) | (simp [Region.wanted, yielded, undef]; done))); simp only [Act.put, List.setIfInBounds_toArray, List.set_cons_succ, List.set_cons_zero])
    | ((with_reducible apply grow_go); (focus (first | (simp [Region.wanted, yielded]; done) | (simp [Region.wanted, yielded, undef]; done))); (focus (intro w' hw; obtain ⟨hcq, hfq⟩ := bcell hw; go_simp; (first | done | rfl | (with_reducible exact HP0.out _)))); (simp only [Act.put, List.setIfInBounds_toArray, List.set_cons_succ, List.set_cons_zero])))
  refine grow_nil ?_
  refine ⟨#[.int .i64 p0, .int .i64 q0], fun _ => rfl, fun _ => rfl, rfl, phasor2_size, (by simp [Value.oneCell']; done), ?_⟩
  intro qb6_ w1 hgZ hbZ hb1
  simp only [Act.put, List.setIfInBounds_toArray, List.set_cons_succ, List.set_cons_zero]
  have ne_A_Z0 : w.heap.size ≠ qb6_ := by have := A_5.lt; omega
  have A_6 : Blk w1 (w.heap.size) 23 #[.int .i64 1, .int .i64 t, .int .i64 s, .bool r] := A_5.past hb1
  have ne_L_Z0 : w3_.heap.size ≠ qb6_ := by have := L_5.lt; omega
  have L_6 : Blk w1 (w3_.heap.size) 38 #[.int .i64 x1, .int .i64 x2, .int .i64 x3, .int .i64 x4, .int .i64 x5, .int .i64 x6, .int .i64 x7, .int .i64 x8, .int .i64 x9] := L_5.past hb1
  have Z0_6 : Blk w1 qb6_ 48 #[.int .i64 p0, .int .i64 q0] := hbZ
  have ge_Z0 : w.heap.size ≤ qb6_ := by have := (S_5).size; omega
  have S_6 := pt (S_5) hb1
  clear A_5 L_5 S_5 Ac0 Ac1 Ac2 Ac3 Al Lc0 Lc1 Lc2 Lc3 Lc4 Lc5 Lc6 Lc7 Lc8 Ll
  clear hb1 hbZ hgZ
  obtain ⟨w6_, rfl⟩ : ∃ v, v = w1 := ⟨_, rfl⟩
  have Ac0 := A_6.cellAt 0 rfl
  have Ac1 := A_6.cellAt 1 rfl
  have Ac2 := A_6.cellAt 2 rfl
  have Ac3 := A_6.cellAt 3 rfl
  have Al := A_6.lt
  have Lc0 := L_6.cellAt 0 rfl
  have Lc1 := L_6.cellAt 1 rfl
  have Lc2 := L_6.cellAt 2 rfl
  have Lc3 := L_6.cellAt 3 rfl
  have Lc4 := L_6.cellAt 4 rfl
  have Lc5 := L_6.cellAt 5 rfl
  have Lc6 := L_6.cellAt 6 rfl
  have Lc7 := L_6.cellAt 7 rfl
  have Lc8 := L_6.cellAt 8 rfl
  have Ll := L_6.lt
  have Z0c0 := Z0_6.cellAt 0 rfl
  have Z0c1 := Z0_6.cellAt 1 rfl
  have Z0l := Z0_6.lt
  go_wp2_with (first
    | (go_at_call 22; (with_reducible refine (HS0.out _).mono ?_); rintro e w7_ ⟨rfl, h7_⟩; have A_7 : Blk w7_ (w.heap.size) 23 #[.int .i64 1, .int .i64 t, .int .i64 s, .bool r] := (A_6).past h7_; have L_7 : Blk w7_ (w3_.heap.size) 38 #[.int .i64 x1, .int .i64 x2, .int .i64 x3, .int .i64 x4, .int .i64 x5, .int .i64 x6, .int .i64 x7, .int .i64 x8, .int .i64 x9] := (L_6).past h7_; have Z0_7 : Blk w7_ (qb6_) 48 #[.int .i64 p0, .int .i64 q0] := (Z0_6).past h7_; have S_7 := pt (S_6) h7_; clear A_6 L_6 Z0_6 S_6 Ac0 Ac1 Ac2 Ac3 Al Lc0 Lc1 Lc2 Lc3 Lc4 Lc5 Lc6 Lc7 Lc8 Ll Z0c0 Z0c1 Z0l; have Ac0 := A_7.cellAt 0 rfl; have Ac1 := A_7.cellAt 1 rfl; have Ac2 := A_7.cellAt 2 rfl; have Ac3 := A_7.cellAt 3 rfl; have Al := A_7.lt; have Lc0 := L_7.cellAt 0 rfl; have Lc1 := L_7.cellAt 1 rfl; have Lc2 := L_7.cellAt 2 rfl; have Lc3 := L_7.cellAt 3 rfl; have Lc4 := L_7.cellAt 4 rfl; have Lc5 := L_7.cellAt 5 rfl; have Lc6 := L_7.cellAt 6 rfl; have Lc7 := L_7.cellAt 7 rfl; have Lc8 := L_7.cellAt 8 rfl; have Ll := L_7.lt; have Z0c0 := Z0_7.cellAt 0 rfl; have Z0c1 := Z0_7.cellAt 1 rfl; have Z0l := Z0_7.lt; clear h7_)
    | (go_at_call 23; (with_reducible refine (HH0.out _ (HT.out _ (S_7))).mono ?_); rintro e w8_ ⟨rfl, h8_⟩; have A_8 : Blk w8_ (w.heap.size) 23 #[.int .i64 1, .int .i64 t, .int .i64 s, .bool r] := (A_7).past h8_; have L_8 : Blk w8_ (w3_.heap.size) 38 #[.int .i64 x1, .int .i64 x2, .int .i64 x3, .int .i64 x4, .int .i64 x5, .int .i64 x6, .int .i64 x7, .int .i64 x8, .int .i64 x9] := (L_7).past h8_; have Z0_8 : Blk w8_ (qb6_) 48 #[.int .i64 p0, .int .i64 q0] := (Z0_7).past h8_; have S_8 := pt (S_7) h8_; clear A_7 L_7 Z0_7 S_7 Ac0 Ac1 Ac2 Ac3 Al Lc0 Lc1 Lc2 Lc3 Lc4 Lc5 Lc6 Lc7 Lc8 Ll Z0c0 Z0c1 Z0l; have Ac0 := A_8.cellAt 0 rfl; have Ac1 := A_8.cellAt 1 rfl; have Ac2 := A_8.cellAt 2 rfl; have Ac3 := A_8.cellAt 3 rfl; have Al := A_8.lt; have Lc0 := L_8.cellAt 0 rfl; have Lc1 := L_8.cellAt 1 rfl; have Lc2 := L_8.cellAt 2 rfl; have Lc3 := L_8.cellAt 3 rfl; have Lc4 := L_8.cellAt 4 rfl; have Lc5 := L_8.cellAt 5 rfl; have Lc6 := L_8.cellAt 6 rfl; have Lc7 := L_8.cellAt 7 rfl; have Lc8 := L_8.cellAt 8 rfl; have Ll := L_8.lt; have Z0c0 := Z0_8.cellAt 0 rfl; have Z0c1 := Z0_8.cellAt 1 rfl; have Z0l := Z0_8.lt; clear h8_)
    | (go_at_call 32; (with_reducible refine (HW0.out _).mono ?_); rintro e w' ⟨rfl, rfl⟩))
  go_quiet (fail)
  have hb1 : Below w8_.heap.size w8_ (w8_.drewN nq) := below_drewN' (Below.refl _ _) nq
  have A_10 : Blk (w8_.drewN nq) (w.heap.size) 23 #[.int .i64 1, .int .i64 t, .int .i64 s, .bool r] := (A_8).past hb1
  have L_10 : Blk (w8_.drewN nq) (w3_.heap.size) 38 #[.int .i64 x1, .int .i64 x2, .int .i64 x3, .int .i64 x4, .int .i64 x5, .int .i64 x6, .int .i64 x7, .int .i64 x8, .int .i64 x9] := (L_8).past hb1
  have Z0_10 : Blk (w8_.drewN nq) (qb6_) 48 #[.int .i64 p0, .int .i64 q0] := (Z0_8).past hb1
  have S_10 := pt (S_8) hb1
  clear A_8 L_8 Z0_8 S_8 Ac0 Ac1 Ac2 Ac3 Al Lc0 Lc1 Lc2 Lc3 Lc4 Lc5 Lc6 Lc7 Lc8 Ll Z0c0 Z0c1 Z0l
  clear hb1
  generalize w8_.drewN nq = w10_ at *
  have Ac0 := A_10.cellAt 0 rfl
  have Ac1 := A_10.cellAt 1 rfl
  have Ac2 := A_10.cellAt 2 rfl
  have Ac3 := A_10.cellAt 3 rfl
  have Al := A_10.lt
  have Lc0 := L_10.cellAt 0 rfl
  have Lc1 := L_10.cellAt 1 rfl
  have Lc2 := L_10.cellAt 2 rfl
  have Lc3 := L_10.cellAt 3 rfl
  have Lc4 := L_10.cellAt 4 rfl
  have Lc5 := L_10.cellAt 5 rfl
  have Lc6 := L_10.cellAt 6 rfl
  have Lc7 := L_10.cellAt 7 rfl
  have Lc8 := L_10.cellAt 8 rfl
  have Ll := L_10.lt
  go_wp2
  go_quiet (fail)
  have hb1 : Below w10_.heap.size w10_ (w10_.drewN nq) := below_drewN' (Below.refl _ _) nq
  have A_11 : Blk (w10_.drewN nq) (w.heap.size) 23 #[.int .i64 1, .int .i64 t, .int .i64 s, .bool r] := (A_10).past hb1
  have L_11 : Blk (w10_.drewN nq) (w3_.heap.size) 38 #[.int .i64 x1, .int .i64 x2, .int .i64 x3, .int .i64 x4, .int .i64 x5, .int .i64 x6, .int .i64 x7, .int .i64 x8, .int .i64 x9] := (L_10).past hb1
  have Z0_11 : Blk (w10_.drewN nq) (qb6_) 48 #[.int .i64 p0, .int .i64 q0] := (Z0_10).past hb1
  have S_11 := pt (S_10) hb1
  clear A_10 L_10 Z0_10 S_10 Ac0 Ac1 Ac2 Ac3 Al Lc0 Lc1 Lc2 Lc3 Lc4 Lc5 Lc6 Lc7 Lc8 Ll
  clear hb1
  generalize w10_.drewN nq = w11_ at *
  have Ac0 := A_11.cellAt 0 rfl
  have Ac1 := A_11.cellAt 1 rfl
  have Ac2 := A_11.cellAt 2 rfl
  have Ac3 := A_11.cellAt 3 rfl
  have Al := A_11.lt
  have Lc0 := L_11.cellAt 0 rfl
  have Lc1 := L_11.cellAt 1 rfl
  have Lc2 := L_11.cellAt 2 rfl
  have Lc3 := L_11.cellAt 3 rfl
  have Lc4 := L_11.cellAt 4 rfl
  have Lc5 := L_11.cellAt 5 rfl
  have Lc6 := L_11.cellAt 6 rfl
  have Lc7 := L_11.cellAt 7 rfl
  have Lc8 := L_11.cellAt 8 rfl
  have Ll := L_11.lt
  go_wp2
  clear Z0_11
  clear ne_A_Z0 ne_L_Z0
  rw [rounds_succ]
  go_wp2
  refine region_alloc_late (zs := #[.int .i64 0, .int .i64 0]) 17 follows_mixed (by kernel_rfl) rfl rfl (fun _ _ => by kernel_rfl) ?_
  simp only [List.take_succ_cons, List.take_zero, List.drop_succ_cons, List.drop_zero]
  repeat (first
    | ((with_reducible apply grow_plain); (focus rfl); (focus (intro w' hw; obtain ⟨hcq, hfq⟩ := bcell hw; go_simp; (first | done | rfl | (with_reducible exact HP1.out _)))); (simp only [Act.put, List.setIfInBounds_toArray, List.set_cons_succ, List.set_cons_zero]))
    | ((with_reducible apply grow_skip); (focus (first | (simp [Region.wanted, yielded]; done) | (simp [Region.wanted, yielded, undef]; done))); simp only [Act.put, List.setIfInBounds_toArray, List.set_cons_succ, List.set_cons_zero])
    | ((with_reducible apply grow_go); (focus (first | (simp [Region.wanted, yielded]; done) | (simp [Region.wanted, yielded, undef]; done))); (focus (intro w' hw; obtain ⟨hcq, hfq⟩ := bcell hw; go_simp; (first | done | rfl | (with_reducible exact HP1.out _)))); (simp only [Act.put, List.setIfInBounds_toArray, List.set_cons_succ, List.set_cons_zero])))
  refine grow_nil ?_
  refine ⟨#[.int .i64 p1, .int .i64 q1], fun _ => rfl, fun _ => rfl, rfl, phasor2_size, (by simp [Value.oneCell']; done), ?_⟩
  intro qb12_ w1 hgZ hbZ hb1
  simp only [Act.put, List.setIfInBounds_toArray, List.set_cons_succ, List.set_cons_zero]
  have ne_A_Z1 : w.heap.size ≠ qb12_ := by have := A_11.lt; omega
  have A_12 : Blk w1 (w.heap.size) 23 #[.int .i64 1, .int .i64 t, .int .i64 s, .bool r] := A_11.past hb1
  have ne_L_Z1 : w3_.heap.size ≠ qb12_ := by have := L_11.lt; omega
  have L_12 : Blk w1 (w3_.heap.size) 38 #[.int .i64 x1, .int .i64 x2, .int .i64 x3, .int .i64 x4, .int .i64 x5, .int .i64 x6, .int .i64 x7, .int .i64 x8, .int .i64 x9] := L_11.past hb1
  have Z1_12 : Blk w1 qb12_ 48 #[.int .i64 p1, .int .i64 q1] := hbZ
  have ge_Z1 : w.heap.size ≤ qb12_ := by have := (S_11).size; omega
  have S_12 := pt (S_11) hb1
  clear A_11 L_11 S_11 Ac0 Ac1 Ac2 Ac3 Al Lc0 Lc1 Lc2 Lc3 Lc4 Lc5 Lc6 Lc7 Lc8 Ll
  clear hb1 hbZ hgZ
  obtain ⟨w12_, rfl⟩ : ∃ v, v = w1 := ⟨_, rfl⟩
  have Ac0 := A_12.cellAt 0 rfl
  have Ac1 := A_12.cellAt 1 rfl
  have Ac2 := A_12.cellAt 2 rfl
  have Ac3 := A_12.cellAt 3 rfl
  have Al := A_12.lt
  have Lc0 := L_12.cellAt 0 rfl
  have Lc1 := L_12.cellAt 1 rfl
  have Lc2 := L_12.cellAt 2 rfl
  have Lc3 := L_12.cellAt 3 rfl
  have Lc4 := L_12.cellAt 4 rfl
  have Lc5 := L_12.cellAt 5 rfl
  have Lc6 := L_12.cellAt 6 rfl
  have Lc7 := L_12.cellAt 7 rfl
  have Lc8 := L_12.cellAt 8 rfl
  have Ll := L_12.lt
  have Z1c0 := Z1_12.cellAt 0 rfl
  have Z1c1 := Z1_12.cellAt 1 rfl
  have Z1l := Z1_12.lt
  go_wp2_with (first
    | (go_at_call 22; (with_reducible refine (HS1.out _).mono ?_); rintro e w13_ ⟨rfl, h13_⟩; have A_13 : Blk w13_ (w.heap.size) 23 #[.int .i64 1, .int .i64 t, .int .i64 s, .bool r] := (A_12).past h13_; have L_13 : Blk w13_ (w3_.heap.size) 38 #[.int .i64 x1, .int .i64 x2, .int .i64 x3, .int .i64 x4, .int .i64 x5, .int .i64 x6, .int .i64 x7, .int .i64 x8, .int .i64 x9] := (L_12).past h13_; have Z1_13 : Blk w13_ (qb12_) 48 #[.int .i64 p1, .int .i64 q1] := (Z1_12).past h13_; have S_13 := pt (S_12) h13_; clear A_12 L_12 Z1_12 S_12 Ac0 Ac1 Ac2 Ac3 Al Lc0 Lc1 Lc2 Lc3 Lc4 Lc5 Lc6 Lc7 Lc8 Ll Z1c0 Z1c1 Z1l; have Ac0 := A_13.cellAt 0 rfl; have Ac1 := A_13.cellAt 1 rfl; have Ac2 := A_13.cellAt 2 rfl; have Ac3 := A_13.cellAt 3 rfl; have Al := A_13.lt; have Lc0 := L_13.cellAt 0 rfl; have Lc1 := L_13.cellAt 1 rfl; have Lc2 := L_13.cellAt 2 rfl; have Lc3 := L_13.cellAt 3 rfl; have Lc4 := L_13.cellAt 4 rfl; have Lc5 := L_13.cellAt 5 rfl; have Lc6 := L_13.cellAt 6 rfl; have Lc7 := L_13.cellAt 7 rfl; have Lc8 := L_13.cellAt 8 rfl; have Ll := L_13.lt; have Z1c0 := Z1_13.cellAt 0 rfl; have Z1c1 := Z1_13.cellAt 1 rfl; have Z1l := Z1_13.lt; clear h13_)
    | (go_at_call 23; (with_reducible refine (HH1.out _ (HT.out _ (S_13))).mono ?_); rintro e w14_ ⟨rfl, h14_⟩; have A_14 : Blk w14_ (w.heap.size) 23 #[.int .i64 1, .int .i64 t, .int .i64 s, .bool r] := (A_13).past h14_; have L_14 : Blk w14_ (w3_.heap.size) 38 #[.int .i64 x1, .int .i64 x2, .int .i64 x3, .int .i64 x4, .int .i64 x5, .int .i64 x6, .int .i64 x7, .int .i64 x8, .int .i64 x9] := (L_13).past h14_; have Z1_14 : Blk w14_ (qb12_) 48 #[.int .i64 p1, .int .i64 q1] := (Z1_13).past h14_; have S_14 := pt (S_13) h14_; clear A_13 L_13 Z1_13 S_13 Ac0 Ac1 Ac2 Ac3 Al Lc0 Lc1 Lc2 Lc3 Lc4 Lc5 Lc6 Lc7 Lc8 Ll Z1c0 Z1c1 Z1l; have Ac0 := A_14.cellAt 0 rfl; have Ac1 := A_14.cellAt 1 rfl; have Ac2 := A_14.cellAt 2 rfl; have Ac3 := A_14.cellAt 3 rfl; have Al := A_14.lt; have Lc0 := L_14.cellAt 0 rfl; have Lc1 := L_14.cellAt 1 rfl; have Lc2 := L_14.cellAt 2 rfl; have Lc3 := L_14.cellAt 3 rfl; have Lc4 := L_14.cellAt 4 rfl; have Lc5 := L_14.cellAt 5 rfl; have Lc6 := L_14.cellAt 6 rfl; have Lc7 := L_14.cellAt 7 rfl; have Lc8 := L_14.cellAt 8 rfl; have Ll := L_14.lt; have Z1c0 := Z1_14.cellAt 0 rfl; have Z1c1 := Z1_14.cellAt 1 rfl; have Z1l := Z1_14.lt; clear h14_)
    | (go_at_call 32; (with_reducible refine (HW1.out _).mono ?_); rintro e w' ⟨rfl, rfl⟩))
  go_quiet (fail)
  have hb1 : Below w14_.heap.size w14_ (w14_.drewN nq) := below_drewN' (Below.refl _ _) nq
  have A_16 : Blk (w14_.drewN nq) (w.heap.size) 23 #[.int .i64 1, .int .i64 t, .int .i64 s, .bool r] := (A_14).past hb1
  have L_16 : Blk (w14_.drewN nq) (w3_.heap.size) 38 #[.int .i64 x1, .int .i64 x2, .int .i64 x3, .int .i64 x4, .int .i64 x5, .int .i64 x6, .int .i64 x7, .int .i64 x8, .int .i64 x9] := (L_14).past hb1
  have Z1_16 : Blk (w14_.drewN nq) (qb12_) 48 #[.int .i64 p1, .int .i64 q1] := (Z1_14).past hb1
  have S_16 := pt (S_14) hb1
  clear A_14 L_14 Z1_14 S_14 Ac0 Ac1 Ac2 Ac3 Al Lc0 Lc1 Lc2 Lc3 Lc4 Lc5 Lc6 Lc7 Lc8 Ll Z1c0 Z1c1 Z1l
  clear hb1
  generalize w14_.drewN nq = w16_ at *
  have Ac0 := A_16.cellAt 0 rfl
  have Ac1 := A_16.cellAt 1 rfl
  have Ac2 := A_16.cellAt 2 rfl
  have Ac3 := A_16.cellAt 3 rfl
  have Al := A_16.lt
  have Lc0 := L_16.cellAt 0 rfl
  have Lc1 := L_16.cellAt 1 rfl
  have Lc2 := L_16.cellAt 2 rfl
  have Lc3 := L_16.cellAt 3 rfl
  have Lc4 := L_16.cellAt 4 rfl
  have Lc5 := L_16.cellAt 5 rfl
  have Lc6 := L_16.cellAt 6 rfl
  have Lc7 := L_16.cellAt 7 rfl
  have Lc8 := L_16.cellAt 8 rfl
  have Ll := L_16.lt
  go_wp2
  go_quiet (fail)
  have hb1 : Below w16_.heap.size w16_ (w16_.drewN nq) := below_drewN' (Below.refl _ _) nq
  have A_17 : Blk (w16_.drewN nq) (w.heap.size) 23 #[.int .i64 1, .int .i64 t, .int .i64 s, .bool r] := (A_16).past hb1
  have L_17 : Blk (w16_.drewN nq) (w3_.heap.size) 38 #[.int .i64 x1, .int .i64 x2, .int .i64 x3, .int .i64 x4, .int .i64 x5, .int .i64 x6, .int .i64 x7, .int .i64 x8, .int .i64 x9] := (L_16).past hb1
  have Z1_17 : Blk (w16_.drewN nq) (qb12_) 48 #[.int .i64 p1, .int .i64 q1] := (Z1_16).past hb1
  have S_17 := pt (S_16) hb1
  clear A_16 L_16 Z1_16 S_16 Ac0 Ac1 Ac2 Ac3 Al Lc0 Lc1 Lc2 Lc3 Lc4 Lc5 Lc6 Lc7 Lc8 Ll
  clear hb1
  generalize w16_.drewN nq = w17_ at *
  have Ac0 := A_17.cellAt 0 rfl
  have Ac1 := A_17.cellAt 1 rfl
  have Ac2 := A_17.cellAt 2 rfl
  have Ac3 := A_17.cellAt 3 rfl
  have Al := A_17.lt
  have Lc0 := L_17.cellAt 0 rfl
  have Lc1 := L_17.cellAt 1 rfl
  have Lc2 := L_17.cellAt 2 rfl
  have Lc3 := L_17.cellAt 3 rfl
  have Lc4 := L_17.cellAt 4 rfl
  have Lc5 := L_17.cellAt 5 rfl
  have Lc6 := L_17.cellAt 6 rfl
  have Lc7 := L_17.cellAt 7 rfl
  have Lc8 := L_17.cellAt 8 rfl
  have Ll := L_17.lt
  go_wp2
  clear Z1_17
  clear ne_A_Z1 ne_L_Z1
  rw [rounds_succ]
  go_wp2
  refine region_alloc_late (zs := #[.int .i64 0, .int .i64 0]) 17 follows_mixed (by kernel_rfl) rfl rfl (fun _ _ => by kernel_rfl) ?_
  simp only [List.take_succ_cons, List.take_zero, List.drop_succ_cons, List.drop_zero]
  repeat (first
    | ((with_reducible apply grow_plain); (focus rfl); (focus (intro w' hw; obtain ⟨hcq, hfq⟩ := bcell hw; go_simp; (first | done | rfl | (with_reducible exact HP2.out _)))); (simp only [Act.put, List.setIfInBounds_toArray, List.set_cons_succ, List.set_cons_zero]))
    | ((with_reducible apply grow_skip); (focus (first | (simp [Region.wanted, yielded]; done) | (simp [Region.wanted, yielded, undef]; done))); simp only [Act.put, List.setIfInBounds_toArray, List.set_cons_succ, List.set_cons_zero])
    | ((with_reducible apply grow_go); (focus (first | (simp [Region.wanted, yielded]; done) | (simp [Region.wanted, yielded, undef]; done))); (focus (intro w' hw; obtain ⟨hcq, hfq⟩ := bcell hw; go_simp; (first | done | rfl | (with_reducible exact HP2.out _)))); (simp only [Act.put, List.setIfInBounds_toArray, List.set_cons_succ, List.set_cons_zero])))
  refine grow_nil ?_
  refine ⟨#[.int .i64 p2, .int .i64 q2], fun _ => rfl, fun _ => rfl, rfl, phasor2_size, (by simp [Value.oneCell']; done), ?_⟩
  intro qb18_ w1 hgZ hbZ hb1
  simp only [Act.put, List.setIfInBounds_toArray, List.set_cons_succ, List.set_cons_zero]
  have ne_A_Z2 : w.heap.size ≠ qb18_ := by have := A_17.lt; omega
  have A_18 : Blk w1 (w.heap.size) 23 #[.int .i64 1, .int .i64 t, .int .i64 s, .bool r] := A_17.past hb1
  have ne_L_Z2 : w3_.heap.size ≠ qb18_ := by have := L_17.lt; omega
  have L_18 : Blk w1 (w3_.heap.size) 38 #[.int .i64 x1, .int .i64 x2, .int .i64 x3, .int .i64 x4, .int .i64 x5, .int .i64 x6, .int .i64 x7, .int .i64 x8, .int .i64 x9] := L_17.past hb1
  have Z2_18 : Blk w1 qb18_ 48 #[.int .i64 p2, .int .i64 q2] := hbZ
  have ge_Z2 : w.heap.size ≤ qb18_ := by have := (S_17).size; omega
  have S_18 := pt (S_17) hb1
  clear A_17 L_17 S_17 Ac0 Ac1 Ac2 Ac3 Al Lc0 Lc1 Lc2 Lc3 Lc4 Lc5 Lc6 Lc7 Lc8 Ll
  clear hb1 hbZ hgZ
  obtain ⟨w18_, rfl⟩ : ∃ v, v = w1 := ⟨_, rfl⟩
  have Ac0 := A_18.cellAt 0 rfl
  have Ac1 := A_18.cellAt 1 rfl
  have Ac2 := A_18.cellAt 2 rfl
  have Ac3 := A_18.cellAt 3 rfl
  have Al := A_18.lt
  have Lc0 := L_18.cellAt 0 rfl
  have Lc1 := L_18.cellAt 1 rfl
  have Lc2 := L_18.cellAt 2 rfl
  have Lc3 := L_18.cellAt 3 rfl
  have Lc4 := L_18.cellAt 4 rfl
  have Lc5 := L_18.cellAt 5 rfl
  have Lc6 := L_18.cellAt 6 rfl
  have Lc7 := L_18.cellAt 7 rfl
  have Lc8 := L_18.cellAt 8 rfl
  have Ll := L_18.lt
  have Z2c0 := Z2_18.cellAt 0 rfl
  have Z2c1 := Z2_18.cellAt 1 rfl
  have Z2l := Z2_18.lt
  go_wp2_with (first
    | (go_at_call 22; (with_reducible refine (HS2.out _).mono ?_); rintro e w19_ ⟨rfl, h19_⟩; have A_19 : Blk w19_ (w.heap.size) 23 #[.int .i64 1, .int .i64 t, .int .i64 s, .bool r] := (A_18).past h19_; have L_19 : Blk w19_ (w3_.heap.size) 38 #[.int .i64 x1, .int .i64 x2, .int .i64 x3, .int .i64 x4, .int .i64 x5, .int .i64 x6, .int .i64 x7, .int .i64 x8, .int .i64 x9] := (L_18).past h19_; have Z2_19 : Blk w19_ (qb18_) 48 #[.int .i64 p2, .int .i64 q2] := (Z2_18).past h19_; have S_19 := pt (S_18) h19_; clear A_18 L_18 Z2_18 S_18 Ac0 Ac1 Ac2 Ac3 Al Lc0 Lc1 Lc2 Lc3 Lc4 Lc5 Lc6 Lc7 Lc8 Ll Z2c0 Z2c1 Z2l; have Ac0 := A_19.cellAt 0 rfl; have Ac1 := A_19.cellAt 1 rfl; have Ac2 := A_19.cellAt 2 rfl; have Ac3 := A_19.cellAt 3 rfl; have Al := A_19.lt; have Lc0 := L_19.cellAt 0 rfl; have Lc1 := L_19.cellAt 1 rfl; have Lc2 := L_19.cellAt 2 rfl; have Lc3 := L_19.cellAt 3 rfl; have Lc4 := L_19.cellAt 4 rfl; have Lc5 := L_19.cellAt 5 rfl; have Lc6 := L_19.cellAt 6 rfl; have Lc7 := L_19.cellAt 7 rfl; have Lc8 := L_19.cellAt 8 rfl; have Ll := L_19.lt; have Z2c0 := Z2_19.cellAt 0 rfl; have Z2c1 := Z2_19.cellAt 1 rfl; have Z2l := Z2_19.lt; clear h19_)
    | (go_at_call 23; (with_reducible refine (HH2.out _ (HT.out _ (S_19))).mono ?_); rintro e w20_ ⟨rfl, h20_⟩; have A_20 : Blk w20_ (w.heap.size) 23 #[.int .i64 1, .int .i64 t, .int .i64 s, .bool r] := (A_19).past h20_; have L_20 : Blk w20_ (w3_.heap.size) 38 #[.int .i64 x1, .int .i64 x2, .int .i64 x3, .int .i64 x4, .int .i64 x5, .int .i64 x6, .int .i64 x7, .int .i64 x8, .int .i64 x9] := (L_19).past h20_; have Z2_20 : Blk w20_ (qb18_) 48 #[.int .i64 p2, .int .i64 q2] := (Z2_19).past h20_; have S_20 := pt (S_19) h20_; clear A_19 L_19 Z2_19 S_19 Ac0 Ac1 Ac2 Ac3 Al Lc0 Lc1 Lc2 Lc3 Lc4 Lc5 Lc6 Lc7 Lc8 Ll Z2c0 Z2c1 Z2l; have Ac0 := A_20.cellAt 0 rfl; have Ac1 := A_20.cellAt 1 rfl; have Ac2 := A_20.cellAt 2 rfl; have Ac3 := A_20.cellAt 3 rfl; have Al := A_20.lt; have Lc0 := L_20.cellAt 0 rfl; have Lc1 := L_20.cellAt 1 rfl; have Lc2 := L_20.cellAt 2 rfl; have Lc3 := L_20.cellAt 3 rfl; have Lc4 := L_20.cellAt 4 rfl; have Lc5 := L_20.cellAt 5 rfl; have Lc6 := L_20.cellAt 6 rfl; have Lc7 := L_20.cellAt 7 rfl; have Lc8 := L_20.cellAt 8 rfl; have Ll := L_20.lt; have Z2c0 := Z2_20.cellAt 0 rfl; have Z2c1 := Z2_20.cellAt 1 rfl; have Z2l := Z2_20.lt; clear h20_)
    | (go_at_call 32; (with_reducible refine (HW2.out _).mono ?_); rintro e w' ⟨rfl, rfl⟩))
  go_quiet (fail)
  have hb1 : Below w20_.heap.size w20_ (w20_.drewN nq) := below_drewN' (Below.refl _ _) nq
  have A_22 : Blk (w20_.drewN nq) (w.heap.size) 23 #[.int .i64 1, .int .i64 t, .int .i64 s, .bool r] := (A_20).past hb1
  have L_22 : Blk (w20_.drewN nq) (w3_.heap.size) 38 #[.int .i64 x1, .int .i64 x2, .int .i64 x3, .int .i64 x4, .int .i64 x5, .int .i64 x6, .int .i64 x7, .int .i64 x8, .int .i64 x9] := (L_20).past hb1
  have Z2_22 : Blk (w20_.drewN nq) (qb18_) 48 #[.int .i64 p2, .int .i64 q2] := (Z2_20).past hb1
  have S_22 := pt (S_20) hb1
  clear A_20 L_20 Z2_20 S_20 Ac0 Ac1 Ac2 Ac3 Al Lc0 Lc1 Lc2 Lc3 Lc4 Lc5 Lc6 Lc7 Lc8 Ll Z2c0 Z2c1 Z2l
  clear hb1
  generalize w20_.drewN nq = w22_ at *
  have Ac0 := A_22.cellAt 0 rfl
  have Ac1 := A_22.cellAt 1 rfl
  have Ac2 := A_22.cellAt 2 rfl
  have Ac3 := A_22.cellAt 3 rfl
  have Al := A_22.lt
  have Lc0 := L_22.cellAt 0 rfl
  have Lc1 := L_22.cellAt 1 rfl
  have Lc2 := L_22.cellAt 2 rfl
  have Lc3 := L_22.cellAt 3 rfl
  have Lc4 := L_22.cellAt 4 rfl
  have Lc5 := L_22.cellAt 5 rfl
  have Lc6 := L_22.cellAt 6 rfl
  have Lc7 := L_22.cellAt 7 rfl
  have Lc8 := L_22.cellAt 8 rfl
  have Ll := L_22.lt
  go_wp2
  go_quiet (fail)
  have hb1 : Below w22_.heap.size w22_ (w22_.drewN nq) := below_drewN' (Below.refl _ _) nq
  have A_23 : Blk (w22_.drewN nq) (w.heap.size) 23 #[.int .i64 1, .int .i64 t, .int .i64 s, .bool r] := (A_22).past hb1
  have L_23 : Blk (w22_.drewN nq) (w3_.heap.size) 38 #[.int .i64 x1, .int .i64 x2, .int .i64 x3, .int .i64 x4, .int .i64 x5, .int .i64 x6, .int .i64 x7, .int .i64 x8, .int .i64 x9] := (L_22).past hb1
  have Z2_23 : Blk (w22_.drewN nq) (qb18_) 48 #[.int .i64 p2, .int .i64 q2] := (Z2_22).past hb1
  have S_23 := pt (S_22) hb1
  clear A_22 L_22 Z2_22 S_22 Ac0 Ac1 Ac2 Ac3 Al Lc0 Lc1 Lc2 Lc3 Lc4 Lc5 Lc6 Lc7 Lc8 Ll
  clear hb1
  generalize w22_.drewN nq = w23_ at *
  have Ac0 := A_23.cellAt 0 rfl
  have Ac1 := A_23.cellAt 1 rfl
  have Ac2 := A_23.cellAt 2 rfl
  have Ac3 := A_23.cellAt 3 rfl
  have Al := A_23.lt
  have Lc0 := L_23.cellAt 0 rfl
  have Lc1 := L_23.cellAt 1 rfl
  have Lc2 := L_23.cellAt 2 rfl
  have Lc3 := L_23.cellAt 3 rfl
  have Lc4 := L_23.cellAt 4 rfl
  have Lc5 := L_23.cellAt 5 rfl
  have Lc6 := L_23.cellAt 6 rfl
  have Lc7 := L_23.cellAt 7 rfl
  have Lc8 := L_23.cellAt 8 rfl
  have Ll := L_23.lt
  go_wp2
  clear Z2_23
  clear ne_A_Z2 ne_L_Z2
  rw [rounds_succ]
  go_wp2
  go_ret
  exact ⟨rfl, by repeat (first | exact S_23 | refine pa ?_)⟩

set_option maxHeartbeats 32000000 in
set_option maxRecDepth 100000 in
theorem bal_2 (t s : Int) (r : Bool) (x1 x2 x3 x4 x5 x6 x7 x8 x9 p0 q0 p1 q1 p2 q2 f1 N h0 h1 h2 a b : Int) (w : World) (hT : TwIn w) (hP : PatIn w) (hw : windE 2 t s = 0)
    (hl : ∀ w, PatIn w → Calls Tryd.prog 16 #[.agg #[.int .i64 2, .int .i64 t, .int .i64 s, .bool r]] w fun e w' => e = .returned (.tuple #[.agg #[.int .i64 x1, .int .i64 x2, .int .i64 x3, .int .i64 x4, .int .i64 x5, .int .i64 x6, .int .i64 x7, .int .i64 x8, .int .i64 x9], .int .i64 0]) ∧ Below w.heap.size w w')
    (hq : ∀ w, Calls Tryd.prog 30 #[.agg #[.int .i64 x1, .int .i64 x2, .int .i64 x3, .int .i64 x4, .int .i64 x5, .int .i64 x6, .int .i64 x7, .int .i64 x8, .int .i64 x9]] w fun e w' => e = .returned (.tuple #[.int .i64 1, .int .i64 0]) ∧ Below w.heap.size w w')
    (hp0 : ∀ w, Calls Tryd.prog 31 #[.agg #[.int .i64 x1, .int .i64 x2, .int .i64 x3, .int .i64 x4, .int .i64 x5, .int .i64 x6, .int .i64 x7, .int .i64 x8, .int .i64 x9]] w fun e w' => e = .returned (.tuple #[.agg #[.int .i64 p0, .int .i64 q0], .int .i64 0]) ∧ Below w.heap.size w w')
    (hs0 : ∀ w, Calls Tryd.prog 22 #[.agg #[.int .i64 p0, .int .i64 q0]] w fun e w' => e = .returned (.tuple #[.int .i64 N, .int .i64 0]) ∧ Below w.heap.size w w')
    (hh0 : ∀ w, TwIn w → Calls Tryd.prog 23 #[.agg #[.int .i64 p0, .int .i64 q0]] w fun e w' => e = .returned (.tuple #[.int .i64 h0, .int .i64 0]) ∧ Below w.heap.size w w')
    (hw0 : withinB h0 0 11 = true)
    (hp1 : ∀ w, Calls Tryd.prog 31 #[.agg #[.int .i64 x4, .int .i64 x5, .int .i64 x6, .int .i64 x7, .int .i64 x8, .int .i64 x9, .int .i64 x1, .int .i64 x2, .int .i64 x3]] w fun e w' => e = .returned (.tuple #[.agg #[.int .i64 p1, .int .i64 q1], .int .i64 0]) ∧ Below w.heap.size w w')
    (hs1 : ∀ w, Calls Tryd.prog 22 #[.agg #[.int .i64 p1, .int .i64 q1]] w fun e w' => e = .returned (.tuple #[.int .i64 N, .int .i64 0]) ∧ Below w.heap.size w w')
    (hh1 : ∀ w, TwIn w → Calls Tryd.prog 23 #[.agg #[.int .i64 p1, .int .i64 q1]] w fun e w' => e = .returned (.tuple #[.int .i64 h1, .int .i64 0]) ∧ Below w.heap.size w w')
    (hw1 : withinB h1 0 11 = true)
    (hp2 : ∀ w, Calls Tryd.prog 31 #[.agg #[.int .i64 x7, .int .i64 x8, .int .i64 x9, .int .i64 x1, .int .i64 x2, .int .i64 x3, .int .i64 x4, .int .i64 x5, .int .i64 x6]] w fun e w' => e = .returned (.tuple #[.agg #[.int .i64 p2, .int .i64 q2], .int .i64 0]) ∧ Below w.heap.size w w')
    (hs2 : ∀ w, Calls Tryd.prog 22 #[.agg #[.int .i64 p2, .int .i64 q2]] w fun e w' => e = .returned (.tuple #[.int .i64 N, .int .i64 0]) ∧ Below w.heap.size w w')
    (hh2 : ∀ w, TwIn w → Calls Tryd.prog 23 #[.agg #[.int .i64 p2, .int .i64 q2]] w fun e w' => e = .returned (.tuple #[.int .i64 h2, .int .i64 0]) ∧ Below w.heap.size w w')
    (hw2 : withinB h2 0 11 = true)
    (hf1 : IntKind.i64.wrap (9 * t) = f1) (hf2 : IntKind.i64.wrap (f1 * t) = N)
    (ha0 : IntKind.i64.wrap p0 = p0) (ha1 : IntKind.i64.wrap (p0 + p1) = a) (ha2 : IntKind.i64.wrap (a + p2) = 0)
    (hb0 : IntKind.i64.wrap q0 = q0) (hb1' : IntKind.i64.wrap (q0 + q1) = b) (hb2 : IntKind.i64.wrap (b + q2) = 0)
    (u0 : Int) (hu0 : IntKind.i64.wrap (x1 + x4) = u0) (hv0 : IntKind.i64.wrap (u0 + x7) = 0)
    (u1 : Int) (hu1 : IntKind.i64.wrap (x2 + x5) = u1) (hv1 : IntKind.i64.wrap (u1 + x8) = 0)
    (u2 : Int) (hu2 : IntKind.i64.wrap (x3 + x6) = u2) (hv2 : IntKind.i64.wrap (u2 + x9) = 0)
    : Calls Tryd.prog 6 #[.agg #[.int .i64 2, .int .i64 t, .int .i64 s, .bool r]] w fun e w' => e = .returned (.bool true) ∧ Below w.heap.size w w' := by
  have HT := Lib.hid (fun w' (h : Below w.heap.size w w') => hT.below h)
  have HP := Lib.hid (fun w' (h : Below w.heap.size w w') => hP.below h)
  have HE := Lib.hid (refWindingErr_any 2 t s r)
  rw [hw] at HE
  have HL := Lib.hid hl
  have HQ := Lib.hid hq
  clear hT hP hl hq hw
  have HP0 := Lib.hid hp0
  have HS0 := Lib.hid hs0
  have HH0 := Lib.hid hh0
  have HW0 := Lib.hid (refWithin_any h0 0 11)
  rw [hw0] at HW0
  clear hp0 hs0 hh0 hw0
  have HP1 := Lib.hid hp1
  have HS1 := Lib.hid hs1
  have HH1 := Lib.hid hh1
  have HW1 := Lib.hid (refWithin_any h1 0 11)
  rw [hw1] at HW1
  clear hp1 hs1 hh1 hw1
  have HP2 := Lib.hid hp2
  have HS2 := Lib.hid hs2
  have HH2 := Lib.hid hh2
  have HW2 := Lib.hid (refWithin_any h2 0 11)
  rw [hw2] at HW2
  clear hp2 hs2 hh2 hw2
  have z0 : IntKind.i64.wrap 0 = 0 := by decide
  have z1 : IntKind.i64.wrap 1 = 1 := by decide
  have z2 : IntKind.i64.wrap 2 = 2 := by decide
  have z3 : IntKind.i64.wrap 3 = 3 := by decide
  have z4 : IntKind.i64.wrap 4 = 4 := by decide
  go_enter Tryd.func6, Tryd.ntmps6
  go_wp2_with (first
    | (go_at_call 11; (with_reducible refine (awake_any _ (HT.out _ (pa (pr))) (HP.out _ (pa (pr)))).mono ?_); rintro e w1_ ⟨rfl, h1_⟩; have A_1 : Blk w1_ (w.heap.size) 23 #[.int .i64 2, .int .i64 t, .int .i64 s, .bool r] := (Blk.newAt (by simp)).past h1_; have S_1 := pt (pa (pr)) h1_; have Ac0 := A_1.cellAt 0 rfl; have Ac1 := A_1.cellAt 1 rfl; have Ac2 := A_1.cellAt 2 rfl; have Ac3 := A_1.cellAt 3 rfl; have Al := A_1.lt; clear h1_)
    | (go_at_call 13; (with_reducible refine (HE.out _).mono ?_); rintro e w2_ ⟨rfl, h2_⟩; have A_2 : Blk w2_ (w.heap.size) 23 #[.int .i64 2, .int .i64 t, .int .i64 s, .bool r] := (A_1).past h2_; have S_2 := pt (S_1) h2_; clear A_1 S_1 Ac0 Ac1 Ac2 Ac3 Al; have Ac0 := A_2.cellAt 0 rfl; have Ac1 := A_2.cellAt 1 rfl; have Ac2 := A_2.cellAt 2 rfl; have Ac3 := A_2.cellAt 3 rfl; have Al := A_2.lt; clear h2_)
    | (go_at_call 16; (with_reducible refine (HL.out _ (HP.out _ (S_2))).mono ?_); rintro e w3_ ⟨rfl, h3_⟩; have A_3 : Blk w3_ (w.heap.size) 23 #[.int .i64 2, .int .i64 t, .int .i64 s, .bool r] := (A_2).past h3_; have S_3 := pt (S_2) h3_; clear A_2 S_2 Ac0 Ac1 Ac2 Ac3 Al; have Ac0 := A_3.cellAt 0 rfl; have Ac1 := A_3.cellAt 1 rfl; have Ac2 := A_3.cellAt 2 rfl; have Ac3 := A_3.cellAt 3 rfl; have Al := A_3.lt; clear h3_)
    | ((with_reducible refine load_sub (T := 38) (x := .tmp 3) (o := 0) (vs := #[.int .i64 x1, .int .i64 x2, .int .i64 x3, .int .i64 x4, .int .i64 x5, .int .i64 x6, .int .i64 x7, .int .i64 x8, .int .i64 x9]) (show Blk _ (w3_.heap.size) 38 #[.int .i64 x1, .int .i64 x2, .int .i64 x3, .int .i64 x4, .int .i64 x5, .int .i64 x6, .int .i64 x7, .int .i64 x8, .int .i64 x9] from (Blk.newAt (by simp))) ?_ ?_ Tryd.underlying38 ?_ ?_ ?_); (focus rfl); (focus rfl); (focus rfl); (focus exact apiLines_size))
    | (go_at_call 30; (with_reducible refine (HQ.out _).mono ?_); rintro e w4_ ⟨rfl, h4_⟩; have A_4 : Blk w4_ (w.heap.size) 23 #[.int .i64 2, .int .i64 t, .int .i64 s, .bool r] := (A_3.alloc).past h4_; have L_4 : Blk w4_ (w3_.heap.size) 38 #[.int .i64 x1, .int .i64 x2, .int .i64 x3, .int .i64 x4, .int .i64 x5, .int .i64 x6, .int .i64 x7, .int .i64 x8, .int .i64 x9] := (Blk.newAt (by simp)).past h4_; have S_4 := pt (pa (S_3)) h4_; clear A_3 S_3 Ac0 Ac1 Ac2 Ac3 Al; have Ac0 := A_4.cellAt 0 rfl; have Ac1 := A_4.cellAt 1 rfl; have Ac2 := A_4.cellAt 2 rfl; have Ac3 := A_4.cellAt 3 rfl; have Al := A_4.lt; have Lc0 := L_4.cellAt 0 rfl; have Lc1 := L_4.cellAt 1 rfl; have Lc2 := L_4.cellAt 2 rfl; have Lc3 := L_4.cellAt 3 rfl; have Lc4 := L_4.cellAt 4 rfl; have Lc5 := L_4.cellAt 5 rfl; have Lc6 := L_4.cellAt 6 rfl; have Lc7 := L_4.cellAt 7 rfl; have Lc8 := L_4.cellAt 8 rfl; have Ll := L_4.lt; clear h4_))
  have A_5 : Blk (w4_.alloc (.cells #[.int .i64 3, .int .i64 1, .int .i64 9] 3)) (w.heap.size) 23 #[.int .i64 2, .int .i64 t, .int .i64 s, .bool r] := (A_4.alloc)
  have L_5 : Blk (w4_.alloc (.cells #[.int .i64 3, .int .i64 1, .int .i64 9] 3)) (w3_.heap.size) 38 #[.int .i64 x1, .int .i64 x2, .int .i64 x3, .int .i64 x4, .int .i64 x5, .int .i64 x6, .int .i64 x7, .int .i64 x8, .int .i64 x9] := (L_4.alloc)
  have B_5 : Blk (w4_.alloc (.cells #[.int .i64 3, .int .i64 1, .int .i64 9] 3)) (w4_.heap.size) 3 #[.int .i64 3, .int .i64 1, .int .i64 9] := (Blk.newAt (by simp))
  have S_5 := (show Below w.heap.size w (w4_.alloc (.cells #[.int .i64 3, .int .i64 1, .int .i64 9] 3)) from pa (S_4))
  clear A_4 L_4 S_4 Ac0 Ac1 Ac2 Ac3 Al Lc0 Lc1 Lc2 Lc3 Lc4 Lc5 Lc6 Lc7 Lc8 Ll
  generalize w4_.alloc (.cells #[.int .i64 3, .int .i64 1, .int .i64 9] 3) = w5_ at *
  clear B_5
  refine wp_loop_rounds 4 ?_
  rw [rounds_succ]
  have Ac0 := A_5.cellAt 0 rfl
  have Ac1 := A_5.cellAt 1 rfl
  have Ac2 := A_5.cellAt 2 rfl
  have Ac3 := A_5.cellAt 3 rfl
  have Al := A_5.lt
  have Lc0 := L_5.cellAt 0 rfl
  have Lc1 := L_5.cellAt 1 rfl
  have Lc2 := L_5.cellAt 2 rfl
  have Lc3 := L_5.cellAt 3 rfl
  have Lc4 := L_5.cellAt 4 rfl
  have Lc5 := L_5.cellAt 5 rfl
  have Lc6 := L_5.cellAt 6 rfl
  have Lc7 := L_5.cellAt 7 rfl
  have Lc8 := L_5.cellAt 8 rfl
  have Ll := L_5.lt
  go_wp2
  refine region_alloc_late (zs := #[.int .i64 0, .int .i64 0]) 17 follows_mixed (by kernel_rfl) rfl rfl (fun _ _ => by kernel_rfl) ?_
  simp only [List.take_succ_cons, List.take_zero, List.drop_succ_cons, List.drop_zero]
  repeat (first
    | ((with_reducible apply grow_plain); (focus rfl); (focus (intro w' hw; obtain ⟨hcq, hfq⟩ := bcell hw; go_simp; (first | done | rfl | (with_reducible exact HP0.out _)))); (simp only [Act.put, List.setIfInBounds_toArray, List.set_cons_succ, List.set_cons_zero]))
    | ((with_reducible apply grow_skip); (focus (first | (simp [Region.wanted, yielded]; done) | (simp [Region.wanted, yielded, undef]; done))); simp only [Act.put, List.setIfInBounds_toArray, List.set_cons_succ, List.set_cons_zero])
    | ((with_reducible apply grow_go); (focus (first | (simp [Region.wanted, yielded]; done) | (simp [Region.wanted, yielded, undef]; done))); (focus (intro w' hw; obtain ⟨hcq, hfq⟩ := bcell hw; go_simp; (first | done | rfl | (with_reducible exact HP0.out _)))); (simp only [Act.put, List.setIfInBounds_toArray, List.set_cons_succ, List.set_cons_zero])))
  refine grow_nil ?_
  refine ⟨#[.int .i64 p0, .int .i64 q0], fun _ => rfl, fun _ => rfl, rfl, phasor2_size, (by simp [Value.oneCell']; done), ?_⟩
  intro qb6_ w1 hgZ hbZ hb1
  simp only [Act.put, List.setIfInBounds_toArray, List.set_cons_succ, List.set_cons_zero]
  have ne_A_Z0 : w.heap.size ≠ qb6_ := by have := A_5.lt; omega
  have A_6 : Blk w1 (w.heap.size) 23 #[.int .i64 2, .int .i64 t, .int .i64 s, .bool r] := A_5.past hb1
  have ne_L_Z0 : w3_.heap.size ≠ qb6_ := by have := L_5.lt; omega
  have L_6 : Blk w1 (w3_.heap.size) 38 #[.int .i64 x1, .int .i64 x2, .int .i64 x3, .int .i64 x4, .int .i64 x5, .int .i64 x6, .int .i64 x7, .int .i64 x8, .int .i64 x9] := L_5.past hb1
  have Z0_6 : Blk w1 qb6_ 48 #[.int .i64 p0, .int .i64 q0] := hbZ
  have ge_Z0 : w.heap.size ≤ qb6_ := by have := (S_5).size; omega
  have S_6 := pt (S_5) hb1
  clear A_5 L_5 S_5 Ac0 Ac1 Ac2 Ac3 Al Lc0 Lc1 Lc2 Lc3 Lc4 Lc5 Lc6 Lc7 Lc8 Ll
  clear hb1 hbZ hgZ
  obtain ⟨w6_, rfl⟩ : ∃ v, v = w1 := ⟨_, rfl⟩
  have Ac0 := A_6.cellAt 0 rfl
  have Ac1 := A_6.cellAt 1 rfl
  have Ac2 := A_6.cellAt 2 rfl
  have Ac3 := A_6.cellAt 3 rfl
  have Al := A_6.lt
  have Lc0 := L_6.cellAt 0 rfl
  have Lc1 := L_6.cellAt 1 rfl
  have Lc2 := L_6.cellAt 2 rfl
  have Lc3 := L_6.cellAt 3 rfl
  have Lc4 := L_6.cellAt 4 rfl
  have Lc5 := L_6.cellAt 5 rfl
  have Lc6 := L_6.cellAt 6 rfl
  have Lc7 := L_6.cellAt 7 rfl
  have Lc8 := L_6.cellAt 8 rfl
  have Ll := L_6.lt
  have Z0c0 := Z0_6.cellAt 0 rfl
  have Z0c1 := Z0_6.cellAt 1 rfl
  have Z0l := Z0_6.lt
  go_wp2_with (first
    | (go_at_call 22; (with_reducible refine (HS0.out _).mono ?_); rintro e w7_ ⟨rfl, h7_⟩; have A_7 : Blk w7_ (w.heap.size) 23 #[.int .i64 2, .int .i64 t, .int .i64 s, .bool r] := (A_6).past h7_; have L_7 : Blk w7_ (w3_.heap.size) 38 #[.int .i64 x1, .int .i64 x2, .int .i64 x3, .int .i64 x4, .int .i64 x5, .int .i64 x6, .int .i64 x7, .int .i64 x8, .int .i64 x9] := (L_6).past h7_; have Z0_7 : Blk w7_ (qb6_) 48 #[.int .i64 p0, .int .i64 q0] := (Z0_6).past h7_; have S_7 := pt (S_6) h7_; clear A_6 L_6 Z0_6 S_6 Ac0 Ac1 Ac2 Ac3 Al Lc0 Lc1 Lc2 Lc3 Lc4 Lc5 Lc6 Lc7 Lc8 Ll Z0c0 Z0c1 Z0l; have Ac0 := A_7.cellAt 0 rfl; have Ac1 := A_7.cellAt 1 rfl; have Ac2 := A_7.cellAt 2 rfl; have Ac3 := A_7.cellAt 3 rfl; have Al := A_7.lt; have Lc0 := L_7.cellAt 0 rfl; have Lc1 := L_7.cellAt 1 rfl; have Lc2 := L_7.cellAt 2 rfl; have Lc3 := L_7.cellAt 3 rfl; have Lc4 := L_7.cellAt 4 rfl; have Lc5 := L_7.cellAt 5 rfl; have Lc6 := L_7.cellAt 6 rfl; have Lc7 := L_7.cellAt 7 rfl; have Lc8 := L_7.cellAt 8 rfl; have Ll := L_7.lt; have Z0c0 := Z0_7.cellAt 0 rfl; have Z0c1 := Z0_7.cellAt 1 rfl; have Z0l := Z0_7.lt; clear h7_)
    | (go_at_call 23; (with_reducible refine (HH0.out _ (HT.out _ (S_7))).mono ?_); rintro e w8_ ⟨rfl, h8_⟩; have A_8 : Blk w8_ (w.heap.size) 23 #[.int .i64 2, .int .i64 t, .int .i64 s, .bool r] := (A_7).past h8_; have L_8 : Blk w8_ (w3_.heap.size) 38 #[.int .i64 x1, .int .i64 x2, .int .i64 x3, .int .i64 x4, .int .i64 x5, .int .i64 x6, .int .i64 x7, .int .i64 x8, .int .i64 x9] := (L_7).past h8_; have Z0_8 : Blk w8_ (qb6_) 48 #[.int .i64 p0, .int .i64 q0] := (Z0_7).past h8_; have S_8 := pt (S_7) h8_; clear A_7 L_7 Z0_7 S_7 Ac0 Ac1 Ac2 Ac3 Al Lc0 Lc1 Lc2 Lc3 Lc4 Lc5 Lc6 Lc7 Lc8 Ll Z0c0 Z0c1 Z0l; have Ac0 := A_8.cellAt 0 rfl; have Ac1 := A_8.cellAt 1 rfl; have Ac2 := A_8.cellAt 2 rfl; have Ac3 := A_8.cellAt 3 rfl; have Al := A_8.lt; have Lc0 := L_8.cellAt 0 rfl; have Lc1 := L_8.cellAt 1 rfl; have Lc2 := L_8.cellAt 2 rfl; have Lc3 := L_8.cellAt 3 rfl; have Lc4 := L_8.cellAt 4 rfl; have Lc5 := L_8.cellAt 5 rfl; have Lc6 := L_8.cellAt 6 rfl; have Lc7 := L_8.cellAt 7 rfl; have Lc8 := L_8.cellAt 8 rfl; have Ll := L_8.lt; have Z0c0 := Z0_8.cellAt 0 rfl; have Z0c1 := Z0_8.cellAt 1 rfl; have Z0l := Z0_8.lt; clear h8_)
    | (go_at_call 32; (with_reducible refine (HW0.out _).mono ?_); rintro e w' ⟨rfl, rfl⟩))
  go_quiet (fail)
  have hb1 : Below w8_.heap.size w8_ (w8_.drewN nq) := below_drewN' (Below.refl _ _) nq
  have A_10 : Blk (w8_.drewN nq) (w.heap.size) 23 #[.int .i64 2, .int .i64 t, .int .i64 s, .bool r] := (A_8).past hb1
  have L_10 : Blk (w8_.drewN nq) (w3_.heap.size) 38 #[.int .i64 x1, .int .i64 x2, .int .i64 x3, .int .i64 x4, .int .i64 x5, .int .i64 x6, .int .i64 x7, .int .i64 x8, .int .i64 x9] := (L_8).past hb1
  have Z0_10 : Blk (w8_.drewN nq) (qb6_) 48 #[.int .i64 p0, .int .i64 q0] := (Z0_8).past hb1
  have S_10 := pt (S_8) hb1
  clear A_8 L_8 Z0_8 S_8 Ac0 Ac1 Ac2 Ac3 Al Lc0 Lc1 Lc2 Lc3 Lc4 Lc5 Lc6 Lc7 Lc8 Ll Z0c0 Z0c1 Z0l
  clear hb1
  generalize w8_.drewN nq = w10_ at *
  have Ac0 := A_10.cellAt 0 rfl
  have Ac1 := A_10.cellAt 1 rfl
  have Ac2 := A_10.cellAt 2 rfl
  have Ac3 := A_10.cellAt 3 rfl
  have Al := A_10.lt
  have Lc0 := L_10.cellAt 0 rfl
  have Lc1 := L_10.cellAt 1 rfl
  have Lc2 := L_10.cellAt 2 rfl
  have Lc3 := L_10.cellAt 3 rfl
  have Lc4 := L_10.cellAt 4 rfl
  have Lc5 := L_10.cellAt 5 rfl
  have Lc6 := L_10.cellAt 6 rfl
  have Lc7 := L_10.cellAt 7 rfl
  have Lc8 := L_10.cellAt 8 rfl
  have Ll := L_10.lt
  go_wp2
  go_quiet (fail)
  have hb1 : Below w10_.heap.size w10_ (w10_.drewN nq) := below_drewN' (Below.refl _ _) nq
  have A_11 : Blk (w10_.drewN nq) (w.heap.size) 23 #[.int .i64 2, .int .i64 t, .int .i64 s, .bool r] := (A_10).past hb1
  have L_11 : Blk (w10_.drewN nq) (w3_.heap.size) 38 #[.int .i64 x1, .int .i64 x2, .int .i64 x3, .int .i64 x4, .int .i64 x5, .int .i64 x6, .int .i64 x7, .int .i64 x8, .int .i64 x9] := (L_10).past hb1
  have Z0_11 : Blk (w10_.drewN nq) (qb6_) 48 #[.int .i64 p0, .int .i64 q0] := (Z0_10).past hb1
  have S_11 := pt (S_10) hb1
  clear A_10 L_10 Z0_10 S_10 Ac0 Ac1 Ac2 Ac3 Al Lc0 Lc1 Lc2 Lc3 Lc4 Lc5 Lc6 Lc7 Lc8 Ll
  clear hb1
  generalize w10_.drewN nq = w11_ at *
  have Ac0 := A_11.cellAt 0 rfl
  have Ac1 := A_11.cellAt 1 rfl
  have Ac2 := A_11.cellAt 2 rfl
  have Ac3 := A_11.cellAt 3 rfl
  have Al := A_11.lt
  have Lc0 := L_11.cellAt 0 rfl
  have Lc1 := L_11.cellAt 1 rfl
  have Lc2 := L_11.cellAt 2 rfl
  have Lc3 := L_11.cellAt 3 rfl
  have Lc4 := L_11.cellAt 4 rfl
  have Lc5 := L_11.cellAt 5 rfl
  have Lc6 := L_11.cellAt 6 rfl
  have Lc7 := L_11.cellAt 7 rfl
  have Lc8 := L_11.cellAt 8 rfl
  have Ll := L_11.lt
  go_wp2
  clear Z0_11
  clear ne_A_Z0 ne_L_Z0
  rw [rounds_succ]
  go_wp2
  refine region_alloc_late (zs := #[.int .i64 0, .int .i64 0]) 17 follows_mixed (by kernel_rfl) rfl rfl (fun _ _ => by kernel_rfl) ?_
  simp only [List.take_succ_cons, List.take_zero, List.drop_succ_cons, List.drop_zero]
  repeat (first
    | ((with_reducible apply grow_plain); (focus rfl); (focus (intro w' hw; obtain ⟨hcq, hfq⟩ := bcell hw; go_simp; (first | done | rfl | (with_reducible exact HP1.out _)))); (simp only [Act.put, List.setIfInBounds_toArray, List.set_cons_succ, List.set_cons_zero]))
    | ((with_reducible apply grow_skip); (focus (first | (simp [Region.wanted, yielded]; done) | (simp [Region.wanted, yielded, undef]; done))); simp only [Act.put, List.setIfInBounds_toArray, List.set_cons_succ, List.set_cons_zero])
    | ((with_reducible apply grow_go); (focus (first | (simp [Region.wanted, yielded]; done) | (simp [Region.wanted, yielded, undef]; done))); (focus (intro w' hw; obtain ⟨hcq, hfq⟩ := bcell hw; go_simp; (first | done | rfl | (with_reducible exact HP1.out _)))); (simp only [Act.put, List.setIfInBounds_toArray, List.set_cons_succ, List.set_cons_zero])))
  refine grow_nil ?_
  refine ⟨#[.int .i64 p1, .int .i64 q1], fun _ => rfl, fun _ => rfl, rfl, phasor2_size, (by simp [Value.oneCell']; done), ?_⟩
  intro qb12_ w1 hgZ hbZ hb1
  simp only [Act.put, List.setIfInBounds_toArray, List.set_cons_succ, List.set_cons_zero]
  have ne_A_Z1 : w.heap.size ≠ qb12_ := by have := A_11.lt; omega
  have A_12 : Blk w1 (w.heap.size) 23 #[.int .i64 2, .int .i64 t, .int .i64 s, .bool r] := A_11.past hb1
  have ne_L_Z1 : w3_.heap.size ≠ qb12_ := by have := L_11.lt; omega
  have L_12 : Blk w1 (w3_.heap.size) 38 #[.int .i64 x1, .int .i64 x2, .int .i64 x3, .int .i64 x4, .int .i64 x5, .int .i64 x6, .int .i64 x7, .int .i64 x8, .int .i64 x9] := L_11.past hb1
  have Z1_12 : Blk w1 qb12_ 48 #[.int .i64 p1, .int .i64 q1] := hbZ
  have ge_Z1 : w.heap.size ≤ qb12_ := by have := (S_11).size; omega
  have S_12 := pt (S_11) hb1
  clear A_11 L_11 S_11 Ac0 Ac1 Ac2 Ac3 Al Lc0 Lc1 Lc2 Lc3 Lc4 Lc5 Lc6 Lc7 Lc8 Ll
  clear hb1 hbZ hgZ
  obtain ⟨w12_, rfl⟩ : ∃ v, v = w1 := ⟨_, rfl⟩
  have Ac0 := A_12.cellAt 0 rfl
  have Ac1 := A_12.cellAt 1 rfl
  have Ac2 := A_12.cellAt 2 rfl
  have Ac3 := A_12.cellAt 3 rfl
  have Al := A_12.lt
  have Lc0 := L_12.cellAt 0 rfl
  have Lc1 := L_12.cellAt 1 rfl
  have Lc2 := L_12.cellAt 2 rfl
  have Lc3 := L_12.cellAt 3 rfl
  have Lc4 := L_12.cellAt 4 rfl
  have Lc5 := L_12.cellAt 5 rfl
  have Lc6 := L_12.cellAt 6 rfl
  have Lc7 := L_12.cellAt 7 rfl
  have Lc8 := L_12.cellAt 8 rfl
  have Ll := L_12.lt
  have Z1c0 := Z1_12.cellAt 0 rfl
  have Z1c1 := Z1_12.cellAt 1 rfl
  have Z1l := Z1_12.lt
  go_wp2_with (first
    | (go_at_call 22; (with_reducible refine (HS1.out _).mono ?_); rintro e w13_ ⟨rfl, h13_⟩; have A_13 : Blk w13_ (w.heap.size) 23 #[.int .i64 2, .int .i64 t, .int .i64 s, .bool r] := (A_12).past h13_; have L_13 : Blk w13_ (w3_.heap.size) 38 #[.int .i64 x1, .int .i64 x2, .int .i64 x3, .int .i64 x4, .int .i64 x5, .int .i64 x6, .int .i64 x7, .int .i64 x8, .int .i64 x9] := (L_12).past h13_; have Z1_13 : Blk w13_ (qb12_) 48 #[.int .i64 p1, .int .i64 q1] := (Z1_12).past h13_; have S_13 := pt (S_12) h13_; clear A_12 L_12 Z1_12 S_12 Ac0 Ac1 Ac2 Ac3 Al Lc0 Lc1 Lc2 Lc3 Lc4 Lc5 Lc6 Lc7 Lc8 Ll Z1c0 Z1c1 Z1l; have Ac0 := A_13.cellAt 0 rfl; have Ac1 := A_13.cellAt 1 rfl; have Ac2 := A_13.cellAt 2 rfl; have Ac3 := A_13.cellAt 3 rfl; have Al := A_13.lt; have Lc0 := L_13.cellAt 0 rfl; have Lc1 := L_13.cellAt 1 rfl; have Lc2 := L_13.cellAt 2 rfl; have Lc3 := L_13.cellAt 3 rfl; have Lc4 := L_13.cellAt 4 rfl; have Lc5 := L_13.cellAt 5 rfl; have Lc6 := L_13.cellAt 6 rfl; have Lc7 := L_13.cellAt 7 rfl; have Lc8 := L_13.cellAt 8 rfl; have Ll := L_13.lt; have Z1c0 := Z1_13.cellAt 0 rfl; have Z1c1 := Z1_13.cellAt 1 rfl; have Z1l := Z1_13.lt; clear h13_)
    | (go_at_call 23; (with_reducible refine (HH1.out _ (HT.out _ (S_13))).mono ?_); rintro e w14_ ⟨rfl, h14_⟩; have A_14 : Blk w14_ (w.heap.size) 23 #[.int .i64 2, .int .i64 t, .int .i64 s, .bool r] := (A_13).past h14_; have L_14 : Blk w14_ (w3_.heap.size) 38 #[.int .i64 x1, .int .i64 x2, .int .i64 x3, .int .i64 x4, .int .i64 x5, .int .i64 x6, .int .i64 x7, .int .i64 x8, .int .i64 x9] := (L_13).past h14_; have Z1_14 : Blk w14_ (qb12_) 48 #[.int .i64 p1, .int .i64 q1] := (Z1_13).past h14_; have S_14 := pt (S_13) h14_; clear A_13 L_13 Z1_13 S_13 Ac0 Ac1 Ac2 Ac3 Al Lc0 Lc1 Lc2 Lc3 Lc4 Lc5 Lc6 Lc7 Lc8 Ll Z1c0 Z1c1 Z1l; have Ac0 := A_14.cellAt 0 rfl; have Ac1 := A_14.cellAt 1 rfl; have Ac2 := A_14.cellAt 2 rfl; have Ac3 := A_14.cellAt 3 rfl; have Al := A_14.lt; have Lc0 := L_14.cellAt 0 rfl; have Lc1 := L_14.cellAt 1 rfl; have Lc2 := L_14.cellAt 2 rfl; have Lc3 := L_14.cellAt 3 rfl; have Lc4 := L_14.cellAt 4 rfl; have Lc5 := L_14.cellAt 5 rfl; have Lc6 := L_14.cellAt 6 rfl; have Lc7 := L_14.cellAt 7 rfl; have Lc8 := L_14.cellAt 8 rfl; have Ll := L_14.lt; have Z1c0 := Z1_14.cellAt 0 rfl; have Z1c1 := Z1_14.cellAt 1 rfl; have Z1l := Z1_14.lt; clear h14_)
    | (go_at_call 32; (with_reducible refine (HW1.out _).mono ?_); rintro e w' ⟨rfl, rfl⟩))
  go_quiet (fail)
  have hb1 : Below w14_.heap.size w14_ (w14_.drewN nq) := below_drewN' (Below.refl _ _) nq
  have A_16 : Blk (w14_.drewN nq) (w.heap.size) 23 #[.int .i64 2, .int .i64 t, .int .i64 s, .bool r] := (A_14).past hb1
  have L_16 : Blk (w14_.drewN nq) (w3_.heap.size) 38 #[.int .i64 x1, .int .i64 x2, .int .i64 x3, .int .i64 x4, .int .i64 x5, .int .i64 x6, .int .i64 x7, .int .i64 x8, .int .i64 x9] := (L_14).past hb1
  have Z1_16 : Blk (w14_.drewN nq) (qb12_) 48 #[.int .i64 p1, .int .i64 q1] := (Z1_14).past hb1
  have S_16 := pt (S_14) hb1
  clear A_14 L_14 Z1_14 S_14 Ac0 Ac1 Ac2 Ac3 Al Lc0 Lc1 Lc2 Lc3 Lc4 Lc5 Lc6 Lc7 Lc8 Ll Z1c0 Z1c1 Z1l
  clear hb1
  generalize w14_.drewN nq = w16_ at *
  have Ac0 := A_16.cellAt 0 rfl
  have Ac1 := A_16.cellAt 1 rfl
  have Ac2 := A_16.cellAt 2 rfl
  have Ac3 := A_16.cellAt 3 rfl
  have Al := A_16.lt
  have Lc0 := L_16.cellAt 0 rfl
  have Lc1 := L_16.cellAt 1 rfl
  have Lc2 := L_16.cellAt 2 rfl
  have Lc3 := L_16.cellAt 3 rfl
  have Lc4 := L_16.cellAt 4 rfl
  have Lc5 := L_16.cellAt 5 rfl
  have Lc6 := L_16.cellAt 6 rfl
  have Lc7 := L_16.cellAt 7 rfl
  have Lc8 := L_16.cellAt 8 rfl
  have Ll := L_16.lt
  go_wp2
  go_quiet (fail)
  have hb1 : Below w16_.heap.size w16_ (w16_.drewN nq) := below_drewN' (Below.refl _ _) nq
  have A_17 : Blk (w16_.drewN nq) (w.heap.size) 23 #[.int .i64 2, .int .i64 t, .int .i64 s, .bool r] := (A_16).past hb1
  have L_17 : Blk (w16_.drewN nq) (w3_.heap.size) 38 #[.int .i64 x1, .int .i64 x2, .int .i64 x3, .int .i64 x4, .int .i64 x5, .int .i64 x6, .int .i64 x7, .int .i64 x8, .int .i64 x9] := (L_16).past hb1
  have Z1_17 : Blk (w16_.drewN nq) (qb12_) 48 #[.int .i64 p1, .int .i64 q1] := (Z1_16).past hb1
  have S_17 := pt (S_16) hb1
  clear A_16 L_16 Z1_16 S_16 Ac0 Ac1 Ac2 Ac3 Al Lc0 Lc1 Lc2 Lc3 Lc4 Lc5 Lc6 Lc7 Lc8 Ll
  clear hb1
  generalize w16_.drewN nq = w17_ at *
  have Ac0 := A_17.cellAt 0 rfl
  have Ac1 := A_17.cellAt 1 rfl
  have Ac2 := A_17.cellAt 2 rfl
  have Ac3 := A_17.cellAt 3 rfl
  have Al := A_17.lt
  have Lc0 := L_17.cellAt 0 rfl
  have Lc1 := L_17.cellAt 1 rfl
  have Lc2 := L_17.cellAt 2 rfl
  have Lc3 := L_17.cellAt 3 rfl
  have Lc4 := L_17.cellAt 4 rfl
  have Lc5 := L_17.cellAt 5 rfl
  have Lc6 := L_17.cellAt 6 rfl
  have Lc7 := L_17.cellAt 7 rfl
  have Lc8 := L_17.cellAt 8 rfl
  have Ll := L_17.lt
  go_wp2
  clear Z1_17
  clear ne_A_Z1 ne_L_Z1
  rw [rounds_succ]
  go_wp2
  refine region_alloc_late (zs := #[.int .i64 0, .int .i64 0]) 17 follows_mixed (by kernel_rfl) rfl rfl (fun _ _ => by kernel_rfl) ?_
  simp only [List.take_succ_cons, List.take_zero, List.drop_succ_cons, List.drop_zero]
  repeat (first
    | ((with_reducible apply grow_plain); (focus rfl); (focus (intro w' hw; obtain ⟨hcq, hfq⟩ := bcell hw; go_simp; (first | done | rfl | (with_reducible exact HP2.out _)))); (simp only [Act.put, List.setIfInBounds_toArray, List.set_cons_succ, List.set_cons_zero]))
    | ((with_reducible apply grow_skip); (focus (first | (simp [Region.wanted, yielded]; done) | (simp [Region.wanted, yielded, undef]; done))); simp only [Act.put, List.setIfInBounds_toArray, List.set_cons_succ, List.set_cons_zero])
    | ((with_reducible apply grow_go); (focus (first | (simp [Region.wanted, yielded]; done) | (simp [Region.wanted, yielded, undef]; done))); (focus (intro w' hw; obtain ⟨hcq, hfq⟩ := bcell hw; go_simp; (first | done | rfl | (with_reducible exact HP2.out _)))); (simp only [Act.put, List.setIfInBounds_toArray, List.set_cons_succ, List.set_cons_zero])))
  refine grow_nil ?_
  refine ⟨#[.int .i64 p2, .int .i64 q2], fun _ => rfl, fun _ => rfl, rfl, phasor2_size, (by simp [Value.oneCell']; done), ?_⟩
  intro qb18_ w1 hgZ hbZ hb1
  simp only [Act.put, List.setIfInBounds_toArray, List.set_cons_succ, List.set_cons_zero]
  have ne_A_Z2 : w.heap.size ≠ qb18_ := by have := A_17.lt; omega
  have A_18 : Blk w1 (w.heap.size) 23 #[.int .i64 2, .int .i64 t, .int .i64 s, .bool r] := A_17.past hb1
  have ne_L_Z2 : w3_.heap.size ≠ qb18_ := by have := L_17.lt; omega
  have L_18 : Blk w1 (w3_.heap.size) 38 #[.int .i64 x1, .int .i64 x2, .int .i64 x3, .int .i64 x4, .int .i64 x5, .int .i64 x6, .int .i64 x7, .int .i64 x8, .int .i64 x9] := L_17.past hb1
  have Z2_18 : Blk w1 qb18_ 48 #[.int .i64 p2, .int .i64 q2] := hbZ
  have ge_Z2 : w.heap.size ≤ qb18_ := by have := (S_17).size; omega
  have S_18 := pt (S_17) hb1
  clear A_17 L_17 S_17 Ac0 Ac1 Ac2 Ac3 Al Lc0 Lc1 Lc2 Lc3 Lc4 Lc5 Lc6 Lc7 Lc8 Ll
  clear hb1 hbZ hgZ
  obtain ⟨w18_, rfl⟩ : ∃ v, v = w1 := ⟨_, rfl⟩
  have Ac0 := A_18.cellAt 0 rfl
  have Ac1 := A_18.cellAt 1 rfl
  have Ac2 := A_18.cellAt 2 rfl
  have Ac3 := A_18.cellAt 3 rfl
  have Al := A_18.lt
  have Lc0 := L_18.cellAt 0 rfl
  have Lc1 := L_18.cellAt 1 rfl
  have Lc2 := L_18.cellAt 2 rfl
  have Lc3 := L_18.cellAt 3 rfl
  have Lc4 := L_18.cellAt 4 rfl
  have Lc5 := L_18.cellAt 5 rfl
  have Lc6 := L_18.cellAt 6 rfl
  have Lc7 := L_18.cellAt 7 rfl
  have Lc8 := L_18.cellAt 8 rfl
  have Ll := L_18.lt
  have Z2c0 := Z2_18.cellAt 0 rfl
  have Z2c1 := Z2_18.cellAt 1 rfl
  have Z2l := Z2_18.lt
  go_wp2_with (first
    | (go_at_call 22; (with_reducible refine (HS2.out _).mono ?_); rintro e w19_ ⟨rfl, h19_⟩; have A_19 : Blk w19_ (w.heap.size) 23 #[.int .i64 2, .int .i64 t, .int .i64 s, .bool r] := (A_18).past h19_; have L_19 : Blk w19_ (w3_.heap.size) 38 #[.int .i64 x1, .int .i64 x2, .int .i64 x3, .int .i64 x4, .int .i64 x5, .int .i64 x6, .int .i64 x7, .int .i64 x8, .int .i64 x9] := (L_18).past h19_; have Z2_19 : Blk w19_ (qb18_) 48 #[.int .i64 p2, .int .i64 q2] := (Z2_18).past h19_; have S_19 := pt (S_18) h19_; clear A_18 L_18 Z2_18 S_18 Ac0 Ac1 Ac2 Ac3 Al Lc0 Lc1 Lc2 Lc3 Lc4 Lc5 Lc6 Lc7 Lc8 Ll Z2c0 Z2c1 Z2l; have Ac0 := A_19.cellAt 0 rfl; have Ac1 := A_19.cellAt 1 rfl; have Ac2 := A_19.cellAt 2 rfl; have Ac3 := A_19.cellAt 3 rfl; have Al := A_19.lt; have Lc0 := L_19.cellAt 0 rfl; have Lc1 := L_19.cellAt 1 rfl; have Lc2 := L_19.cellAt 2 rfl; have Lc3 := L_19.cellAt 3 rfl; have Lc4 := L_19.cellAt 4 rfl; have Lc5 := L_19.cellAt 5 rfl; have Lc6 := L_19.cellAt 6 rfl; have Lc7 := L_19.cellAt 7 rfl; have Lc8 := L_19.cellAt 8 rfl; have Ll := L_19.lt; have Z2c0 := Z2_19.cellAt 0 rfl; have Z2c1 := Z2_19.cellAt 1 rfl; have Z2l := Z2_19.lt; clear h19_)
    | (go_at_call 23; (with_reducible refine (HH2.out _ (HT.out _ (S_19))).mono ?_); rintro e w20_ ⟨rfl, h20_⟩; have A_20 : Blk w20_ (w.heap.size) 23 #[.int .i64 2, .int .i64 t, .int .i64 s, .bool r] := (A_19).past h20_; have L_20 : Blk w20_ (w3_.heap.size) 38 #[.int .i64 x1, .int .i64 x2, .int .i64 x3, .int .i64 x4, .int .i64 x5, .int .i64 x6, .int .i64 x7, .int .i64 x8, .int .i64 x9] := (L_19).past h20_; have Z2_20 : Blk w20_ (qb18_) 48 #[.int .i64 p2, .int .i64 q2] := (Z2_19).past h20_; have S_20 := pt (S_19) h20_; clear A_19 L_19 Z2_19 S_19 Ac0 Ac1 Ac2 Ac3 Al Lc0 Lc1 Lc2 Lc3 Lc4 Lc5 Lc6 Lc7 Lc8 Ll Z2c0 Z2c1 Z2l; have Ac0 := A_20.cellAt 0 rfl; have Ac1 := A_20.cellAt 1 rfl; have Ac2 := A_20.cellAt 2 rfl; have Ac3 := A_20.cellAt 3 rfl; have Al := A_20.lt; have Lc0 := L_20.cellAt 0 rfl; have Lc1 := L_20.cellAt 1 rfl; have Lc2 := L_20.cellAt 2 rfl; have Lc3 := L_20.cellAt 3 rfl; have Lc4 := L_20.cellAt 4 rfl; have Lc5 := L_20.cellAt 5 rfl; have Lc6 := L_20.cellAt 6 rfl; have Lc7 := L_20.cellAt 7 rfl; have Lc8 := L_20.cellAt 8 rfl; have Ll := L_20.lt; have Z2c0 := Z2_20.cellAt 0 rfl; have Z2c1 := Z2_20.cellAt 1 rfl; have Z2l := Z2_20.lt; clear h20_)
    | (go_at_call 32; (with_reducible refine (HW2.out _).mono ?_); rintro e w' ⟨rfl, rfl⟩))
  go_quiet (fail)
  have hb1 : Below w20_.heap.size w20_ (w20_.drewN nq) := below_drewN' (Below.refl _ _) nq
  have A_22 : Blk (w20_.drewN nq) (w.heap.size) 23 #[.int .i64 2, .int .i64 t, .int .i64 s, .bool r] := (A_20).past hb1
  have L_22 : Blk (w20_.drewN nq) (w3_.heap.size) 38 #[.int .i64 x1, .int .i64 x2, .int .i64 x3, .int .i64 x4, .int .i64 x5, .int .i64 x6, .int .i64 x7, .int .i64 x8, .int .i64 x9] := (L_20).past hb1
  have Z2_22 : Blk (w20_.drewN nq) (qb18_) 48 #[.int .i64 p2, .int .i64 q2] := (Z2_20).past hb1
  have S_22 := pt (S_20) hb1
  clear A_20 L_20 Z2_20 S_20 Ac0 Ac1 Ac2 Ac3 Al Lc0 Lc1 Lc2 Lc3 Lc4 Lc5 Lc6 Lc7 Lc8 Ll Z2c0 Z2c1 Z2l
  clear hb1
  generalize w20_.drewN nq = w22_ at *
  have Ac0 := A_22.cellAt 0 rfl
  have Ac1 := A_22.cellAt 1 rfl
  have Ac2 := A_22.cellAt 2 rfl
  have Ac3 := A_22.cellAt 3 rfl
  have Al := A_22.lt
  have Lc0 := L_22.cellAt 0 rfl
  have Lc1 := L_22.cellAt 1 rfl
  have Lc2 := L_22.cellAt 2 rfl
  have Lc3 := L_22.cellAt 3 rfl
  have Lc4 := L_22.cellAt 4 rfl
  have Lc5 := L_22.cellAt 5 rfl
  have Lc6 := L_22.cellAt 6 rfl
  have Lc7 := L_22.cellAt 7 rfl
  have Lc8 := L_22.cellAt 8 rfl
  have Ll := L_22.lt
  go_wp2
  go_quiet (fail)
  have hb1 : Below w22_.heap.size w22_ (w22_.drewN nq) := below_drewN' (Below.refl _ _) nq
  have A_23 : Blk (w22_.drewN nq) (w.heap.size) 23 #[.int .i64 2, .int .i64 t, .int .i64 s, .bool r] := (A_22).past hb1
  have L_23 : Blk (w22_.drewN nq) (w3_.heap.size) 38 #[.int .i64 x1, .int .i64 x2, .int .i64 x3, .int .i64 x4, .int .i64 x5, .int .i64 x6, .int .i64 x7, .int .i64 x8, .int .i64 x9] := (L_22).past hb1
  have Z2_23 : Blk (w22_.drewN nq) (qb18_) 48 #[.int .i64 p2, .int .i64 q2] := (Z2_22).past hb1
  have S_23 := pt (S_22) hb1
  clear A_22 L_22 Z2_22 S_22 Ac0 Ac1 Ac2 Ac3 Al Lc0 Lc1 Lc2 Lc3 Lc4 Lc5 Lc6 Lc7 Lc8 Ll
  clear hb1
  generalize w22_.drewN nq = w23_ at *
  have Ac0 := A_23.cellAt 0 rfl
  have Ac1 := A_23.cellAt 1 rfl
  have Ac2 := A_23.cellAt 2 rfl
  have Ac3 := A_23.cellAt 3 rfl
  have Al := A_23.lt
  have Lc0 := L_23.cellAt 0 rfl
  have Lc1 := L_23.cellAt 1 rfl
  have Lc2 := L_23.cellAt 2 rfl
  have Lc3 := L_23.cellAt 3 rfl
  have Lc4 := L_23.cellAt 4 rfl
  have Lc5 := L_23.cellAt 5 rfl
  have Lc6 := L_23.cellAt 6 rfl
  have Lc7 := L_23.cellAt 7 rfl
  have Lc8 := L_23.cellAt 8 rfl
  have Ll := L_23.lt
  go_wp2
  clear Z2_23
  clear ne_A_Z2 ne_L_Z2
  rw [rounds_succ]
  go_wp2
  go_ret
  exact ⟨rfl, by repeat (first | exact S_23 | refine pa ?_)⟩

set_option maxHeartbeats 8000000 in
set_option maxRecDepth 100000 in
theorem bal_bad (k t s : Int) (r : Bool) (he : windE k t s ≠ 0) (w : World) (hT : TwIn w) (hP : PatIn w) :
    Calls Tryd.prog 6 #[.agg #[.int .i64 k, .int .i64 t, .int .i64 s, .bool r]] w fun e w' => e = .returned (.bool true) ∧ Below w.heap.size w w' := by
  have HT := Lib.hid (fun w' (h : Below w.heap.size w w') => hT.below h)
  have HP := Lib.hid (fun w' (h : Below w.heap.size w w') => hP.below h)
  have HE := Lib.hid (refWindingErr_any k t s r)
  have h0 : (windE k t s == 0) = false := by simpa using he
  have h1 : (windE k t s != 0) = true := by simpa using he
  generalize windE k t s = E at *
  clear hT hP he
  go_enter Tryd.func6, Tryd.ntmps6
  go_wp2_with (first
    | (go_at_call 11; (with_reducible refine (awake_any _ (HT.out _ (pa (pr))) (HP.out _ (pa (pr)))).mono ?_); rintro e w1_ ⟨rfl, h1_⟩; have A_1 : Blk w1_ (w.heap.size) 23 #[.int .i64 k, .int .i64 t, .int .i64 s, .bool r] := (Blk.newAt (by simp)).past h1_; have S_1 := pt (pa (pr)) h1_; have Ac0 := A_1.cellAt 0 rfl; have Ac1 := A_1.cellAt 1 rfl; have Ac2 := A_1.cellAt 2 rfl; have Ac3 := A_1.cellAt 3 rfl; have Al := A_1.lt; clear h1_)
    | (go_at_call 13; (with_reducible refine (HE.out _).mono ?_); rintro e w2_ ⟨rfl, h2_⟩; have A_2 : Blk w2_ (w.heap.size) 23 #[.int .i64 k, .int .i64 t, .int .i64 s, .bool r] := (A_1).past h2_; have S_2 := pt (S_1) h2_; clear A_1 S_1 Ac0 Ac1 Ac2 Ac3 Al; clear h2_))
  go_ret
  exact ⟨rfl, by repeat (first | exact S_2 | refine pa ?_)⟩

end Go.Proofs.YtnhcamokcggnkaaDoor
