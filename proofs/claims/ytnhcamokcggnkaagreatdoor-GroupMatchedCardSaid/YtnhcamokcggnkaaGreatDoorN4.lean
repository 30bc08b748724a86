/- Contract of the specification's sequence of lines. Printed by a program (gen_refseq.py).
Contracts of the specification: the error of lines, permutations, the voltage between terminals, renamed lines; the sequence of lines whole. Printed by a program (gen_reflo.py).
Contracts of the specification: which three numbers are a permutation; renamed lines. Printed by a program (gen_isperm.py). -/
import Derived.Test.YtnhcamokcggnkaaGreatDoorHWPhas
import Derived.Test.YtnhcamokcggnkaaGreatDoorGSHours
import Derived.Test.YtnhcamokcggnkaaGreatDoorHAStore
import Derived.Test.YtnhcamokcggnkaaGreatDoorN1
import Derived.Test.YtnhcamokcggnkaaGreatDoorN3

section
namespace Go.Proofs.YtnhcamokcggnkaaGreatDoor
open Go.RowKit
attribute [local go_sem ↓] Go.wp_at_zero Go.wp_at_succ
attribute [local go_sem] l9_at0 l9_at1 l9_at2
attribute [local go_sem ↓ high] apiph_eql apiph_neq
theorem seq2_size : (Tryz.prog.info? 47).map (·.size) = some 2 := by kernel_rfl

set_option maxHeartbeats 8000000 in
set_option maxRecDepth 100000 in
theorem refSeq_zero (x1 x2 x3 x4 x5 x6 x7 x8 x9 p0 q0 p1 q1 p2 q2 a1 a2 b1 b2 c1 c2 d1 d2 : Int)
    (ha : ∀ w, Calls Tryz.prog 59 #[.agg #[.int .i64 x1, .int .i64 x2, .int .i64 x3]] w fun e w' => e = .returned (.agg #[.int .i64 p0, .int .i64 q0]) ∧ Below w.heap.size w w')
    (hb : ∀ w, Calls Tryz.prog 59 #[.agg #[.int .i64 x4, .int .i64 x5, .int .i64 x6]] w fun e w' => e = .returned (.agg #[.int .i64 p1, .int .i64 q1]) ∧ Below w.heap.size w w')
    (hc : ∀ w, Calls Tryz.prog 59 #[.agg #[.int .i64 x7, .int .i64 x8, .int .i64 x9]] w fun e w' => e = .returned (.agg #[.int .i64 p2, .int .i64 q2]) ∧ Below w.heap.size w w')
    (h1 : ∀ w, Calls Tryz.prog 155 #[.agg #[.int .i64 p0, .int .i64 q0], .agg #[.int .i64 (-1), .int .i64 (-1)]] w fun e w' => e = .returned (.agg #[.int .i64 a1, .int .i64 a2]) ∧ Below w.heap.size w w')
    (h2 : ∀ w, Calls Tryz.prog 155 #[.agg #[.int .i64 p1, .int .i64 q1], .agg #[.int .i64 (-1), .int .i64 (-1)]] w fun e w' => e = .returned (.agg #[.int .i64 b1, .int .i64 b2]) ∧ Below w.heap.size w w')
    (h3 : ∀ w, Calls Tryz.prog 155 #[.agg #[.int .i64 p0, .int .i64 q0], .agg #[.int .i64 0, .int .i64 1]] w fun e w' => e = .returned (.agg #[.int .i64 c1, .int .i64 c2]) ∧ Below w.heap.size w w')
    (h4 : ∀ w, Calls Tryz.prog 155 #[.agg #[.int .i64 p1, .int .i64 q1], .agg #[.int .i64 0, .int .i64 1]] w fun e w' => e = .returned (.agg #[.int .i64 d1, .int .i64 d2]) ∧ Below w.heap.size w w')
    (hz : phB p0 q0 0 0 = true) (w : World) :
    Calls Tryz.prog 129 #[.agg #[.int .i64 x1, .int .i64 x2, .int .i64 x3, .int .i64 x4, .int .i64 x5, .int .i64 x6, .int .i64 x7, .int .i64 x8, .int .i64 x9]] w fun e w' => e = .returned (.tuple #[.int .i64 0, .int .i64 11]) ∧ Below w.heap.size w w' := by
  have HA := Lib.hid ha
  have HB := Lib.hid hb
  have HC := Lib.hid hc
  have H1 := Lib.hid h1
  have H2 := Lib.hid h2
  have H3 := Lib.hid h3
  have H4 := Lib.hid h4
  clear ha hb hc h1 h2 h3 h4
  go_enter Tryz.func129, Tryz.ntmps129
  go_wp2
  refine region_alloc3 (zc1 := (.cells #[.int .i64 0, .int .i64 0] 47)) (zc2 := (.cells #[.int .i64 0, .int .i64 0] 47)) (zc3 := (.cells #[.int .i64 0, .int .i64 0] 47)) 9 follows_mixed (by kernel_rfl) rfl rfl rfl (fun _ _ => by kernel_rfl) (fun _ _ => by kernel_rfl) (fun _ _ => by kernel_rfl) ?_
  simp only [List.take_succ_cons, List.take_zero, List.drop_succ_cons, List.drop_zero]
  repeat (first
    | ((with_reducible apply grow_plain); (focus rfl); (focus (intro w' hw; obtain ⟨hcq, hfq⟩ := bcell hw; go_simp; (first | done | rfl | (with_reducible exact HA.out _) | (with_reducible exact HB.out _) | (with_reducible exact HC.out _)))); (simp only [Act.put, List.setIfInBounds_toArray, List.set_cons_succ, List.set_cons_zero]))
    | ((with_reducible apply grow_skip); (focus (first | (simp [Region.wanted, yielded]; done) | (simp [Region.wanted, yielded, undef]; done))); simp only [Act.put, List.setIfInBounds_toArray, List.set_cons_succ, List.set_cons_zero])
    | ((with_reducible apply grow_go); (focus (first | (simp [Region.wanted, yielded]; done) | (simp [Region.wanted, yielded, undef]; done))); (focus (intro w' hw; obtain ⟨hcq, hfq⟩ := bcell hw; go_simp; (first | done | rfl | (with_reducible exact HA.out _) | (with_reducible exact HB.out _) | (with_reducible exact HC.out _)))); (simp only [Act.put, List.setIfInBounds_toArray, List.set_cons_succ, List.set_cons_zero])))
  refine grow_nil ?_
  intro qb1 qb2 qb3 w1 hb1 hn1 hn2 hn3 hq12 hq13 hq23
  simp only [Act.put, List.setIfInBounds_toArray, List.set_cons_succ, List.set_cons_zero]
  have L_1 : Blk w1 (w.heap.size) 81 #[.int .i64 x1, .int .i64 x2, .int .i64 x3, .int .i64 x4, .int .i64 x5, .int .i64 x6, .int .i64 x7, .int .i64 x8, .int .i64 x9] := (Blk.newAt (by simp)).past hb1
  have ne_L_A : w.heap.size ≠ qb1 := by have := hn1.ge; simp at this; omega
  have ne_L_B : w.heap.size ≠ qb2 := by have := hn2.ge; simp at this; omega
  have ne_L_C : w.heap.size ≠ qb3 := by have := hn3.ge; simp at this; omega
  have A_1 : Blk w1 qb1 47 #[.int .i64 0, .int .i64 0] := hn1.at_
  have ge_A : w.heap.size ≤ qb1 := by have := hn1.ge; simp at this; omega
  have B_1 : Blk w1 qb2 47 #[.int .i64 0, .int .i64 0] := hn2.at_
  have ge_B : w.heap.size ≤ qb2 := by have := hn2.ge; simp at this; omega
  have C_1 : Blk w1 qb3 47 #[.int .i64 0, .int .i64 0] := hn3.at_
  have ge_C : w.heap.size ≤ qb3 := by have := hn3.ge; simp at this; omega
  have ne_A_B := hq12
  have ne_A_C := hq13
  have ne_B_C := hq23
  have S_1 := pt (pa (pr)) hb1
  clear hb1 hn1 hn2 hn3 hq12 hq13 hq23
  obtain ⟨w1_, rfl⟩ : ∃ v, v = w1 := ⟨_, rfl⟩
  go_wp2_with (first
    | ((with_reducible refine store_sub (T := 47) (x := .tmp 4) (y := .tmp 11) (o := 0) (cs' := #[.int .i64 p0, .int .i64 q0]) (vs := #[.int .i64 p0, .int .i64 q0]) (show Blk _ (qb1) 47 #[.int .i64 0, .int .i64 0] from (A_1)) ?_ ?_ ?_ ?_ ?_ ?_ ?_); (focus rfl); (focus rfl); (focus rfl); (focus exact Nat.le_of_ble_eq_true rfl); (focus exact seq2_size); (focus (simp [Value.oneCell']; done)); intro w2_ b2_ h2_; have L_2 : Blk w2_ (w.heap.size) 81 #[.int .i64 x1, .int .i64 x2, .int .i64 x3, .int .i64 x4, .int .i64 x5, .int .i64 x6, .int .i64 x7, .int .i64 x8, .int .i64 x9] := (L_1).put h2_ ne_L_A; have A_2 : Blk w2_ (qb1) 47 #[.int .i64 p0, .int .i64 q0] := b2_; have B_2 : Blk w2_ (qb2) 47 #[.int .i64 0, .int .i64 0] := (B_1).put h2_ (Ne.symm ne_A_B); have C_2 : Blk w2_ (qb3) 47 #[.int .i64 0, .int .i64 0] := (C_1).put h2_ (Ne.symm ne_A_C); have S_2 := pp (S_1) h2_ ge_A; clear L_1 A_1 B_1 C_1 S_1; clear h2_ b2_)
    | ((with_reducible refine store_sub (T := 47) (x := .tmp 5) (y := .tmp 14) (o := 0) (cs' := #[.int .i64 p1, .int .i64 q1]) (vs := #[.int .i64 p1, .int .i64 q1]) (show Blk _ (qb2) 47 #[.int .i64 0, .int .i64 0] from (B_2)) ?_ ?_ ?_ ?_ ?_ ?_ ?_); (focus rfl); (focus rfl); (focus rfl); (focus exact Nat.le_of_ble_eq_true rfl); (focus exact seq2_size); (focus (simp [Value.oneCell']; done)); intro w3_ b3_ h3_; have L_3 : Blk w3_ (w.heap.size) 81 #[.int .i64 x1, .int .i64 x2, .int .i64 x3, .int .i64 x4, .int .i64 x5, .int .i64 x6, .int .i64 x7, .int .i64 x8, .int .i64 x9] := (L_2).put h3_ ne_L_B; have A_3 : Blk w3_ (qb1) 47 #[.int .i64 p0, .int .i64 q0] := (A_2).put h3_ ne_A_B; have B_3 : Blk w3_ (qb2) 47 #[.int .i64 p1, .int .i64 q1] := b3_; have C_3 : Blk w3_ (qb3) 47 #[.int .i64 0, .int .i64 0] := (C_2).put h3_ (Ne.symm ne_B_C); have S_3 := pp (S_2) h3_ ge_B; clear L_2 A_2 B_2 C_2 S_2; clear h3_ b3_)
    | ((with_reducible refine store_sub (T := 47) (x := .tmp 6) (y := .tmp 17) (o := 0) (cs' := #[.int .i64 p2, .int .i64 q2]) (vs := #[.int .i64 p2, .int .i64 q2]) (show Blk _ (qb3) 47 #[.int .i64 0, .int .i64 0] from (C_3)) ?_ ?_ ?_ ?_ ?_ ?_ ?_); (focus rfl); (focus rfl); (focus rfl); (focus exact Nat.le_of_ble_eq_true rfl); (focus exact seq2_size); (focus (simp [Value.oneCell']; done)); intro w4_ b4_ h4_; have L_4 : Blk w4_ (w.heap.size) 81 #[.int .i64 x1, .int .i64 x2, .int .i64 x3, .int .i64 x4, .int .i64 x5, .int .i64 x6, .int .i64 x7, .int .i64 x8, .int .i64 x9] := (L_3).put h4_ ne_L_C; have A_4 : Blk w4_ (qb1) 47 #[.int .i64 p0, .int .i64 q0] := (A_3).put h4_ ne_A_C; have B_4 : Blk w4_ (qb2) 47 #[.int .i64 p1, .int .i64 q1] := (B_3).put h4_ ne_B_C; have C_4 : Blk w4_ (qb3) 47 #[.int .i64 p2, .int .i64 q2] := b4_; have S_4 := pp (S_3) h4_ ge_C; clear L_3 A_3 B_3 C_3 S_3; have Ac0 := A_4.cellAt 0 rfl; have Ac1 := A_4.cellAt 1 rfl; have Al := A_4.lt; have Bc0 := B_4.cellAt 0 rfl; have Bc1 := B_4.cellAt 1 rfl; have Bl := B_4.lt; have Cc0 := C_4.cellAt 0 rfl; have Cc1 := C_4.cellAt 1 rfl; have Cl := C_4.lt; clear h4_ b4_))
  go_ret2
  exact ⟨rfl, by repeat (first | exact S_4 | refine pa ?_)⟩

set_option maxHeartbeats 8000000 in
set_option maxRecDepth 100000 in
theorem refSeq_one (x1 x2 x3 x4 x5 x6 x7 x8 x9 p0 q0 p1 q1 p2 q2 a1 a2 b1 b2 c1 c2 d1 d2 : Int)
    (ha : ∀ w, Calls Tryz.prog 59 #[.agg #[.int .i64 x1, .int .i64 x2, .int .i64 x3]] w fun e w' => e = .returned (.agg #[.int .i64 p0, .int .i64 q0]) ∧ Below w.heap.size w w')
    (hb : ∀ w, Calls Tryz.prog 59 #[.agg #[.int .i64 x4, .int .i64 x5, .int .i64 x6]] w fun e w' => e = .returned (.agg #[.int .i64 p1, .int .i64 q1]) ∧ Below w.heap.size w w')
    (hc : ∀ w, Calls Tryz.prog 59 #[.agg #[.int .i64 x7, .int .i64 x8, .int .i64 x9]] w fun e w' => e = .returned (.agg #[.int .i64 p2, .int .i64 q2]) ∧ Below w.heap.size w w')
    (h1 : ∀ w, Calls Tryz.prog 155 #[.agg #[.int .i64 p0, .int .i64 q0], .agg #[.int .i64 (-1), .int .i64 (-1)]] w fun e w' => e = .returned (.agg #[.int .i64 a1, .int .i64 a2]) ∧ Below w.heap.size w w')
    (h2 : ∀ w, Calls Tryz.prog 155 #[.agg #[.int .i64 p1, .int .i64 q1], .agg #[.int .i64 (-1), .int .i64 (-1)]] w fun e w' => e = .returned (.agg #[.int .i64 b1, .int .i64 b2]) ∧ Below w.heap.size w w')
    (h3 : ∀ w, Calls Tryz.prog 155 #[.agg #[.int .i64 p0, .int .i64 q0], .agg #[.int .i64 0, .int .i64 1]] w fun e w' => e = .returned (.agg #[.int .i64 c1, .int .i64 c2]) ∧ Below w.heap.size w w')
    (h4 : ∀ w, Calls Tryz.prog 155 #[.agg #[.int .i64 p1, .int .i64 q1], .agg #[.int .i64 0, .int .i64 1]] w fun e w' => e = .returned (.agg #[.int .i64 d1, .int .i64 d2]) ∧ Below w.heap.size w w')
    (hz : phB p0 q0 0 0 = false) (hA : phB p1 q1 a1 a2 = true) (hB : phB p2 q2 b1 b2 = true) (w : World) :
    Calls Tryz.prog 129 #[.agg #[.int .i64 x1, .int .i64 x2, .int .i64 x3, .int .i64 x4, .int .i64 x5, .int .i64 x6, .int .i64 x7, .int .i64 x8, .int .i64 x9]] w fun e w' => e = .returned (.tuple #[.int .i64 1, .int .i64 0]) ∧ Below w.heap.size w w' := by
  have HA := Lib.hid ha
  have HB := Lib.hid hb
  have HC := Lib.hid hc
  have H1 := Lib.hid h1
  have H2 := Lib.hid h2
  have H3 := Lib.hid h3
  have H4 := Lib.hid h4
  clear ha hb hc h1 h2 h3 h4
  go_enter Tryz.func129, Tryz.ntmps129
  go_wp2
  refine region_alloc3 (zc1 := (.cells #[.int .i64 0, .int .i64 0] 47)) (zc2 := (.cells #[.int .i64 0, .int .i64 0] 47)) (zc3 := (.cells #[.int .i64 0, .int .i64 0] 47)) 9 follows_mixed (by kernel_rfl) rfl rfl rfl (fun _ _ => by kernel_rfl) (fun _ _ => by kernel_rfl) (fun _ _ => by kernel_rfl) ?_
  simp only [List.take_succ_cons, List.take_zero, List.drop_succ_cons, List.drop_zero]
  repeat (first
    | ((with_reducible apply grow_plain); (focus rfl); (focus (intro w' hw; obtain ⟨hcq, hfq⟩ := bcell hw; go_simp; (first | done | rfl | (with_reducible exact HA.out _) | (with_reducible exact HB.out _) | (with_reducible exact HC.out _)))); (simp only [Act.put, List.setIfInBounds_toArray, List.set_cons_succ, List.set_cons_zero]))
    | ((with_reducible apply grow_skip); (focus (first | (simp [Region.wanted, yielded]; done) | (simp [Region.wanted, yielded, undef]; done))); simp only [Act.put, List.setIfInBounds_toArray, List.set_cons_succ, List.set_cons_zero])
    | ((with_reducible apply grow_go); (focus (first | (simp [Region.wanted, yielded]; done) | (simp [Region.wanted, yielded, undef]; done))); (focus (intro w' hw; obtain ⟨hcq, hfq⟩ := bcell hw; go_simp; (first | done | rfl | (with_reducible exact HA.out _) | (with_reducible exact HB.out _) | (with_reducible exact HC.out _)))); (simp only [Act.put, List.setIfInBounds_toArray, List.set_cons_succ, List.set_cons_zero])))
  refine grow_nil ?_
  intro qb1 qb2 qb3 w1 hb1 hn1 hn2 hn3 hq12 hq13 hq23
  simp only [Act.put, List.setIfInBounds_toArray, List.set_cons_succ, List.set_cons_zero]
  have L_1 : Blk w1 (w.heap.size) 81 #[.int .i64 x1, .int .i64 x2, .int .i64 x3, .int .i64 x4, .int .i64 x5, .int .i64 x6, .int .i64 x7, .int .i64 x8, .int .i64 x9] := (Blk.newAt (by simp)).past hb1
  have ne_L_A : w.heap.size ≠ qb1 := by have := hn1.ge; simp at this; omega
  have ne_L_B : w.heap.size ≠ qb2 := by have := hn2.ge; simp at this; omega
  have ne_L_C : w.heap.size ≠ qb3 := by have := hn3.ge; simp at this; omega
  have A_1 : Blk w1 qb1 47 #[.int .i64 0, .int .i64 0] := hn1.at_
  have ge_A : w.heap.size ≤ qb1 := by have := hn1.ge; simp at this; omega
  have B_1 : Blk w1 qb2 47 #[.int .i64 0, .int .i64 0] := hn2.at_
  have ge_B : w.heap.size ≤ qb2 := by have := hn2.ge; simp at this; omega
  have C_1 : Blk w1 qb3 47 #[.int .i64 0, .int .i64 0] := hn3.at_
  have ge_C : w.heap.size ≤ qb3 := by have := hn3.ge; simp at this; omega
  have ne_A_B := hq12
  have ne_A_C := hq13
  have ne_B_C := hq23
  have S_1 := pt (pa (pr)) hb1
  clear hb1 hn1 hn2 hn3 hq12 hq13 hq23
  obtain ⟨w1_, rfl⟩ : ∃ v, v = w1 := ⟨_, rfl⟩
  go_wp2_with (first
    | ((with_reducible refine store_sub (T := 47) (x := .tmp 4) (y := .tmp 11) (o := 0) (cs' := #[.int .i64 p0, .int .i64 q0]) (vs := #[.int .i64 p0, .int .i64 q0]) (show Blk _ (qb1) 47 #[.int .i64 0, .int .i64 0] from (A_1)) ?_ ?_ ?_ ?_ ?_ ?_ ?_); (focus rfl); (focus rfl); (focus rfl); (focus exact Nat.le_of_ble_eq_true rfl); (focus exact seq2_size); (focus (simp [Value.oneCell']; done)); intro w2_ b2_ h2_; have L_2 : Blk w2_ (w.heap.size) 81 #[.int .i64 x1, .int .i64 x2, .int .i64 x3, .int .i64 x4, .int .i64 x5, .int .i64 x6, .int .i64 x7, .int .i64 x8, .int .i64 x9] := (L_1).put h2_ ne_L_A; have A_2 : Blk w2_ (qb1) 47 #[.int .i64 p0, .int .i64 q0] := b2_; have B_2 : Blk w2_ (qb2) 47 #[.int .i64 0, .int .i64 0] := (B_1).put h2_ (Ne.symm ne_A_B); have C_2 : Blk w2_ (qb3) 47 #[.int .i64 0, .int .i64 0] := (C_1).put h2_ (Ne.symm ne_A_C); have S_2 := pp (S_1) h2_ ge_A; clear L_1 A_1 B_1 C_1 S_1; clear h2_ b2_)
    | ((with_reducible refine store_sub (T := 47) (x := .tmp 5) (y := .tmp 14) (o := 0) (cs' := #[.int .i64 p1, .int .i64 q1]) (vs := #[.int .i64 p1, .int .i64 q1]) (show Blk _ (qb2) 47 #[.int .i64 0, .int .i64 0] from (B_2)) ?_ ?_ ?_ ?_ ?_ ?_ ?_); (focus rfl); (focus rfl); (focus rfl); (focus exact Nat.le_of_ble_eq_true rfl); (focus exact seq2_size); (focus (simp [Value.oneCell']; done)); intro w3_ b3_ h3_; have L_3 : Blk w3_ (w.heap.size) 81 #[.int .i64 x1, .int .i64 x2, .int .i64 x3, .int .i64 x4, .int .i64 x5, .int .i64 x6, .int .i64 x7, .int .i64 x8, .int .i64 x9] := (L_2).put h3_ ne_L_B; have A_3 : Blk w3_ (qb1) 47 #[.int .i64 p0, .int .i64 q0] := (A_2).put h3_ ne_A_B; have B_3 : Blk w3_ (qb2) 47 #[.int .i64 p1, .int .i64 q1] := b3_; have C_3 : Blk w3_ (qb3) 47 #[.int .i64 0, .int .i64 0] := (C_2).put h3_ (Ne.symm ne_B_C); have S_3 := pp (S_2) h3_ ge_B; clear L_2 A_2 B_2 C_2 S_2; clear h3_ b3_)
    | ((with_reducible refine store_sub (T := 47) (x := .tmp 6) (y := .tmp 17) (o := 0) (cs' := #[.int .i64 p2, .int .i64 q2]) (vs := #[.int .i64 p2, .int .i64 q2]) (show Blk _ (qb3) 47 #[.int .i64 0, .int .i64 0] from (C_3)) ?_ ?_ ?_ ?_ ?_ ?_ ?_); (focus rfl); (focus rfl); (focus rfl); (focus exact Nat.le_of_ble_eq_true rfl); (focus exact seq2_size); (focus (simp [Value.oneCell']; done)); intro w4_ b4_ h4_; have L_4 : Blk w4_ (w.heap.size) 81 #[.int .i64 x1, .int .i64 x2, .int .i64 x3, .int .i64 x4, .int .i64 x5, .int .i64 x6, .int .i64 x7, .int .i64 x8, .int .i64 x9] := (L_3).put h4_ ne_L_C; have A_4 : Blk w4_ (qb1) 47 #[.int .i64 p0, .int .i64 q0] := (A_3).put h4_ ne_A_C; have B_4 : Blk w4_ (qb2) 47 #[.int .i64 p1, .int .i64 q1] := (B_3).put h4_ ne_B_C; have C_4 : Blk w4_ (qb3) 47 #[.int .i64 p2, .int .i64 q2] := b4_; have S_4 := pp (S_3) h4_ ge_C; clear L_3 A_3 B_3 C_3 S_3; have Ac0 := A_4.cellAt 0 rfl; have Ac1 := A_4.cellAt 1 rfl; have Al := A_4.lt; have Bc0 := B_4.cellAt 0 rfl; have Bc1 := B_4.cellAt 1 rfl; have Bl := B_4.lt; have Cc0 := C_4.cellAt 0 rfl; have Cc1 := C_4.cellAt 1 rfl; have Cl := C_4.lt; clear h4_ b4_))
  have L_5 : Blk ((w4_.alloc (.cells #[.int .i64 (-1), .int .i64 (-1)] 47)).alloc (.cells #[.int .i64 0, .int .i64 1] 47)) (w.heap.size) 81 #[.int .i64 x1, .int .i64 x2, .int .i64 x3, .int .i64 x4, .int .i64 x5, .int .i64 x6, .int .i64 x7, .int .i64 x8, .int .i64 x9] := (L_4.alloc.alloc)
  have A_5 : Blk ((w4_.alloc (.cells #[.int .i64 (-1), .int .i64 (-1)] 47)).alloc (.cells #[.int .i64 0, .int .i64 1] 47)) (qb1) 47 #[.int .i64 p0, .int .i64 q0] := (A_4.alloc.alloc)
  have B_5 : Blk ((w4_.alloc (.cells #[.int .i64 (-1), .int .i64 (-1)] 47)).alloc (.cells #[.int .i64 0, .int .i64 1] 47)) (qb2) 47 #[.int .i64 p1, .int .i64 q1] := (B_4.alloc.alloc)
  have C_5 : Blk ((w4_.alloc (.cells #[.int .i64 (-1), .int .i64 (-1)] 47)).alloc (.cells #[.int .i64 0, .int .i64 1] 47)) (qb3) 47 #[.int .i64 p2, .int .i64 q2] := (C_4.alloc.alloc)
  have M_5 : Blk ((w4_.alloc (.cells #[.int .i64 (-1), .int .i64 (-1)] 47)).alloc (.cells #[.int .i64 0, .int .i64 1] 47)) (w4_.heap.size) 47 #[.int .i64 (-1), .int .i64 (-1)] := (Blk.newAt (by simp)).alloc
  have N_5 : Blk ((w4_.alloc (.cells #[.int .i64 (-1), .int .i64 (-1)] 47)).alloc (.cells #[.int .i64 0, .int .i64 1] 47)) (w4_.heap.size + 1) 47 #[.int .i64 0, .int .i64 1] := (Blk.newAt (by simp))
  have ne_A_M : qb1 ≠ w4_.heap.size := (by have := A_4.lt; omega)
  have ne_B_M : qb2 ≠ w4_.heap.size := (by have := B_4.lt; omega)
  have ne_C_M : qb3 ≠ w4_.heap.size := (by have := C_4.lt; omega)
  have ne_A_N : qb1 ≠ w4_.heap.size + 1 := (by have := A_4.lt; omega)
  have ne_B_N : qb2 ≠ w4_.heap.size + 1 := (by have := B_4.lt; omega)
  have ne_C_N : qb3 ≠ w4_.heap.size + 1 := (by have := C_4.lt; omega)
  have S_5 := (show Below w.heap.size w ((w4_.alloc (.cells #[.int .i64 (-1), .int .i64 (-1)] 47)).alloc (.cells #[.int .i64 0, .int .i64 1] 47)) from pa (pa (S_4)))
  clear L_4 A_4 B_4 C_4 S_4 Ac0 Ac1 Al Bc0 Bc1 Bl Cc0 Cc1 Cl
  generalize (w4_.alloc (.cells #[.int .i64 (-1), .int .i64 (-1)] 47)).alloc (.cells #[.int .i64 0, .int .i64 1] 47) = w5_ at *
  have Ac0 := A_5.cellAt 0 rfl
  have Ac1 := A_5.cellAt 1 rfl
  have Al := A_5.lt
  have Bc0 := B_5.cellAt 0 rfl
  have Bc1 := B_5.cellAt 1 rfl
  have Bl := B_5.lt
  have Cc0 := C_5.cellAt 0 rfl
  have Cc1 := C_5.cellAt 1 rfl
  have Cl := C_5.lt
  have Mc0 := M_5.cellAt 0 rfl
  have Mc1 := M_5.cellAt 1 rfl
  have Ml := M_5.lt
  have Nc0 := N_5.cellAt 0 rfl
  have Nc1 := N_5.cellAt 1 rfl
  have Nl := N_5.lt
  refine region_below 11 follows_mixed (by kernel_rfl) ?_
  intro C hC
  simp only [List.take_succ_cons, List.take_zero, List.drop_succ_cons, List.drop_zero]
  repeat (first
    | ((with_reducible refine quiet_plain rfl (fun K hK => ?_)); (focus (apply quiet_val; (focus (intro w' hw; obtain ⟨hcq, hfq⟩ := bcell ((hC.out _).1 hw); go_simp; (first | done | rfl | (with_reducible exact call_below hC hw (H1.out _)) | (with_reducible exact call_below hC hw (H2.out _))))); (simp only [Act.put, List.setIfInBounds_toArray, List.set_cons_succ, List.set_cons_zero]); (with_reducible refine hK _ ?_); clear hK K)))
    | ((with_reducible refine quiet_skip ?_ ?_); (focus (first | (simp [Region.wanted, yielded]; done) | (simp [Region.wanted, yielded, undef]; done))); simp only [Act.put, List.setIfInBounds_toArray, List.set_cons_succ, List.set_cons_zero])
    | ((with_reducible refine quiet_go ?_ (fun K hK => ?_)); (focus (first | (simp [Region.wanted, yielded]; done) | (simp [Region.wanted, yielded, undef]; done))); (focus (apply quiet_val; (focus (intro w' hw; obtain ⟨hcq, hfq⟩ := bcell ((hC.out _).1 hw); go_simp; (first | done | rfl | (with_reducible exact call_below hC hw (H1.out _)) | (with_reducible exact call_below hC hw (H2.out _))))); (simp only [Act.put, List.setIfInBounds_toArray, List.set_cons_succ, List.set_cons_zero]); (with_reducible refine hK _ ?_); clear hK K))))
  refine wpQuiet_nil ?_
  intro w1 hb1
  replace hb1 := (hC.out _).1 hb1
  clear hC C
  obtain ⟨hc1, hf1⟩ := bcell hb1
  have L_6 : Blk w1 (w.heap.size) 81 #[.int .i64 x1, .int .i64 x2, .int .i64 x3, .int .i64 x4, .int .i64 x5, .int .i64 x6, .int .i64 x7, .int .i64 x8, .int .i64 x9] := (L_5).past hb1
  have A_6 : Blk w1 (qb1) 47 #[.int .i64 p0, .int .i64 q0] := (A_5).past hb1
  have B_6 : Blk w1 (qb2) 47 #[.int .i64 p1, .int .i64 q1] := (B_5).past hb1
  have C_6 : Blk w1 (qb3) 47 #[.int .i64 p2, .int .i64 q2] := (C_5).past hb1
  have M_6 : Blk w1 (w4_.heap.size) 47 #[.int .i64 (-1), .int .i64 (-1)] := (M_5).past hb1
  have N_6 : Blk w1 (w4_.heap.size + 1) 47 #[.int .i64 0, .int .i64 1] := (N_5).past hb1
  have S_6 := pt (S_5) hb1
  clear L_5 A_5 B_5 C_5 M_5 N_5 S_5 Ac0 Ac1 Al Bc0 Bc1 Bl Cc0 Cc1 Cl Mc0 Mc1 Ml Nc0 Nc1 Nl
  have Ac0 := A_6.cellAt 0 rfl
  have Ac1 := A_6.cellAt 1 rfl
  have Al := A_6.lt
  have Bc0 := B_6.cellAt 0 rfl
  have Bc1 := B_6.cellAt 1 rfl
  have Bl := B_6.lt
  have Cc0 := C_6.cellAt 0 rfl
  have Cc1 := C_6.cellAt 1 rfl
  have Cl := C_6.lt
  have Mc0 := M_6.cellAt 0 rfl
  have Mc1 := M_6.cellAt 1 rfl
  have Ml := M_6.lt
  have Nc0 := N_6.cellAt 0 rfl
  have Nc1 := N_6.cellAt 1 rfl
  have Nl := N_6.lt
  clear hb1 hc1 hf1
  obtain ⟨w6_, rfl⟩ : ∃ v, v = w1 := ⟨_, rfl⟩
  go_wp2
  go_ret2
  exact ⟨rfl, by repeat (first | exact S_6 | refine pa ?_)⟩

set_option maxHeartbeats 8000000 in
set_option maxRecDepth 100000 in
theorem refSeq_tf_tt (x1 x2 x3 x4 x5 x6 x7 x8 x9 p0 q0 p1 q1 p2 q2 a1 a2 b1 b2 c1 c2 d1 d2 : Int)
    (ha : ∀ w, Calls Tryz.prog 59 #[.agg #[.int .i64 x1, .int .i64 x2, .int .i64 x3]] w fun e w' => e = .returned (.agg #[.int .i64 p0, .int .i64 q0]) ∧ Below w.heap.size w w')
    (hb : ∀ w, Calls Tryz.prog 59 #[.agg #[.int .i64 x4, .int .i64 x5, .int .i64 x6]] w fun e w' => e = .returned (.agg #[.int .i64 p1, .int .i64 q1]) ∧ Below w.heap.size w w')
    (hc : ∀ w, Calls Tryz.prog 59 #[.agg #[.int .i64 x7, .int .i64 x8, .int .i64 x9]] w fun e w' => e = .returned (.agg #[.int .i64 p2, .int .i64 q2]) ∧ Below w.heap.size w w')
    (h1 : ∀ w, Calls Tryz.prog 155 #[.agg #[.int .i64 p0, .int .i64 q0], .agg #[.int .i64 (-1), .int .i64 (-1)]] w fun e w' => e = .returned (.agg #[.int .i64 a1, .int .i64 a2]) ∧ Below w.heap.size w w')
    (h2 : ∀ w, Calls Tryz.prog 155 #[.agg #[.int .i64 p1, .int .i64 q1], .agg #[.int .i64 (-1), .int .i64 (-1)]] w fun e w' => e = .returned (.agg #[.int .i64 b1, .int .i64 b2]) ∧ Below w.heap.size w w')
    (h3 : ∀ w, Calls Tryz.prog 155 #[.agg #[.int .i64 p0, .int .i64 q0], .agg #[.int .i64 0, .int .i64 1]] w fun e w' => e = .returned (.agg #[.int .i64 c1, .int .i64 c2]) ∧ Below w.heap.size w w')
    (h4 : ∀ w, Calls Tryz.prog 155 #[.agg #[.int .i64 p1, .int .i64 q1], .agg #[.int .i64 0, .int .i64 1]] w fun e w' => e = .returned (.agg #[.int .i64 d1, .int .i64 d2]) ∧ Below w.heap.size w w')
    (hz : phB p0 q0 0 0 = false) (hA : phB p1 q1 a1 a2 = true) (hB : phB p2 q2 b1 b2 = false) (hC : phB p1 q1 c1 c2 = true) (hD : phB p2 q2 d1 d2 = true) (w : World) :
    Calls Tryz.prog 129 #[.agg #[.int .i64 x1, .int .i64 x2, .int .i64 x3, .int .i64 x4, .int .i64 x5, .int .i64 x6, .int .i64 x7, .int .i64 x8, .int .i64 x9]] w fun e w' => e = .returned (.tuple #[.int .i64 (-1), .int .i64 0]) ∧ Below w.heap.size w w' := by
  have HA := Lib.hid ha
  have HB := Lib.hid hb
  have HC := Lib.hid hc
  have H1 := Lib.hid h1
  have H2 := Lib.hid h2
  have H3 := Lib.hid h3
  have H4 := Lib.hid h4
  clear ha hb hc h1 h2 h3 h4
  go_enter Tryz.func129, Tryz.ntmps129
  go_wp2
  refine region_alloc3 (zc1 := (.cells #[.int .i64 0, .int .i64 0] 47)) (zc2 := (.cells #[.int .i64 0, .int .i64 0] 47)) (zc3 := (.cells #[.int .i64 0, .int .i64 0] 47)) 9 follows_mixed (by kernel_rfl) rfl rfl rfl (fun _ _ => by kernel_rfl) (fun _ _ => by kernel_rfl) (fun _ _ => by kernel_rfl) ?_
  simp only [List.take_succ_cons, List.take_zero, List.drop_succ_cons, List.drop_zero]
  repeat (first
    | ((with_reducible apply grow_plain); (focus rfl); (focus (intro w' hw; obtain ⟨hcq, hfq⟩ := bcell hw; go_simp; (first | done | rfl | (with_reducible exact HA.out _) | (with_reducible exact HB.out _) | (with_reducible exact HC.out _)))); (simp only [Act.put, List.setIfInBounds_toArray, List.set_cons_succ, List.set_cons_zero]))
    | ((with_reducible apply grow_skip); (focus (first | (simp [Region.wanted, yielded]; done) | (simp [Region.wanted, yielded, undef]; done))); simp only [Act.put, List.setIfInBounds_toArray, List.set_cons_succ, List.set_cons_zero])
    | ((with_reducible apply grow_go); (focus (first | (simp [Region.wanted, yielded]; done) | (simp [Region.wanted, yielded, undef]; done))); (focus (intro w' hw; obtain ⟨hcq, hfq⟩ := bcell hw; go_simp; (first | done | rfl | (with_reducible exact HA.out _) | (with_reducible exact HB.out _) | (with_reducible exact HC.out _)))); (simp only [Act.put, List.setIfInBounds_toArray, List.set_cons_succ, List.set_cons_zero])))
  refine grow_nil ?_
  intro qb1 qb2 qb3 w1 hb1 hn1 hn2 hn3 hq12 hq13 hq23
  simp only [Act.put, List.setIfInBounds_toArray, List.set_cons_succ, List.set_cons_zero]
  have L_1 : Blk w1 (w.heap.size) 81 #[.int .i64 x1, .int .i64 x2, .int .i64 x3, .int .i64 x4, .int .i64 x5, .int .i64 x6, .int .i64 x7, .int .i64 x8, .int .i64 x9] := (Blk.newAt (by simp)).past hb1
  have ne_L_A : w.heap.size ≠ qb1 := by have := hn1.ge; simp at this; omega
  have ne_L_B : w.heap.size ≠ qb2 := by have := hn2.ge; simp at this; omega
  have ne_L_C : w.heap.size ≠ qb3 := by have := hn3.ge; simp at this; omega
  have A_1 : Blk w1 qb1 47 #[.int .i64 0, .int .i64 0] := hn1.at_
  have ge_A : w.heap.size ≤ qb1 := by have := hn1.ge; simp at this; omega
  have B_1 : Blk w1 qb2 47 #[.int .i64 0, .int .i64 0] := hn2.at_
  have ge_B : w.heap.size ≤ qb2 := by have := hn2.ge; simp at this; omega
  have C_1 : Blk w1 qb3 47 #[.int .i64 0, .int .i64 0] := hn3.at_
  have ge_C : w.heap.size ≤ qb3 := by have := hn3.ge; simp at this; omega
  have ne_A_B := hq12
  have ne_A_C := hq13
  have ne_B_C := hq23
  have S_1 := pt (pa (pr)) hb1
  clear hb1 hn1 hn2 hn3 hq12 hq13 hq23
  obtain ⟨w1_, rfl⟩ : ∃ v, v = w1 := ⟨_, rfl⟩
  go_wp2_with (first
    | ((with_reducible refine store_sub (T := 47) (x := .tmp 4) (y := .tmp 11) (o := 0) (cs' := #[.int .i64 p0, .int .i64 q0]) (vs := #[.int .i64 p0, .int .i64 q0]) (show Blk _ (qb1) 47 #[.int .i64 0, .int .i64 0] from (A_1)) ?_ ?_ ?_ ?_ ?_ ?_ ?_); (focus rfl); (focus rfl); (focus rfl); (focus exact Nat.le_of_ble_eq_true rfl); (focus exact seq2_size); (focus (simp [Value.oneCell']; done)); intro w2_ b2_ h2_; have L_2 : Blk w2_ (w.heap.size) 81 #[.int .i64 x1, .int .i64 x2, .int .i64 x3, .int .i64 x4, .int .i64 x5, .int .i64 x6, .int .i64 x7, .int .i64 x8, .int .i64 x9] := (L_1).put h2_ ne_L_A; have A_2 : Blk w2_ (qb1) 47 #[.int .i64 p0, .int .i64 q0] := b2_; have B_2 : Blk w2_ (qb2) 47 #[.int .i64 0, .int .i64 0] := (B_1).put h2_ (Ne.symm ne_A_B); have C_2 : Blk w2_ (qb3) 47 #[.int .i64 0, .int .i64 0] := (C_1).put h2_ (Ne.symm ne_A_C); have S_2 := pp (S_1) h2_ ge_A; clear L_1 A_1 B_1 C_1 S_1; clear h2_ b2_)
    | ((with_reducible refine store_sub (T := 47) (x := .tmp 5) (y := .tmp 14) (o := 0) (cs' := #[.int .i64 p1, .int .i64 q1]) (vs := #[.int .i64 p1, .int .i64 q1]) (show Blk _ (qb2) 47 #[.int .i64 0, .int .i64 0] from (B_2)) ?_ ?_ ?_ ?_ ?_ ?_ ?_); (focus rfl); (focus rfl); (focus rfl); (focus exact Nat.le_of_ble_eq_true rfl); (focus exact seq2_size); (focus (simp [Value.oneCell']; done)); intro w3_ b3_ h3_; have L_3 : Blk w3_ (w.heap.size) 81 #[.int .i64 x1, .int .i64 x2, .int .i64 x3, .int .i64 x4, .int .i64 x5, .int .i64 x6, .int .i64 x7, .int .i64 x8, .int .i64 x9] := (L_2).put h3_ ne_L_B; have A_3 : Blk w3_ (qb1) 47 #[.int .i64 p0, .int .i64 q0] := (A_2).put h3_ ne_A_B; have B_3 : Blk w3_ (qb2) 47 #[.int .i64 p1, .int .i64 q1] := b3_; have C_3 : Blk w3_ (qb3) 47 #[.int .i64 0, .int .i64 0] := (C_2).put h3_ (Ne.symm ne_B_C); have S_3 := pp (S_2) h3_ ge_B; clear L_2 A_2 B_2 C_2 S_2; clear h3_ b3_)
    | ((with_reducible refine store_sub (T := 47) (x := .tmp 6) (y := .tmp 17) (o := 0) (cs' := #[.int .i64 p2, .int .i64 q2]) (vs := #[.int .i64 p2, .int .i64 q2]) (show Blk _ (qb3) 47 #[.int .i64 0, .int .i64 0] from (C_3)) ?_ ?_ ?_ ?_ ?_ ?_ ?_); (focus rfl); (focus rfl); (focus rfl); (focus exact Nat.le_of_ble_eq_true rfl); (focus exact seq2_size); (focus (simp [Value.oneCell']; done)); intro w4_ b4_ h4_; have L_4 : Blk w4_ (w.heap.size) 81 #[.int .i64 x1, .int .i64 x2, .int .i64 x3, .int .i64 x4, .int .i64 x5, .int .i64 x6, .int .i64 x7, .int .i64 x8, .int .i64 x9] := (L_3).put h4_ ne_L_C; have A_4 : Blk w4_ (qb1) 47 #[.int .i64 p0, .int .i64 q0] := (A_3).put h4_ ne_A_C; have B_4 : Blk w4_ (qb2) 47 #[.int .i64 p1, .int .i64 q1] := (B_3).put h4_ ne_B_C; have C_4 : Blk w4_ (qb3) 47 #[.int .i64 p2, .int .i64 q2] := b4_; have S_4 := pp (S_3) h4_ ge_C; clear L_3 A_3 B_3 C_3 S_3; have Ac0 := A_4.cellAt 0 rfl; have Ac1 := A_4.cellAt 1 rfl; have Al := A_4.lt; have Bc0 := B_4.cellAt 0 rfl; have Bc1 := B_4.cellAt 1 rfl; have Bl := B_4.lt; have Cc0 := C_4.cellAt 0 rfl; have Cc1 := C_4.cellAt 1 rfl; have Cl := C_4.lt; clear h4_ b4_))
  have L_5 : Blk ((w4_.alloc (.cells #[.int .i64 (-1), .int .i64 (-1)] 47)).alloc (.cells #[.int .i64 0, .int .i64 1] 47)) (w.heap.size) 81 #[.int .i64 x1, .int .i64 x2, .int .i64 x3, .int .i64 x4, .int .i64 x5, .int .i64 x6, .int .i64 x7, .int .i64 x8, .int .i64 x9] := (L_4.alloc.alloc)
  have A_5 : Blk ((w4_.alloc (.cells #[.int .i64 (-1), .int .i64 (-1)] 47)).alloc (.cells #[.int .i64 0, .int .i64 1] 47)) (qb1) 47 #[.int .i64 p0, .int .i64 q0] := (A_4.alloc.alloc)
  have B_5 : Blk ((w4_.alloc (.cells #[.int .i64 (-1), .int .i64 (-1)] 47)).alloc (.cells #[.int .i64 0, .int .i64 1] 47)) (qb2) 47 #[.int .i64 p1, .int .i64 q1] := (B_4.alloc.alloc)
  have C_5 : Blk ((w4_.alloc (.cells #[.int .i64 (-1), .int .i64 (-1)] 47)).alloc (.cells #[.int .i64 0, .int .i64 1] 47)) (qb3) 47 #[.int .i64 p2, .int .i64 q2] := (C_4.alloc.alloc)
  have M_5 : Blk ((w4_.alloc (.cells #[.int .i64 (-1), .int .i64 (-1)] 47)).alloc (.cells #[.int .i64 0, .int .i64 1] 47)) (w4_.heap.size) 47 #[.int .i64 (-1), .int .i64 (-1)] := (Blk.newAt (by simp)).alloc
  have N_5 : Blk ((w4_.alloc (.cells #[.int .i64 (-1), .int .i64 (-1)] 47)).alloc (.cells #[.int .i64 0, .int .i64 1] 47)) (w4_.heap.size + 1) 47 #[.int .i64 0, .int .i64 1] := (Blk.newAt (by simp))
  have ne_A_M : qb1 ≠ w4_.heap.size := (by have := A_4.lt; omega)
  have ne_B_M : qb2 ≠ w4_.heap.size := (by have := B_4.lt; omega)
  have ne_C_M : qb3 ≠ w4_.heap.size := (by have := C_4.lt; omega)
  have ne_A_N : qb1 ≠ w4_.heap.size + 1 := (by have := A_4.lt; omega)
  have ne_B_N : qb2 ≠ w4_.heap.size + 1 := (by have := B_4.lt; omega)
  have ne_C_N : qb3 ≠ w4_.heap.size + 1 := (by have := C_4.lt; omega)
  have S_5 := (show Below w.heap.size w ((w4_.alloc (.cells #[.int .i64 (-1), .int .i64 (-1)] 47)).alloc (.cells #[.int .i64 0, .int .i64 1] 47)) from pa (pa (S_4)))
  clear L_4 A_4 B_4 C_4 S_4 Ac0 Ac1 Al Bc0 Bc1 Bl Cc0 Cc1 Cl
  generalize (w4_.alloc (.cells #[.int .i64 (-1), .int .i64 (-1)] 47)).alloc (.cells #[.int .i64 0, .int .i64 1] 47) = w5_ at *
  have Ac0 := A_5.cellAt 0 rfl
  have Ac1 := A_5.cellAt 1 rfl
  have Al := A_5.lt
  have Bc0 := B_5.cellAt 0 rfl
  have Bc1 := B_5.cellAt 1 rfl
  have Bl := B_5.lt
  have Cc0 := C_5.cellAt 0 rfl
  have Cc1 := C_5.cellAt 1 rfl
  have Cl := C_5.lt
  have Mc0 := M_5.cellAt 0 rfl
  have Mc1 := M_5.cellAt 1 rfl
  have Ml := M_5.lt
  have Nc0 := N_5.cellAt 0 rfl
  have Nc1 := N_5.cellAt 1 rfl
  have Nl := N_5.lt
  refine region_below 11 follows_mixed (by kernel_rfl) ?_
  intro C hC
  simp only [List.take_succ_cons, List.take_zero, List.drop_succ_cons, List.drop_zero]
  repeat (first
    | ((with_reducible refine quiet_plain rfl (fun K hK => ?_)); (focus (apply quiet_val; (focus (intro w' hw; obtain ⟨hcq, hfq⟩ := bcell ((hC.out _).1 hw); go_simp; (first | done | rfl | (with_reducible exact call_below hC hw (H1.out _)) | (with_reducible exact call_below hC hw (H2.out _))))); (simp only [Act.put, List.setIfInBounds_toArray, List.set_cons_succ, List.set_cons_zero]); (with_reducible refine hK _ ?_); clear hK K)))
    | ((with_reducible refine quiet_skip ?_ ?_); (focus (first | (simp [Region.wanted, yielded]; done) | (simp [Region.wanted, yielded, undef]; done))); simp only [Act.put, List.setIfInBounds_toArray, List.set_cons_succ, List.set_cons_zero])
    | ((with_reducible refine quiet_go ?_ (fun K hK => ?_)); (focus (first | (simp [Region.wanted, yielded]; done) | (simp [Region.wanted, yielded, undef]; done))); (focus (apply quiet_val; (focus (intro w' hw; obtain ⟨hcq, hfq⟩ := bcell ((hC.out _).1 hw); go_simp; (first | done | rfl | (with_reducible exact call_below hC hw (H1.out _)) | (with_reducible exact call_below hC hw (H2.out _))))); (simp only [Act.put, List.setIfInBounds_toArray, List.set_cons_succ, List.set_cons_zero]); (with_reducible refine hK _ ?_); clear hK K))))
  refine wpQuiet_nil ?_
  intro w1 hb1
  replace hb1 := (hC.out _).1 hb1
  clear hC C
  obtain ⟨hc1, hf1⟩ := bcell hb1
  have L_6 : Blk w1 (w.heap.size) 81 #[.int .i64 x1, .int .i64 x2, .int .i64 x3, .int .i64 x4, .int .i64 x5, .int .i64 x6, .int .i64 x7, .int .i64 x8, .int .i64 x9] := (L_5).past hb1
  have A_6 : Blk w1 (qb1) 47 #[.int .i64 p0, .int .i64 q0] := (A_5).past hb1
  have B_6 : Blk w1 (qb2) 47 #[.int .i64 p1, .int .i64 q1] := (B_5).past hb1
  have C_6 : Blk w1 (qb3) 47 #[.int .i64 p2, .int .i64 q2] := (C_5).past hb1
  have M_6 : Blk w1 (w4_.heap.size) 47 #[.int .i64 (-1), .int .i64 (-1)] := (M_5).past hb1
  have N_6 : Blk w1 (w4_.heap.size + 1) 47 #[.int .i64 0, .int .i64 1] := (N_5).past hb1
  have S_6 := pt (S_5) hb1
  clear L_5 A_5 B_5 C_5 M_5 N_5 S_5 Ac0 Ac1 Al Bc0 Bc1 Bl Cc0 Cc1 Cl Mc0 Mc1 Ml Nc0 Nc1 Nl
  have Ac0 := A_6.cellAt 0 rfl
  have Ac1 := A_6.cellAt 1 rfl
  have Al := A_6.lt
  have Bc0 := B_6.cellAt 0 rfl
  have Bc1 := B_6.cellAt 1 rfl
  have Bl := B_6.lt
  have Cc0 := C_6.cellAt 0 rfl
  have Cc1 := C_6.cellAt 1 rfl
  have Cl := C_6.lt
  have Mc0 := M_6.cellAt 0 rfl
  have Mc1 := M_6.cellAt 1 rfl
  have Ml := M_6.lt
  have Nc0 := N_6.cellAt 0 rfl
  have Nc1 := N_6.cellAt 1 rfl
  have Nl := N_6.lt
  clear hb1 hc1 hf1
  obtain ⟨w6_, rfl⟩ : ∃ v, v = w1 := ⟨_, rfl⟩
  go_wp2
  refine region_below 11 follows_mixed (by kernel_rfl) ?_
  intro C hC
  simp only [List.take_succ_cons, List.take_zero, List.drop_succ_cons, List.drop_zero]
  repeat (first
    | ((with_reducible refine quiet_plain rfl (fun K hK => ?_)); (focus (apply quiet_val; (focus (intro w' hw; obtain ⟨hcq, hfq⟩ := bcell ((hC.out _).1 hw); go_simp; (first | done | rfl | (with_reducible exact call_below hC hw (H3.out _)) | (with_reducible exact call_below hC hw (H4.out _))))); (simp only [Act.put, List.setIfInBounds_toArray, List.set_cons_succ, List.set_cons_zero]); (with_reducible refine hK _ ?_); clear hK K)))
    | ((with_reducible refine quiet_skip ?_ ?_); (focus (first | (simp [Region.wanted, yielded]; done) | (simp [Region.wanted, yielded, undef]; done))); simp only [Act.put, List.setIfInBounds_toArray, List.set_cons_succ, List.set_cons_zero])
    | ((with_reducible refine quiet_go ?_ (fun K hK => ?_)); (focus (first | (simp [Region.wanted, yielded]; done) | (simp [Region.wanted, yielded, undef]; done))); (focus (apply quiet_val; (focus (intro w' hw; obtain ⟨hcq, hfq⟩ := bcell ((hC.out _).1 hw); go_simp; (first | done | rfl | (with_reducible exact call_below hC hw (H3.out _)) | (with_reducible exact call_below hC hw (H4.out _))))); (simp only [Act.put, List.setIfInBounds_toArray, List.set_cons_succ, List.set_cons_zero]); (with_reducible refine hK _ ?_); clear hK K))))
  refine wpQuiet_nil ?_
  intro w1 hb1
  replace hb1 := (hC.out _).1 hb1
  clear hC C
  obtain ⟨hc1, hf1⟩ := bcell hb1
  have L_7 : Blk w1 (w.heap.size) 81 #[.int .i64 x1, .int .i64 x2, .int .i64 x3, .int .i64 x4, .int .i64 x5, .int .i64 x6, .int .i64 x7, .int .i64 x8, .int .i64 x9] := (L_6).past hb1
  have A_7 : Blk w1 (qb1) 47 #[.int .i64 p0, .int .i64 q0] := (A_6).past hb1
  have B_7 : Blk w1 (qb2) 47 #[.int .i64 p1, .int .i64 q1] := (B_6).past hb1
  have C_7 : Blk w1 (qb3) 47 #[.int .i64 p2, .int .i64 q2] := (C_6).past hb1
  have M_7 : Blk w1 (w4_.heap.size) 47 #[.int .i64 (-1), .int .i64 (-1)] := (M_6).past hb1
  have N_7 : Blk w1 (w4_.heap.size + 1) 47 #[.int .i64 0, .int .i64 1] := (N_6).past hb1
  have S_7 := pt (S_6) hb1
  clear L_6 A_6 B_6 C_6 M_6 N_6 S_6 Ac0 Ac1 Al Bc0 Bc1 Bl Cc0 Cc1 Cl Mc0 Mc1 Ml Nc0 Nc1 Nl
  clear hb1 hc1 hf1
  obtain ⟨w7_, rfl⟩ : ∃ v, v = w1 := ⟨_, rfl⟩
  go_wp2
  go_ret2
  exact ⟨rfl, by repeat (first | exact S_7 | refine pa ?_)⟩

set_option maxHeartbeats 8000000 in
set_option maxRecDepth 100000 in
theorem refSeq_tf_tf (x1 x2 x3 x4 x5 x6 x7 x8 x9 p0 q0 p1 q1 p2 q2 a1 a2 b1 b2 c1 c2 d1 d2 : Int)
    (ha : ∀ w, Calls Tryz.prog 59 #[.agg #[.int .i64 x1, .int .i64 x2, .int .i64 x3]] w fun e w' => e = .returned (.agg #[.int .i64 p0, .int .i64 q0]) ∧ Below w.heap.size w w')
    (hb : ∀ w, Calls Tryz.prog 59 #[.agg #[.int .i64 x4, .int .i64 x5, .int .i64 x6]] w fun e w' => e = .returned (.agg #[.int .i64 p1, .int .i64 q1]) ∧ Below w.heap.size w w')
    (hc : ∀ w, Calls Tryz.prog 59 #[.agg #[.int .i64 x7, .int .i64 x8, .int .i64 x9]] w fun e w' => e = .returned (.agg #[.int .i64 p2, .int .i64 q2]) ∧ Below w.heap.size w w')
    (h1 : ∀ w, Calls Tryz.prog 155 #[.agg #[.int .i64 p0, .int .i64 q0], .agg #[.int .i64 (-1), .int .i64 (-1)]] w fun e w' => e = .returned (.agg #[.int .i64 a1, .int .i64 a2]) ∧ Below w.heap.size w w')
    (h2 : ∀ w, Calls Tryz.prog 155 #[.agg #[.int .i64 p1, .int .i64 q1], .agg #[.int .i64 (-1), .int .i64 (-1)]] w fun e w' => e = .returned (.agg #[.int .i64 b1, .int .i64 b2]) ∧ Below w.heap.size w w')
    (h3 : ∀ w, Calls Tryz.prog 155 #[.agg #[.int .i64 p0, .int .i64 q0], .agg #[.int .i64 0, .int .i64 1]] w fun e w' => e = .returned (.agg #[.int .i64 c1, .int .i64 c2]) ∧ Below w.heap.size w w')
    (h4 : ∀ w, Calls Tryz.prog 155 #[.agg #[.int .i64 p1, .int .i64 q1], .agg #[.int .i64 0, .int .i64 1]] w fun e w' => e = .returned (.agg #[.int .i64 d1, .int .i64 d2]) ∧ Below w.heap.size w w')
    (hz : phB p0 q0 0 0 = false) (hA : phB p1 q1 a1 a2 = true) (hB : phB p2 q2 b1 b2 = false) (hC : phB p1 q1 c1 c2 = true) (hD : phB p2 q2 d1 d2 = false) (w : World) :
    Calls Tryz.prog 129 #[.agg #[.int .i64 x1, .int .i64 x2, .int .i64 x3, .int .i64 x4, .int .i64 x5, .int .i64 x6, .int .i64 x7, .int .i64 x8, .int .i64 x9]] w fun e w' => e = .returned (.tuple #[.int .i64 0, .int .i64 12]) ∧ Below w.heap.size w w' := by
  have HA := Lib.hid ha
  have HB := Lib.hid hb
  have HC := Lib.hid hc
  have H1 := Lib.hid h1
  have H2 := Lib.hid h2
  have H3 := Lib.hid h3
  have H4 := Lib.hid h4
  clear ha hb hc h1 h2 h3 h4
  go_enter Tryz.func129, Tryz.ntmps129
  go_wp2
  refine region_alloc3 (zc1 := (.cells #[.int .i64 0, .int .i64 0] 47)) (zc2 := (.cells #[.int .i64 0, .int .i64 0] 47)) (zc3 := (.cells #[.int .i64 0, .int .i64 0] 47)) 9 follows_mixed (by kernel_rfl) rfl rfl rfl (fun _ _ => by kernel_rfl) (fun _ _ => by kernel_rfl) (fun _ _ => by kernel_rfl) ?_
  simp only [List.take_succ_cons, List.take_zero, List.drop_succ_cons, List.drop_zero]
  repeat (first
    | ((with_reducible apply grow_plain); (focus rfl); (focus (intro w' hw; obtain ⟨hcq, hfq⟩ := bcell hw; go_simp; (first | done | rfl | (with_reducible exact HA.out _) | (with_reducible exact HB.out _) | (with_reducible exact HC.out _)))); (simp only [Act.put, List.setIfInBounds_toArray, List.set_cons_succ, List.set_cons_zero]))
    | ((with_reducible apply grow_skip); (focus (first | (simp [Region.wanted, yielded]; done) | (simp [Region.wanted, yielded, undef]; done))); simp only [Act.put, List.setIfInBounds_toArray, List.set_cons_succ, List.set_cons_zero])
    | ((with_reducible apply grow_go); (focus (first | (simp [Region.wanted, yielded]; done) | (simp [Region.wanted, yielded, undef]; done))); (focus (intro w' hw; obtain ⟨hcq, hfq⟩ := bcell hw; go_simp; (first | done | rfl | (with_reducible exact HA.out _) | (with_reducible exact HB.out _) | (with_reducible exact HC.out _)))); (simp only [Act.put, List.setIfInBounds_toArray, List.set_cons_succ, List.set_cons_zero])))
  refine grow_nil ?_
  intro qb1 qb2 qb3 w1 hb1 hn1 hn2 hn3 hq12 hq13 hq23
  simp only [Act.put, List.setIfInBounds_toArray, List.set_cons_succ, List.set_cons_zero]
  have L_1 : Blk w1 (w.heap.size) 81 #[.int .i64 x1, .int .i64 x2, .int .i64 x3, .int .i64 x4, .int .i64 x5, .int .i64 x6, .int .i64 x7, .int .i64 x8, .int .i64 x9] := (Blk.newAt (by simp)).past hb1
  have ne_L_A : w.heap.size ≠ qb1 := by have := hn1.ge; simp at this; omega
  have ne_L_B : w.heap.size ≠ qb2 := by have := hn2.ge; simp at this; omega
  have ne_L_C : w.heap.size ≠ qb3 := by have := hn3.ge; simp at this; omega
  have A_1 : Blk w1 qb1 47 #[.int .i64 0, .int .i64 0] := hn1.at_
  have ge_A : w.heap.size ≤ qb1 := by have := hn1.ge; simp at this; omega
  have B_1 : Blk w1 qb2 47 #[.int .i64 0, .int .i64 0] := hn2.at_
  have ge_B : w.heap.size ≤ qb2 := by have := hn2.ge; simp at this; omega
  have C_1 : Blk w1 qb3 47 #[.int .i64 0, .int .i64 0] := hn3.at_
  have ge_C : w.heap.size ≤ qb3 := by have := hn3.ge; simp at this; omega
  have ne_A_B := hq12
  have ne_A_C := hq13
  have ne_B_C := hq23
  have S_1 := pt (pa (pr)) hb1
  clear hb1 hn1 hn2 hn3 hq12 hq13 hq23
  obtain ⟨w1_, rfl⟩ : ∃ v, v = w1 := ⟨_, rfl⟩
  go_wp2_with (first
    | ((with_reducible refine store_sub (T := 47) (x := .tmp 4) (y := .tmp 11) (o := 0) (cs' := #[.int .i64 p0, .int .i64 q0]) (vs := #[.int .i64 p0, .int .i64 q0]) (show Blk _ (qb1) 47 #[.int .i64 0, .int .i64 0] from (A_1)) ?_ ?_ ?_ ?_ ?_ ?_ ?_); (focus rfl); (focus rfl); (focus rfl); (focus exact Nat.le_of_ble_eq_true rfl); (focus exact seq2_size); (focus (simp [Value.oneCell']; done)); intro w2_ b2_ h2_; have L_2 : Blk w2_ (w.heap.size) 81 #[.int .i64 x1, .int .i64 x2, .int .i64 x3, .int .i64 x4, .int .i64 x5, .int .i64 x6, .int .i64 x7, .int .i64 x8, .int .i64 x9] := (L_1).put h2_ ne_L_A; have A_2 : Blk w2_ (qb1) 47 #[.int .i64 p0, .int .i64 q0] := b2_; have B_2 : Blk w2_ (qb2) 47 #[.int .i64 0, .int .i64 0] := (B_1).put h2_ (Ne.symm ne_A_B); have C_2 : Blk w2_ (qb3) 47 #[.int .i64 0, .int .i64 0] := (C_1).put h2_ (Ne.symm ne_A_C); have S_2 := pp (S_1) h2_ ge_A; clear L_1 A_1 B_1 C_1 S_1; clear h2_ b2_)
    | ((with_reducible refine store_sub (T := 47) (x := .tmp 5) (y := .tmp 14) (o := 0) (cs' := #[.int .i64 p1, .int .i64 q1]) (vs := #[.int .i64 p1, .int .i64 q1]) (show Blk _ (qb2) 47 #[.int .i64 0, .int .i64 0] from (B_2)) ?_ ?_ ?_ ?_ ?_ ?_ ?_); (focus rfl); (focus rfl); (focus rfl); (focus exact Nat.le_of_ble_eq_true rfl); (focus exact seq2_size); (focus (simp [Value.oneCell']; done)); intro w3_ b3_ h3_; have L_3 : Blk w3_ (w.heap.size) 81 #[.int .i64 x1, .int .i64 x2, .int .i64 x3, .int .i64 x4, .int .i64 x5, .int .i64 x6, .int .i64 x7, .int .i64 x8, .int .i64 x9] := (L_2).put h3_ ne_L_B; have A_3 : Blk w3_ (qb1) 47 #[.int .i64 p0, .int .i64 q0] := (A_2).put h3_ ne_A_B; have B_3 : Blk w3_ (qb2) 47 #[.int .i64 p1, .int .i64 q1] := b3_; have C_3 : Blk w3_ (qb3) 47 #[.int .i64 0, .int .i64 0] := (C_2).put h3_ (Ne.symm ne_B_C); have S_3 := pp (S_2) h3_ ge_B; clear L_2 A_2 B_2 C_2 S_2; clear h3_ b3_)
    | ((with_reducible refine store_sub (T := 47) (x := .tmp 6) (y := .tmp 17) (o := 0) (cs' := #[.int .i64 p2, .int .i64 q2]) (vs := #[.int .i64 p2, .int .i64 q2]) (show Blk _ (qb3) 47 #[.int .i64 0, .int .i64 0] from (C_3)) ?_ ?_ ?_ ?_ ?_ ?_ ?_); (focus rfl); (focus rfl); (focus rfl); (focus exact Nat.le_of_ble_eq_true rfl); (focus exact seq2_size); (focus (simp [Value.oneCell']; done)); intro w4_ b4_ h4_; have L_4 : Blk w4_ (w.heap.size) 81 #[.int .i64 x1, .int .i64 x2, .int .i64 x3, .int .i64 x4, .int .i64 x5, .int .i64 x6, .int .i64 x7, .int .i64 x8, .int .i64 x9] := (L_3).put h4_ ne_L_C; have A_4 : Blk w4_ (qb1) 47 #[.int .i64 p0, .int .i64 q0] := (A_3).put h4_ ne_A_C; have B_4 : Blk w4_ (qb2) 47 #[.int .i64 p1, .int .i64 q1] := (B_3).put h4_ ne_B_C; have C_4 : Blk w4_ (qb3) 47 #[.int .i64 p2, .int .i64 q2] := b4_; have S_4 := pp (S_3) h4_ ge_C; clear L_3 A_3 B_3 C_3 S_3; have Ac0 := A_4.cellAt 0 rfl; have Ac1 := A_4.cellAt 1 rfl; have Al := A_4.lt; have Bc0 := B_4.cellAt 0 rfl; have Bc1 := B_4.cellAt 1 rfl; have Bl := B_4.lt; have Cc0 := C_4.cellAt 0 rfl; have Cc1 := C_4.cellAt 1 rfl; have Cl := C_4.lt; clear h4_ b4_))
  have L_5 : Blk ((w4_.alloc (.cells #[.int .i64 (-1), .int .i64 (-1)] 47)).alloc (.cells #[.int .i64 0, .int .i64 1] 47)) (w.heap.size) 81 #[.int .i64 x1, .int .i64 x2, .int .i64 x3, .int .i64 x4, .int .i64 x5, .int .i64 x6, .int .i64 x7, .int .i64 x8, .int .i64 x9] := (L_4.alloc.alloc)
  have A_5 : Blk ((w4_.alloc (.cells #[.int .i64 (-1), .int .i64 (-1)] 47)).alloc (.cells #[.int .i64 0, .int .i64 1] 47)) (qb1) 47 #[.int .i64 p0, .int .i64 q0] := (A_4.alloc.alloc)
  have B_5 : Blk ((w4_.alloc (.cells #[.int .i64 (-1), .int .i64 (-1)] 47)).alloc (.cells #[.int .i64 0, .int .i64 1] 47)) (qb2) 47 #[.int .i64 p1, .int .i64 q1] := (B_4.alloc.alloc)
  have C_5 : Blk ((w4_.alloc (.cells #[.int .i64 (-1), .int .i64 (-1)] 47)).alloc (.cells #[.int .i64 0, .int .i64 1] 47)) (qb3) 47 #[.int .i64 p2, .int .i64 q2] := (C_4.alloc.alloc)
  have M_5 : Blk ((w4_.alloc (.cells #[.int .i64 (-1), .int .i64 (-1)] 47)).alloc (.cells #[.int .i64 0, .int .i64 1] 47)) (w4_.heap.size) 47 #[.int .i64 (-1), .int .i64 (-1)] := (Blk.newAt (by simp)).alloc
  have N_5 : Blk ((w4_.alloc (.cells #[.int .i64 (-1), .int .i64 (-1)] 47)).alloc (.cells #[.int .i64 0, .int .i64 1] 47)) (w4_.heap.size + 1) 47 #[.int .i64 0, .int .i64 1] := (Blk.newAt (by simp))
  have ne_A_M : qb1 ≠ w4_.heap.size := (by have := A_4.lt; omega)
  have ne_B_M : qb2 ≠ w4_.heap.size := (by have := B_4.lt; omega)
  have ne_C_M : qb3 ≠ w4_.heap.size := (by have := C_4.lt; omega)
  have ne_A_N : qb1 ≠ w4_.heap.size + 1 := (by have := A_4.lt; omega)
  have ne_B_N : qb2 ≠ w4_.heap.size + 1 := (by have := B_4.lt; omega)
  have ne_C_N : qb3 ≠ w4_.heap.size + 1 := (by have := C_4.lt; omega)
  have S_5 := (show Below w.heap.size w ((w4_.alloc (.cells #[.int .i64 (-1), .int .i64 (-1)] 47)).alloc (.cells #[.int .i64 0, .int .i64 1] 47)) from pa (pa (S_4)))
  clear L_4 A_4 B_4 C_4 S_4 Ac0 Ac1 Al Bc0 Bc1 Bl Cc0 Cc1 Cl
  generalize (w4_.alloc (.cells #[.int .i64 (-1), .int .i64 (-1)] 47)).alloc (.cells #[.int .i64 0, .int .i64 1] 47) = w5_ at *
  have Ac0 := A_5.cellAt 0 rfl
  have Ac1 := A_5.cellAt 1 rfl
  have Al := A_5.lt
  have Bc0 := B_5.cellAt 0 rfl
  have Bc1 := B_5.cellAt 1 rfl
  have Bl := B_5.lt
  have Cc0 := C_5.cellAt 0 rfl
  have Cc1 := C_5.cellAt 1 rfl
  have Cl := C_5.lt
  have Mc0 := M_5.cellAt 0 rfl
  have Mc1 := M_5.cellAt 1 rfl
  have Ml := M_5.lt
  have Nc0 := N_5.cellAt 0 rfl
  have Nc1 := N_5.cellAt 1 rfl
  have Nl := N_5.lt
  refine region_below 11 follows_mixed (by kernel_rfl) ?_
  intro C hC
  simp only [List.take_succ_cons, List.take_zero, List.drop_succ_cons, List.drop_zero]
  repeat (first
    | ((with_reducible refine quiet_plain rfl (fun K hK => ?_)); (focus (apply quiet_val; (focus (intro w' hw; obtain ⟨hcq, hfq⟩ := bcell ((hC.out _).1 hw); go_simp; (first | done | rfl | (with_reducible exact call_below hC hw (H1.out _)) | (with_reducible exact call_below hC hw (H2.out _))))); (simp only [Act.put, List.setIfInBounds_toArray, List.set_cons_succ, List.set_cons_zero]); (with_reducible refine hK _ ?_); clear hK K)))
    | ((with_reducible refine quiet_skip ?_ ?_); (focus (first | (simp [Region.wanted, yielded]; done) | (simp [Region.wanted, yielded, undef]; done))); simp only [Act.put, List.setIfInBounds_toArray, List.set_cons_succ, List.set_cons_zero])
    | ((with_reducible refine quiet_go ?_ (fun K hK => ?_)); (focus (first | (simp [Region.wanted, yielded]; done) | (simp [Region.wanted, yielded, undef]; done))); (focus (apply quiet_val; (focus (intro w' hw; obtain ⟨hcq, hfq⟩ := bcell ((hC.out _).1 hw); go_simp; (first | done | rfl | (with_reducible exact call_below hC hw (H1.out _)) | (with_reducible exact call_below hC hw (H2.out _))))); (simp only [Act.put, List.setIfInBounds_toArray, List.set_cons_succ, List.set_cons_zero]); (with_reducible refine hK _ ?_); clear hK K))))
  refine wpQuiet_nil ?_
  intro w1 hb1
  replace hb1 := (hC.out _).1 hb1
  clear hC C
  obtain ⟨hc1, hf1⟩ := bcell hb1
  have L_6 : Blk w1 (w.heap.size) 81 #[.int .i64 x1, .int .i64 x2, .int .i64 x3, .int .i64 x4, .int .i64 x5, .int .i64 x6, .int .i64 x7, .int .i64 x8, .int .i64 x9] := (L_5).past hb1
  have A_6 : Blk w1 (qb1) 47 #[.int .i64 p0, .int .i64 q0] := (A_5).past hb1
  have B_6 : Blk w1 (qb2) 47 #[.int .i64 p1, .int .i64 q1] := (B_5).past hb1
  have C_6 : Blk w1 (qb3) 47 #[.int .i64 p2, .int .i64 q2] := (C_5).past hb1
  have M_6 : Blk w1 (w4_.heap.size) 47 #[.int .i64 (-1), .int .i64 (-1)] := (M_5).past hb1
  have N_6 : Blk w1 (w4_.heap.size + 1) 47 #[.int .i64 0, .int .i64 1] := (N_5).past hb1
  have S_6 := pt (S_5) hb1
  clear L_5 A_5 B_5 C_5 M_5 N_5 S_5 Ac0 Ac1 Al Bc0 Bc1 Bl Cc0 Cc1 Cl Mc0 Mc1 Ml Nc0 Nc1 Nl
  have Ac0 := A_6.cellAt 0 rfl
  have Ac1 := A_6.cellAt 1 rfl
  have Al := A_6.lt
  have Bc0 := B_6.cellAt 0 rfl
  have Bc1 := B_6.cellAt 1 rfl
  have Bl := B_6.lt
  have Cc0 := C_6.cellAt 0 rfl
  have Cc1 := C_6.cellAt 1 rfl
  have Cl := C_6.lt
  have Mc0 := M_6.cellAt 0 rfl
  have Mc1 := M_6.cellAt 1 rfl
  have Ml := M_6.lt
  have Nc0 := N_6.cellAt 0 rfl
  have Nc1 := N_6.cellAt 1 rfl
  have Nl := N_6.lt
  clear hb1 hc1 hf1
  obtain ⟨w6_, rfl⟩ : ∃ v, v = w1 := ⟨_, rfl⟩
  go_wp2
  refine region_below 11 follows_mixed (by kernel_rfl) ?_
  intro C hC
  simp only [List.take_succ_cons, List.take_zero, List.drop_succ_cons, List.drop_zero]
  repeat (first
    | ((with_reducible refine quiet_plain rfl (fun K hK => ?_)); (focus (apply quiet_val; (focus (intro w' hw; obtain ⟨hcq, hfq⟩ := bcell ((hC.out _).1 hw); go_simp; (first | done | rfl | (with_reducible exact call_below hC hw (H3.out _)) | (with_reducible exact call_below hC hw (H4.out _))))); (simp only [Act.put, List.setIfInBounds_toArray, List.set_cons_succ, List.set_cons_zero]); (with_reducible refine hK _ ?_); clear hK K)))
    | ((with_reducible refine quiet_skip ?_ ?_); (focus (first | (simp [Region.wanted, yielded]; done) | (simp [Region.wanted, yielded, undef]; done))); simp only [Act.put, List.setIfInBounds_toArray, List.set_cons_succ, List.set_cons_zero])
    | ((with_reducible refine quiet_go ?_ (fun K hK => ?_)); (focus (first | (simp [Region.wanted, yielded]; done) | (simp [Region.wanted, yielded, undef]; done))); (focus (apply quiet_val; (focus (intro w' hw; obtain ⟨hcq, hfq⟩ := bcell ((hC.out _).1 hw); go_simp; (first | done | rfl | (with_reducible exact call_below hC hw (H3.out _)) | (with_reducible exact call_below hC hw (H4.out _))))); (simp only [Act.put, List.setIfInBounds_toArray, List.set_cons_succ, List.set_cons_zero]); (with_reducible refine hK _ ?_); clear hK K))))
  refine wpQuiet_nil ?_
  intro w1 hb1
  replace hb1 := (hC.out _).1 hb1
  clear hC C
  obtain ⟨hc1, hf1⟩ := bcell hb1
  have L_7 : Blk w1 (w.heap.size) 81 #[.int .i64 x1, .int .i64 x2, .int .i64 x3, .int .i64 x4, .int .i64 x5, .int .i64 x6, .int .i64 x7, .int .i64 x8, .int .i64 x9] := (L_6).past hb1
  have A_7 : Blk w1 (qb1) 47 #[.int .i64 p0, .int .i64 q0] := (A_6).past hb1
  have B_7 : Blk w1 (qb2) 47 #[.int .i64 p1, .int .i64 q1] := (B_6).past hb1
  have C_7 : Blk w1 (qb3) 47 #[.int .i64 p2, .int .i64 q2] := (C_6).past hb1
  have M_7 : Blk w1 (w4_.heap.size) 47 #[.int .i64 (-1), .int .i64 (-1)] := (M_6).past hb1
  have N_7 : Blk w1 (w4_.heap.size + 1) 47 #[.int .i64 0, .int .i64 1] := (N_6).past hb1
  have S_7 := pt (S_6) hb1
  clear L_6 A_6 B_6 C_6 M_6 N_6 S_6 Ac0 Ac1 Al Bc0 Bc1 Bl Cc0 Cc1 Cl Mc0 Mc1 Ml Nc0 Nc1 Nl
  clear hb1 hc1 hf1
  obtain ⟨w7_, rfl⟩ : ∃ v, v = w1 := ⟨_, rfl⟩
  go_wp2
  go_ret2
  exact ⟨rfl, by repeat (first | exact S_7 | refine pa ?_)⟩

set_option maxHeartbeats 8000000 in
set_option maxRecDepth 100000 in
theorem refSeq_tf_f (x1 x2 x3 x4 x5 x6 x7 x8 x9 p0 q0 p1 q1 p2 q2 a1 a2 b1 b2 c1 c2 d1 d2 : Int)
    (ha : ∀ w, Calls Tryz.prog 59 #[.agg #[.int .i64 x1, .int .i64 x2, .int .i64 x3]] w fun e w' => e = .returned (.agg #[.int .i64 p0, .int .i64 q0]) ∧ Below w.heap.size w w')
    (hb : ∀ w, Calls Tryz.prog 59 #[.agg #[.int .i64 x4, .int .i64 x5, .int .i64 x6]] w fun e w' => e = .returned (.agg #[.int .i64 p1, .int .i64 q1]) ∧ Below w.heap.size w w')
    (hc : ∀ w, Calls Tryz.prog 59 #[.agg #[.int .i64 x7, .int .i64 x8, .int .i64 x9]] w fun e w' => e = .returned (.agg #[.int .i64 p2, .int .i64 q2]) ∧ Below w.heap.size w w')
    (h1 : ∀ w, Calls Tryz.prog 155 #[.agg #[.int .i64 p0, .int .i64 q0], .agg #[.int .i64 (-1), .int .i64 (-1)]] w fun e w' => e = .returned (.agg #[.int .i64 a1, .int .i64 a2]) ∧ Below w.heap.size w w')
    (h2 : ∀ w, Calls Tryz.prog 155 #[.agg #[.int .i64 p1, .int .i64 q1], .agg #[.int .i64 (-1), .int .i64 (-1)]] w fun e w' => e = .returned (.agg #[.int .i64 b1, .int .i64 b2]) ∧ Below w.heap.size w w')
    (h3 : ∀ w, Calls Tryz.prog 155 #[.agg #[.int .i64 p0, .int .i64 q0], .agg #[.int .i64 0, .int .i64 1]] w fun e w' => e = .returned (.agg #[.int .i64 c1, .int .i64 c2]) ∧ Below w.heap.size w w')
    (h4 : ∀ w, Calls Tryz.prog 155 #[.agg #[.int .i64 p1, .int .i64 q1], .agg #[.int .i64 0, .int .i64 1]] w fun e w' => e = .returned (.agg #[.int .i64 d1, .int .i64 d2]) ∧ Below w.heap.size w w')
    (hz : phB p0 q0 0 0 = false) (hA : phB p1 q1 a1 a2 = true) (hB : phB p2 q2 b1 b2 = false) (hC : phB p1 q1 c1 c2 = false) (w : World) :
    Calls Tryz.prog 129 #[.agg #[.int .i64 x1, .int .i64 x2, .int .i64 x3, .int .i64 x4, .int .i64 x5, .int .i64 x6, .int .i64 x7, .int .i64 x8, .int .i64 x9]] w fun e w' => e = .returned (.tuple #[.int .i64 0, .int .i64 12]) ∧ Below w.heap.size w w' := by
  have HA := Lib.hid ha
  have HB := Lib.hid hb
  have HC := Lib.hid hc
  have H1 := Lib.hid h1
  have H2 := Lib.hid h2
  have H3 := Lib.hid h3
  have H4 := Lib.hid h4
  clear ha hb hc h1 h2 h3 h4
  go_enter Tryz.func129, Tryz.ntmps129
  go_wp2
  refine region_alloc3 (zc1 := (.cells #[.int .i64 0, .int .i64 0] 47)) (zc2 := (.cells #[.int .i64 0, .int .i64 0] 47)) (zc3 := (.cells #[.int .i64 0, .int .i64 0] 47)) 9 follows_mixed (by kernel_rfl) rfl rfl rfl (fun _ _ => by kernel_rfl) (fun _ _ => by kernel_rfl) (fun _ _ => by kernel_rfl) ?_
  simp only [List.take_succ_cons, List.take_zero, List.drop_succ_cons, List.drop_zero]
  repeat (first
    | ((with_reducible apply grow_plain); (focus rfl); (focus (intro w' hw; obtain ⟨hcq, hfq⟩ := bcell hw; go_simp; (first | done | rfl | (with_reducible exact HA.out _) | (with_reducible exact HB.out _) | (with_reducible exact HC.out _)))); (simp only [Act.put, List.setIfInBounds_toArray, List.set_cons_succ, List.set_cons_zero]))
    | ((with_reducible apply grow_skip); (focus (first | (simp [Region.wanted, yielded]; done) | (simp [Region.wanted, yielded, undef]; done))); simp only [Act.put, List.setIfInBounds_toArray, List.set_cons_succ, List.set_cons_zero])
    | ((with_reducible apply grow_go); (focus (first | (simp [Region.wanted, yielded]; done) | (simp [Region.wanted, yielded, undef]; done))); (focus (intro w' hw; obtain ⟨hcq, hfq⟩ := bcell hw; go_simp; (first | done | rfl | (with_reducible exact HA.out _) | (with_reducible exact HB.out _) | (with_reducible exact HC.out _)))); (simp only [Act.put, List.setIfInBounds_toArray, List.set_cons_succ, List.set_cons_zero])))
  refine grow_nil ?_
  intro qb1 qb2 qb3 w1 hb1 hn1 hn2 hn3 hq12 hq13 hq23
  simp only [Act.put, List.setIfInBounds_toArray, List.set_cons_succ, List.set_cons_zero]
  have L_1 : Blk w1 (w.heap.size) 81 #[.int .i64 x1, .int .i64 x2, .int .i64 x3, .int .i64 x4, .int .i64 x5, .int .i64 x6, .int .i64 x7, .int .i64 x8, .int .i64 x9] := (Blk.newAt (by simp)).past hb1
  have ne_L_A : w.heap.size ≠ qb1 := by have := hn1.ge; simp at this; omega
  have ne_L_B : w.heap.size ≠ qb2 := by have := hn2.ge; simp at this; omega
  have ne_L_C : w.heap.size ≠ qb3 := by have := hn3.ge; simp at this; omega
  have A_1 : Blk w1 qb1 47 #[.int .i64 0, .int .i64 0] := hn1.at_
  have ge_A : w.heap.size ≤ qb1 := by have := hn1.ge; simp at this; omega
  have B_1 : Blk w1 qb2 47 #[.int .i64 0, .int .i64 0] := hn2.at_
  have ge_B : w.heap.size ≤ qb2 := by have := hn2.ge; simp at this; omega
  have C_1 : Blk w1 qb3 47 #[.int .i64 0, .int .i64 0] := hn3.at_
  have ge_C : w.heap.size ≤ qb3 := by have := hn3.ge; simp at this; omega
  have ne_A_B := hq12
  have ne_A_C := hq13
  have ne_B_C := hq23
  have S_1 := pt (pa (pr)) hb1
  clear hb1 hn1 hn2 hn3 hq12 hq13 hq23
  obtain ⟨w1_, rfl⟩ : ∃ v, v = w1 := ⟨_, rfl⟩
  go_wp2_with (first
    | ((with_reducible refine store_sub (T := 47) (x := .tmp 4) (y := .tmp 11) (o := 0) (cs' := #[.int .i64 p0, .int .i64 q0]) (vs := #[.int .i64 p0, .int .i64 q0]) (show Blk _ (qb1) 47 #[.int .i64 0, .int .i64 0] from (A_1)) ?_ ?_ ?_ ?_ ?_ ?_ ?_); (focus rfl); (focus rfl); (focus rfl); (focus exact Nat.le_of_ble_eq_true rfl); (focus exact seq2_size); (focus (simp [Value.oneCell']; done)); intro w2_ b2_ h2_; have L_2 : Blk w2_ (w.heap.size) 81 #[.int .i64 x1, .int .i64 x2, .int .i64 x3, .int .i64 x4, .int .i64 x5, .int .i64 x6, .int .i64 x7, .int .i64 x8, .int .i64 x9] := (L_1).put h2_ ne_L_A; have A_2 : Blk w2_ (qb1) 47 #[.int .i64 p0, .int .i64 q0] := b2_; have B_2 : Blk w2_ (qb2) 47 #[.int .i64 0, .int .i64 0] := (B_1).put h2_ (Ne.symm ne_A_B); have C_2 : Blk w2_ (qb3) 47 #[.int .i64 0, .int .i64 0] := (C_1).put h2_ (Ne.symm ne_A_C); have S_2 := pp (S_1) h2_ ge_A; clear L_1 A_1 B_1 C_1 S_1; clear h2_ b2_)
    | ((with_reducible refine store_sub (T := 47) (x := .tmp 5) (y := .tmp 14) (o := 0) (cs' := #[.int .i64 p1, .int .i64 q1]) (vs := #[.int .i64 p1, .int .i64 q1]) (show Blk _ (qb2) 47 #[.int .i64 0, .int .i64 0] from (B_2)) ?_ ?_ ?_ ?_ ?_ ?_ ?_); (focus rfl); (focus rfl); (focus rfl); (focus exact Nat.le_of_ble_eq_true rfl); (focus exact seq2_size); (focus (simp [Value.oneCell']; done)); intro w3_ b3_ h3_; have L_3 : Blk w3_ (w.heap.size) 81 #[.int .i64 x1, .int .i64 x2, .int .i64 x3, .int .i64 x4, .int .i64 x5, .int .i64 x6, .int .i64 x7, .int .i64 x8, .int .i64 x9] := (L_2).put h3_ ne_L_B; have A_3 : Blk w3_ (qb1) 47 #[.int .i64 p0, .int .i64 q0] := (A_2).put h3_ ne_A_B; have B_3 : Blk w3_ (qb2) 47 #[.int .i64 p1, .int .i64 q1] := b3_; have C_3 : Blk w3_ (qb3) 47 #[.int .i64 0, .int .i64 0] := (C_2).put h3_ (Ne.symm ne_B_C); have S_3 := pp (S_2) h3_ ge_B; clear L_2 A_2 B_2 C_2 S_2; clear h3_ b3_)
    | ((with_reducible refine store_sub (T := 47) (x := .tmp 6) (y := .tmp 17) (o := 0) (cs' := #[.int .i64 p2, .int .i64 q2]) (vs := #[.int .i64 p2, .int .i64 q2]) (show Blk _ (qb3) 47 #[.int .i64 0, .int .i64 0] from (C_3)) ?_ ?_ ?_ ?_ ?_ ?_ ?_); (focus rfl); (focus rfl); (focus rfl); (focus exact Nat.le_of_ble_eq_true rfl); (focus exact seq2_size); (focus (simp [Value.oneCell']; done)); intro w4_ b4_ h4_; have L_4 : Blk w4_ (w.heap.size) 81 #[.int .i64 x1, .int .i64 x2, .int .i64 x3, .int .i64 x4, .int .i64 x5, .int .i64 x6, .int .i64 x7, .int .i64 x8, .int .i64 x9] := (L_3).put h4_ ne_L_C; have A_4 : Blk w4_ (qb1) 47 #[.int .i64 p0, .int .i64 q0] := (A_3).put h4_ ne_A_C; have B_4 : Blk w4_ (qb2) 47 #[.int .i64 p1, .int .i64 q1] := (B_3).put h4_ ne_B_C; have C_4 : Blk w4_ (qb3) 47 #[.int .i64 p2, .int .i64 q2] := b4_; have S_4 := pp (S_3) h4_ ge_C; clear L_3 A_3 B_3 C_3 S_3; have Ac0 := A_4.cellAt 0 rfl; have Ac1 := A_4.cellAt 1 rfl; have Al := A_4.lt; have Bc0 := B_4.cellAt 0 rfl; have Bc1 := B_4.cellAt 1 rfl; have Bl := B_4.lt; have Cc0 := C_4.cellAt 0 rfl; have Cc1 := C_4.cellAt 1 rfl; have Cl := C_4.lt; clear h4_ b4_))
  have L_5 : Blk ((w4_.alloc (.cells #[.int .i64 (-1), .int .i64 (-1)] 47)).alloc (.cells #[.int .i64 0, .int .i64 1] 47)) (w.heap.size) 81 #[.int .i64 x1, .int .i64 x2, .int .i64 x3, .int .i64 x4, .int .i64 x5, .int .i64 x6, .int .i64 x7, .int .i64 x8, .int .i64 x9] := (L_4.alloc.alloc)
  have A_5 : Blk ((w4_.alloc (.cells #[.int .i64 (-1), .int .i64 (-1)] 47)).alloc (.cells #[.int .i64 0, .int .i64 1] 47)) (qb1) 47 #[.int .i64 p0, .int .i64 q0] := (A_4.alloc.alloc)
  have B_5 : Blk ((w4_.alloc (.cells #[.int .i64 (-1), .int .i64 (-1)] 47)).alloc (.cells #[.int .i64 0, .int .i64 1] 47)) (qb2) 47 #[.int .i64 p1, .int .i64 q1] := (B_4.alloc.alloc)
  have C_5 : Blk ((w4_.alloc (.cells #[.int .i64 (-1), .int .i64 (-1)] 47)).alloc (.cells #[.int .i64 0, .int .i64 1] 47)) (qb3) 47 #[.int .i64 p2, .int .i64 q2] := (C_4.alloc.alloc)
  have M_5 : Blk ((w4_.alloc (.cells #[.int .i64 (-1), .int .i64 (-1)] 47)).alloc (.cells #[.int .i64 0, .int .i64 1] 47)) (w4_.heap.size) 47 #[.int .i64 (-1), .int .i64 (-1)] := (Blk.newAt (by simp)).alloc
  have N_5 : Blk ((w4_.alloc (.cells #[.int .i64 (-1), .int .i64 (-1)] 47)).alloc (.cells #[.int .i64 0, .int .i64 1] 47)) (w4_.heap.size + 1) 47 #[.int .i64 0, .int .i64 1] := (Blk.newAt (by simp))
  have ne_A_M : qb1 ≠ w4_.heap.size := (by have := A_4.lt; omega)
  have ne_B_M : qb2 ≠ w4_.heap.size := (by have := B_4.lt; omega)
  have ne_C_M : qb3 ≠ w4_.heap.size := (by have := C_4.lt; omega)
  have ne_A_N : qb1 ≠ w4_.heap.size + 1 := (by have := A_4.lt; omega)
  have ne_B_N : qb2 ≠ w4_.heap.size + 1 := (by have := B_4.lt; omega)
  have ne_C_N : qb3 ≠ w4_.heap.size + 1 := (by have := C_4.lt; omega)
  have S_5 := (show Below w.heap.size w ((w4_.alloc (.cells #[.int .i64 (-1), .int .i64 (-1)] 47)).alloc (.cells #[.int .i64 0, .int .i64 1] 47)) from pa (pa (S_4)))
  clear L_4 A_4 B_4 C_4 S_4 Ac0 Ac1 Al Bc0 Bc1 Bl Cc0 Cc1 Cl
  generalize (w4_.alloc (.cells #[.int .i64 (-1), .int .i64 (-1)] 47)).alloc (.cells #[.int .i64 0, .int .i64 1] 47) = w5_ at *
  have Ac0 := A_5.cellAt 0 rfl
  have Ac1 := A_5.cellAt 1 rfl
  have Al := A_5.lt
  have Bc0 := B_5.cellAt 0 rfl
  have Bc1 := B_5.cellAt 1 rfl
  have Bl := B_5.lt
  have Cc0 := C_5.cellAt 0 rfl
  have Cc1 := C_5.cellAt 1 rfl
  have Cl := C_5.lt
  have Mc0 := M_5.cellAt 0 rfl
  have Mc1 := M_5.cellAt 1 rfl
  have Ml := M_5.lt
  have Nc0 := N_5.cellAt 0 rfl
  have Nc1 := N_5.cellAt 1 rfl
  have Nl := N_5.lt
  refine region_below 11 follows_mixed (by kernel_rfl) ?_
  intro C hC
  simp only [List.take_succ_cons, List.take_zero, List.drop_succ_cons, List.drop_zero]
  repeat (first
    | ((with_reducible refine quiet_plain rfl (fun K hK => ?_)); (focus (apply quiet_val; (focus (intro w' hw; obtain ⟨hcq, hfq⟩ := bcell ((hC.out _).1 hw); go_simp; (first | done | rfl | (with_reducible exact call_below hC hw (H1.out _)) | (with_reducible exact call_below hC hw (H2.out _))))); (simp only [Act.put, List.setIfInBounds_toArray, List.set_cons_succ, List.set_cons_zero]); (with_reducible refine hK _ ?_); clear hK K)))
    | ((with_reducible refine quiet_skip ?_ ?_); (focus (first | (simp [Region.wanted, yielded]; done) | (simp [Region.wanted, yielded, undef]; done))); simp only [Act.put, List.setIfInBounds_toArray, List.set_cons_succ, List.set_cons_zero])
    | ((with_reducible refine quiet_go ?_ (fun K hK => ?_)); (focus (first | (simp [Region.wanted, yielded]; done) | (simp [Region.wanted, yielded, undef]; done))); (focus (apply quiet_val; (focus (intro w' hw; obtain ⟨hcq, hfq⟩ := bcell ((hC.out _).1 hw); go_simp; (first | done | rfl | (with_reducible exact call_below hC hw (H1.out _)) | (with_reducible exact call_below hC hw (H2.out _))))); (simp only [Act.put, List.setIfInBounds_toArray, List.set_cons_succ, List.set_cons_zero]); (with_reducible refine hK _ ?_); clear hK K))))
  refine wpQuiet_nil ?_
  intro w1 hb1
  replace hb1 := (hC.out _).1 hb1
  clear hC C
  obtain ⟨hc1, hf1⟩ := bcell hb1
  have L_6 : Blk w1 (w.heap.size) 81 #[.int .i64 x1, .int .i64 x2, .int .i64 x3, .int .i64 x4, .int .i64 x5, .int .i64 x6, .int .i64 x7, .int .i64 x8, .int .i64 x9] := (L_5).past hb1
  have A_6 : Blk w1 (qb1) 47 #[.int .i64 p0, .int .i64 q0] := (A_5).past hb1
  have B_6 : Blk w1 (qb2) 47 #[.int .i64 p1, .int .i64 q1] := (B_5).past hb1
  have C_6 : Blk w1 (qb3) 47 #[.int .i64 p2, .int .i64 q2] := (C_5).past hb1
  have M_6 : Blk w1 (w4_.heap.size) 47 #[.int .i64 (-1), .int .i64 (-1)] := (M_5).past hb1
  have N_6 : Blk w1 (w4_.heap.size + 1) 47 #[.int .i64 0, .int .i64 1] := (N_5).past hb1
  have S_6 := pt (S_5) hb1
  clear L_5 A_5 B_5 C_5 M_5 N_5 S_5 Ac0 Ac1 Al Bc0 Bc1 Bl Cc0 Cc1 Cl Mc0 Mc1 Ml Nc0 Nc1 Nl
  have Ac0 := A_6.cellAt 0 rfl
  have Ac1 := A_6.cellAt 1 rfl
  have Al := A_6.lt
  have Bc0 := B_6.cellAt 0 rfl
  have Bc1 := B_6.cellAt 1 rfl
  have Bl := B_6.lt
  have Cc0 := C_6.cellAt 0 rfl
  have Cc1 := C_6.cellAt 1 rfl
  have Cl := C_6.lt
  have Mc0 := M_6.cellAt 0 rfl
  have Mc1 := M_6.cellAt 1 rfl
  have Ml := M_6.lt
  have Nc0 := N_6.cellAt 0 rfl
  have Nc1 := N_6.cellAt 1 rfl
  have Nl := N_6.lt
  clear hb1 hc1 hf1
  obtain ⟨w6_, rfl⟩ : ∃ v, v = w1 := ⟨_, rfl⟩
  go_wp2
  refine region_below 11 follows_mixed (by kernel_rfl) ?_
  intro C hC
  simp only [List.take_succ_cons, List.take_zero, List.drop_succ_cons, List.drop_zero]
  repeat (first
    | ((with_reducible refine quiet_plain rfl (fun K hK => ?_)); (focus (apply quiet_val; (focus (intro w' hw; obtain ⟨hcq, hfq⟩ := bcell ((hC.out _).1 hw); go_simp; (first | done | rfl | (with_reducible exact call_below hC hw (H3.out _)) | (with_reducible exact call_below hC hw (H4.out _))))); (simp only [Act.put, List.setIfInBounds_toArray, List.set_cons_succ, List.set_cons_zero]); (with_reducible refine hK _ ?_); clear hK K)))
    | ((with_reducible refine quiet_skip ?_ ?_); (focus (first | (simp [Region.wanted, yielded]; done) | (simp [Region.wanted, yielded, undef]; done))); simp only [Act.put, List.setIfInBounds_toArray, List.set_cons_succ, List.set_cons_zero])
    | ((with_reducible refine quiet_go ?_ (fun K hK => ?_)); (focus (first | (simp [Region.wanted, yielded]; done) | (simp [Region.wanted, yielded, undef]; done))); (focus (apply quiet_val; (focus (intro w' hw; obtain ⟨hcq, hfq⟩ := bcell ((hC.out _).1 hw); go_simp; (first | done | rfl | (with_reducible exact call_below hC hw (H3.out _)) | (with_reducible exact call_below hC hw (H4.out _))))); (simp only [Act.put, List.setIfInBounds_toArray, List.set_cons_succ, List.set_cons_zero]); (with_reducible refine hK _ ?_); clear hK K))))
  refine wpQuiet_nil ?_
  intro w1 hb1
  replace hb1 := (hC.out _).1 hb1
  clear hC C
  obtain ⟨hc1, hf1⟩ := bcell hb1
  have L_7 : Blk w1 (w.heap.size) 81 #[.int .i64 x1, .int .i64 x2, .int .i64 x3, .int .i64 x4, .int .i64 x5, .int .i64 x6, .int .i64 x7, .int .i64 x8, .int .i64 x9] := (L_6).past hb1
  have A_7 : Blk w1 (qb1) 47 #[.int .i64 p0, .int .i64 q0] := (A_6).past hb1
  have B_7 : Blk w1 (qb2) 47 #[.int .i64 p1, .int .i64 q1] := (B_6).past hb1
  have C_7 : Blk w1 (qb3) 47 #[.int .i64 p2, .int .i64 q2] := (C_6).past hb1
  have M_7 : Blk w1 (w4_.heap.size) 47 #[.int .i64 (-1), .int .i64 (-1)] := (M_6).past hb1
  have N_7 : Blk w1 (w4_.heap.size + 1) 47 #[.int .i64 0, .int .i64 1] := (N_6).past hb1
  have S_7 := pt (S_6) hb1
  clear L_6 A_6 B_6 C_6 M_6 N_6 S_6 Ac0 Ac1 Al Bc0 Bc1 Bl Cc0 Cc1 Cl Mc0 Mc1 Ml Nc0 Nc1 Nl
  clear hb1 hc1 hf1
  obtain ⟨w7_, rfl⟩ : ∃ v, v = w1 := ⟨_, rfl⟩
  go_wp2
  go_ret2
  exact ⟨rfl, by repeat (first | exact S_7 | refine pa ?_)⟩

set_option maxHeartbeats 8000000 in
set_option maxRecDepth 100000 in
theorem refSeq_f_tt (x1 x2 x3 x4 x5 x6 x7 x8 x9 p0 q0 p1 q1 p2 q2 a1 a2 b1 b2 c1 c2 d1 d2 : Int)
    (ha : ∀ w, Calls Tryz.prog 59 #[.agg #[.int .i64 x1, .int .i64 x2, .int .i64 x3]] w fun e w' => e = .returned (.agg #[.int .i64 p0, .int .i64 q0]) ∧ Below w.heap.size w w')
    (hb : ∀ w, Calls Tryz.prog 59 #[.agg #[.int .i64 x4, .int .i64 x5, .int .i64 x6]] w fun e w' => e = .returned (.agg #[.int .i64 p1, .int .i64 q1]) ∧ Below w.heap.size w w')
    (hc : ∀ w, Calls Tryz.prog 59 #[.agg #[.int .i64 x7, .int .i64 x8, .int .i64 x9]] w fun e w' => e = .returned (.agg #[.int .i64 p2, .int .i64 q2]) ∧ Below w.heap.size w w')
    (h1 : ∀ w, Calls Tryz.prog 155 #[.agg #[.int .i64 p0, .int .i64 q0], .agg #[.int .i64 (-1), .int .i64 (-1)]] w fun e w' => e = .returned (.agg #[.int .i64 a1, .int .i64 a2]) ∧ Below w.heap.size w w')
    (h2 : ∀ w, Calls Tryz.prog 155 #[.agg #[.int .i64 p1, .int .i64 q1], .agg #[.int .i64 (-1), .int .i64 (-1)]] w fun e w' => e = .returned (.agg #[.int .i64 b1, .int .i64 b2]) ∧ Below w.heap.size w w')
    (h3 : ∀ w, Calls Tryz.prog 155 #[.agg #[.int .i64 p0, .int .i64 q0], .agg #[.int .i64 0, .int .i64 1]] w fun e w' => e = .returned (.agg #[.int .i64 c1, .int .i64 c2]) ∧ Below w.heap.size w w')
    (h4 : ∀ w, Calls Tryz.prog 155 #[.agg #[.int .i64 p1, .int .i64 q1], .agg #[.int .i64 0, .int .i64 1]] w fun e w' => e = .returned (.agg #[.int .i64 d1, .int .i64 d2]) ∧ Below w.heap.size w w')
    (hz : phB p0 q0 0 0 = false) (hA : phB p1 q1 a1 a2 = false) (hC : phB p1 q1 c1 c2 = true) (hD : phB p2 q2 d1 d2 = true) (w : World) :
    Calls Tryz.prog 129 #[.agg #[.int .i64 x1, .int .i64 x2, .int .i64 x3, .int .i64 x4, .int .i64 x5, .int .i64 x6, .int .i64 x7, .int .i64 x8, .int .i64 x9]] w fun e w' => e = .returned (.tuple #[.int .i64 (-1), .int .i64 0]) ∧ Below w.heap.size w w' := by
  have HA := Lib.hid ha
  have HB := Lib.hid hb
  have HC := Lib.hid hc
  have H1 := Lib.hid h1
  have H2 := Lib.hid h2
  have H3 := Lib.hid h3
  have H4 := Lib.hid h4
  clear ha hb hc h1 h2 h3 h4
  go_enter Tryz.func129, Tryz.ntmps129
  go_wp2
  refine region_alloc3 (zc1 := (.cells #[.int .i64 0, .int .i64 0] 47)) (zc2 := (.cells #[.int .i64 0, .int .i64 0] 47)) (zc3 := (.cells #[.int .i64 0, .int .i64 0] 47)) 9 follows_mixed (by kernel_rfl) rfl rfl rfl (fun _ _ => by kernel_rfl) (fun _ _ => by kernel_rfl) (fun _ _ => by kernel_rfl) ?_
  simp only [List.take_succ_cons, List.take_zero, List.drop_succ_cons, List.drop_zero]
  repeat (first
    | ((with_reducible apply grow_plain); (focus rfl); (focus (intro w' hw; obtain ⟨hcq, hfq⟩ := bcell hw; go_simp; (first | done | rfl | (with_reducible exact HA.out _) | (with_reducible exact HB.out _) | (with_reducible exact HC.out _)))); (simp only [Act.put, List.setIfInBounds_toArray, List.set_cons_succ, List.set_cons_zero]))
    | ((with_reducible apply grow_skip); (focus (first | (simp [Region.wanted, yielded]; done) | (simp [Region.wanted, yielded, undef]; done))); simp only [Act.put, List.setIfInBounds_toArray, List.set_cons_succ, List.set_cons_zero])
    | ((with_reducible apply grow_go); (focus (first | (simp [Region.wanted, yielded]; done) | (simp [Region.wanted, yielded, undef]; done))); (focus (intro w' hw; obtain ⟨hcq, hfq⟩ := bcell hw; go_simp; (first | done | rfl | (with_reducible exact HA.out _) | (with_reducible exact HB.out _) | (with_reducible exact HC.out _)))); (simp only [Act.put, List.setIfInBounds_toArray, List.set_cons_succ, List.set_cons_zero])))
  refine grow_nil ?_
  intro qb1 qb2 qb3 w1 hb1 hn1 hn2 hn3 hq12 hq13 hq23
  simp only [Act.put, List.setIfInBounds_toArray, List.set_cons_succ, List.set_cons_zero]
  have L_1 : Blk w1 (w.heap.size) 81 #[.int .i64 x1, .int .i64 x2, .int .i64 x3, .int .i64 x4, .int .i64 x5, .int .i64 x6, .int .i64 x7, .int .i64 x8, .int .i64 x9] := (Blk.newAt (by simp)).past hb1
  have ne_L_A : w.heap.size ≠ qb1 := by have := hn1.ge; simp at this; omega
  have ne_L_B : w.heap.size ≠ qb2 := by have := hn2.ge; simp at this; omega
  have ne_L_C : w.heap.size ≠ qb3 := by have := hn3.ge; simp at this; omega
  have A_1 : Blk w1 qb1 47 #[.int .i64 0, .int .i64 0] := hn1.at_
  have ge_A : w.heap.size ≤ qb1 := by have := hn1.ge; simp at this; omega
  have B_1 : Blk w1 qb2 47 #[.int .i64 0, .int .i64 0] := hn2.at_
  have ge_B : w.heap.size ≤ qb2 := by have := hn2.ge; simp at this; omega
  have C_1 : Blk w1 qb3 47 #[.int .i64 0, .int .i64 0] := hn3.at_
  have ge_C : w.heap.size ≤ qb3 := by have := hn3.ge; simp at this; omega
  have ne_A_B := hq12
  have ne_A_C := hq13
  have ne_B_C := hq23
  have S_1 := pt (pa (pr)) hb1
  clear hb1 hn1 hn2 hn3 hq12 hq13 hq23
  obtain ⟨w1_, rfl⟩ : ∃ v, v = w1 := ⟨_, rfl⟩
  go_wp2_with (first
    | ((with_reducible refine store_sub (T := 47) (x := .tmp 4) (y := .tmp 11) (o := 0) (cs' := #[.int .i64 p0, .int .i64 q0]) (vs := #[.int .i64 p0, .int .i64 q0]) (show Blk _ (qb1) 47 #[.int .i64 0, .int .i64 0] from (A_1)) ?_ ?_ ?_ ?_ ?_ ?_ ?_); (focus rfl); (focus rfl); (focus rfl); (focus exact Nat.le_of_ble_eq_true rfl); (focus exact seq2_size); (focus (simp [Value.oneCell']; done)); intro w2_ b2_ h2_; have L_2 : Blk w2_ (w.heap.size) 81 #[.int .i64 x1, .int .i64 x2, .int .i64 x3, .int .i64 x4, .int .i64 x5, .int .i64 x6, .int .i64 x7, .int .i64 x8, .int .i64 x9] := (L_1).put h2_ ne_L_A; have A_2 : Blk w2_ (qb1) 47 #[.int .i64 p0, .int .i64 q0] := b2_; have B_2 : Blk w2_ (qb2) 47 #[.int .i64 0, .int .i64 0] := (B_1).put h2_ (Ne.symm ne_A_B); have C_2 : Blk w2_ (qb3) 47 #[.int .i64 0, .int .i64 0] := (C_1).put h2_ (Ne.symm ne_A_C); have S_2 := pp (S_1) h2_ ge_A; clear L_1 A_1 B_1 C_1 S_1; clear h2_ b2_)
    | ((with_reducible refine store_sub (T := 47) (x := .tmp 5) (y := .tmp 14) (o := 0) (cs' := #[.int .i64 p1, .int .i64 q1]) (vs := #[.int .i64 p1, .int .i64 q1]) (show Blk _ (qb2) 47 #[.int .i64 0, .int .i64 0] from (B_2)) ?_ ?_ ?_ ?_ ?_ ?_ ?_); (focus rfl); (focus rfl); (focus rfl); (focus exact Nat.le_of_ble_eq_true rfl); (focus exact seq2_size); (focus (simp [Value.oneCell']; done)); intro w3_ b3_ h3_; have L_3 : Blk w3_ (w.heap.size) 81 #[.int .i64 x1, .int .i64 x2, .int .i64 x3, .int .i64 x4, .int .i64 x5, .int .i64 x6, .int .i64 x7, .int .i64 x8, .int .i64 x9] := (L_2).put h3_ ne_L_B; have A_3 : Blk w3_ (qb1) 47 #[.int .i64 p0, .int .i64 q0] := (A_2).put h3_ ne_A_B; have B_3 : Blk w3_ (qb2) 47 #[.int .i64 p1, .int .i64 q1] := b3_; have C_3 : Blk w3_ (qb3) 47 #[.int .i64 0, .int .i64 0] := (C_2).put h3_ (Ne.symm ne_B_C); have S_3 := pp (S_2) h3_ ge_B; clear L_2 A_2 B_2 C_2 S_2; clear h3_ b3_)
    | ((with_reducible refine store_sub (T := 47) (x := .tmp 6) (y := .tmp 17) (o := 0) (cs' := #[.int .i64 p2, .int .i64 q2]) (vs := #[.int .i64 p2, .int .i64 q2]) (show Blk _ (qb3) 47 #[.int .i64 0, .int .i64 0] from (C_3)) ?_ ?_ ?_ ?_ ?_ ?_ ?_); (focus rfl); (focus rfl); (focus rfl); (focus exact Nat.le_of_ble_eq_true rfl); (focus exact seq2_size); (focus (simp [Value.oneCell']; done)); intro w4_ b4_ h4_; have L_4 : Blk w4_ (w.heap.size) 81 #[.int .i64 x1, .int .i64 x2, .int .i64 x3, .int .i64 x4, .int .i64 x5, .int .i64 x6, .int .i64 x7, .int .i64 x8, .int .i64 x9] := (L_3).put h4_ ne_L_C; have A_4 : Blk w4_ (qb1) 47 #[.int .i64 p0, .int .i64 q0] := (A_3).put h4_ ne_A_C; have B_4 : Blk w4_ (qb2) 47 #[.int .i64 p1, .int .i64 q1] := (B_3).put h4_ ne_B_C; have C_4 : Blk w4_ (qb3) 47 #[.int .i64 p2, .int .i64 q2] := b4_; have S_4 := pp (S_3) h4_ ge_C; clear L_3 A_3 B_3 C_3 S_3; have Ac0 := A_4.cellAt 0 rfl; have Ac1 := A_4.cellAt 1 rfl; have Al := A_4.lt; have Bc0 := B_4.cellAt 0 rfl; have Bc1 := B_4.cellAt 1 rfl; have Bl := B_4.lt; have Cc0 := C_4.cellAt 0 rfl; have Cc1 := C_4.cellAt 1 rfl; have Cl := C_4.lt; clear h4_ b4_))
  have L_5 : Blk ((w4_.alloc (.cells #[.int .i64 (-1), .int .i64 (-1)] 47)).alloc (.cells #[.int .i64 0, .int .i64 1] 47)) (w.heap.size) 81 #[.int .i64 x1, .int .i64 x2, .int .i64 x3, .int .i64 x4, .int .i64 x5, .int .i64 x6, .int .i64 x7, .int .i64 x8, .int .i64 x9] := (L_4.alloc.alloc)
  have A_5 : Blk ((w4_.alloc (.cells #[.int .i64 (-1), .int .i64 (-1)] 47)).alloc (.cells #[.int .i64 0, .int .i64 1] 47)) (qb1) 47 #[.int .i64 p0, .int .i64 q0] := (A_4.alloc.alloc)
  have B_5 : Blk ((w4_.alloc (.cells #[.int .i64 (-1), .int .i64 (-1)] 47)).alloc (.cells #[.int .i64 0, .int .i64 1] 47)) (qb2) 47 #[.int .i64 p1, .int .i64 q1] := (B_4.alloc.alloc)
  have C_5 : Blk ((w4_.alloc (.cells #[.int .i64 (-1), .int .i64 (-1)] 47)).alloc (.cells #[.int .i64 0, .int .i64 1] 47)) (qb3) 47 #[.int .i64 p2, .int .i64 q2] := (C_4.alloc.alloc)
  have M_5 : Blk ((w4_.alloc (.cells #[.int .i64 (-1), .int .i64 (-1)] 47)).alloc (.cells #[.int .i64 0, .int .i64 1] 47)) (w4_.heap.size) 47 #[.int .i64 (-1), .int .i64 (-1)] := (Blk.newAt (by simp)).alloc
  have N_5 : Blk ((w4_.alloc (.cells #[.int .i64 (-1), .int .i64 (-1)] 47)).alloc (.cells #[.int .i64 0, .int .i64 1] 47)) (w4_.heap.size + 1) 47 #[.int .i64 0, .int .i64 1] := (Blk.newAt (by simp))
  have ne_A_M : qb1 ≠ w4_.heap.size := (by have := A_4.lt; omega)
  have ne_B_M : qb2 ≠ w4_.heap.size := (by have := B_4.lt; omega)
  have ne_C_M : qb3 ≠ w4_.heap.size := (by have := C_4.lt; omega)
  have ne_A_N : qb1 ≠ w4_.heap.size + 1 := (by have := A_4.lt; omega)
  have ne_B_N : qb2 ≠ w4_.heap.size + 1 := (by have := B_4.lt; omega)
  have ne_C_N : qb3 ≠ w4_.heap.size + 1 := (by have := C_4.lt; omega)
  have S_5 := (show Below w.heap.size w ((w4_.alloc (.cells #[.int .i64 (-1), .int .i64 (-1)] 47)).alloc (.cells #[.int .i64 0, .int .i64 1] 47)) from pa (pa (S_4)))
  clear L_4 A_4 B_4 C_4 S_4 Ac0 Ac1 Al Bc0 Bc1 Bl Cc0 Cc1 Cl
  generalize (w4_.alloc (.cells #[.int .i64 (-1), .int .i64 (-1)] 47)).alloc (.cells #[.int .i64 0, .int .i64 1] 47) = w5_ at *
  have Ac0 := A_5.cellAt 0 rfl
  have Ac1 := A_5.cellAt 1 rfl
  have Al := A_5.lt
  have Bc0 := B_5.cellAt 0 rfl
  have Bc1 := B_5.cellAt 1 rfl
  have Bl := B_5.lt
  have Cc0 := C_5.cellAt 0 rfl
  have Cc1 := C_5.cellAt 1 rfl
  have Cl := C_5.lt
  have Mc0 := M_5.cellAt 0 rfl
  have Mc1 := M_5.cellAt 1 rfl
  have Ml := M_5.lt
  have Nc0 := N_5.cellAt 0 rfl
  have Nc1 := N_5.cellAt 1 rfl
  have Nl := N_5.lt
  refine region_below 11 follows_mixed (by kernel_rfl) ?_
  intro C hC
  simp only [List.take_succ_cons, List.take_zero, List.drop_succ_cons, List.drop_zero]
  repeat (first
    | ((with_reducible refine quiet_plain rfl (fun K hK => ?_)); (focus (apply quiet_val; (focus (intro w' hw; obtain ⟨hcq, hfq⟩ := bcell ((hC.out _).1 hw); go_simp; (first | done | rfl | (with_reducible exact call_below hC hw (H1.out _)) | (with_reducible exact call_below hC hw (H2.out _))))); (simp only [Act.put, List.setIfInBounds_toArray, List.set_cons_succ, List.set_cons_zero]); (with_reducible refine hK _ ?_); clear hK K)))
    | ((with_reducible refine quiet_skip ?_ ?_); (focus (first | (simp [Region.wanted, yielded]; done) | (simp [Region.wanted, yielded, undef]; done))); simp only [Act.put, List.setIfInBounds_toArray, List.set_cons_succ, List.set_cons_zero])
    | ((with_reducible refine quiet_go ?_ (fun K hK => ?_)); (focus (first | (simp [Region.wanted, yielded]; done) | (simp [Region.wanted, yielded, undef]; done))); (focus (apply quiet_val; (focus (intro w' hw; obtain ⟨hcq, hfq⟩ := bcell ((hC.out _).1 hw); go_simp; (first | done | rfl | (with_reducible exact call_below hC hw (H1.out _)) | (with_reducible exact call_below hC hw (H2.out _))))); (simp only [Act.put, List.setIfInBounds_toArray, List.set_cons_succ, List.set_cons_zero]); (with_reducible refine hK _ ?_); clear hK K))))
  refine wpQuiet_nil ?_
  intro w1 hb1
  replace hb1 := (hC.out _).1 hb1
  clear hC C
  obtain ⟨hc1, hf1⟩ := bcell hb1
  have L_6 : Blk w1 (w.heap.size) 81 #[.int .i64 x1, .int .i64 x2, .int .i64 x3, .int .i64 x4, .int .i64 x5, .int .i64 x6, .int .i64 x7, .int .i64 x8, .int .i64 x9] := (L_5).past hb1
  have A_6 : Blk w1 (qb1) 47 #[.int .i64 p0, .int .i64 q0] := (A_5).past hb1
  have B_6 : Blk w1 (qb2) 47 #[.int .i64 p1, .int .i64 q1] := (B_5).past hb1
  have C_6 : Blk w1 (qb3) 47 #[.int .i64 p2, .int .i64 q2] := (C_5).past hb1
  have M_6 : Blk w1 (w4_.heap.size) 47 #[.int .i64 (-1), .int .i64 (-1)] := (M_5).past hb1
  have N_6 : Blk w1 (w4_.heap.size + 1) 47 #[.int .i64 0, .int .i64 1] := (N_5).past hb1
  have S_6 := pt (S_5) hb1
  clear L_5 A_5 B_5 C_5 M_5 N_5 S_5 Ac0 Ac1 Al Bc0 Bc1 Bl Cc0 Cc1 Cl Mc0 Mc1 Ml Nc0 Nc1 Nl
  have Ac0 := A_6.cellAt 0 rfl
  have Ac1 := A_6.cellAt 1 rfl
  have Al := A_6.lt
  have Bc0 := B_6.cellAt 0 rfl
  have Bc1 := B_6.cellAt 1 rfl
  have Bl := B_6.lt
  have Cc0 := C_6.cellAt 0 rfl
  have Cc1 := C_6.cellAt 1 rfl
  have Cl := C_6.lt
  have Mc0 := M_6.cellAt 0 rfl
  have Mc1 := M_6.cellAt 1 rfl
  have Ml := M_6.lt
  have Nc0 := N_6.cellAt 0 rfl
  have Nc1 := N_6.cellAt 1 rfl
  have Nl := N_6.lt
  clear hb1 hc1 hf1
  obtain ⟨w6_, rfl⟩ : ∃ v, v = w1 := ⟨_, rfl⟩
  go_wp2
  refine region_below 11 follows_mixed (by kernel_rfl) ?_
  intro C hC
  simp only [List.take_succ_cons, List.take_zero, List.drop_succ_cons, List.drop_zero]
  repeat (first
    | ((with_reducible refine quiet_plain rfl (fun K hK => ?_)); (focus (apply quiet_val; (focus (intro w' hw; obtain ⟨hcq, hfq⟩ := bcell ((hC.out _).1 hw); go_simp; (first | done | rfl | (with_reducible exact call_below hC hw (H3.out _)) | (with_reducible exact call_below hC hw (H4.out _))))); (simp only [Act.put, List.setIfInBounds_toArray, List.set_cons_succ, List.set_cons_zero]); (with_reducible refine hK _ ?_); clear hK K)))
    | ((with_reducible refine quiet_skip ?_ ?_); (focus (first | (simp [Region.wanted, yielded]; done) | (simp [Region.wanted, yielded, undef]; done))); simp only [Act.put, List.setIfInBounds_toArray, List.set_cons_succ, List.set_cons_zero])
    | ((with_reducible refine quiet_go ?_ (fun K hK => ?_)); (focus (first | (simp [Region.wanted, yielded]; done) | (simp [Region.wanted, yielded, undef]; done))); (focus (apply quiet_val; (focus (intro w' hw; obtain ⟨hcq, hfq⟩ := bcell ((hC.out _).1 hw); go_simp; (first | done | rfl | (with_reducible exact call_below hC hw (H3.out _)) | (with_reducible exact call_below hC hw (H4.out _))))); (simp only [Act.put, List.setIfInBounds_toArray, List.set_cons_succ, List.set_cons_zero]); (with_reducible refine hK _ ?_); clear hK K))))
  refine wpQuiet_nil ?_
  intro w1 hb1
  replace hb1 := (hC.out _).1 hb1
  clear hC C
  obtain ⟨hc1, hf1⟩ := bcell hb1
  have L_7 : Blk w1 (w.heap.size) 81 #[.int .i64 x1, .int .i64 x2, .int .i64 x3, .int .i64 x4, .int .i64 x5, .int .i64 x6, .int .i64 x7, .int .i64 x8, .int .i64 x9] := (L_6).past hb1
  have A_7 : Blk w1 (qb1) 47 #[.int .i64 p0, .int .i64 q0] := (A_6).past hb1
  have B_7 : Blk w1 (qb2) 47 #[.int .i64 p1, .int .i64 q1] := (B_6).past hb1
  have C_7 : Blk w1 (qb3) 47 #[.int .i64 p2, .int .i64 q2] := (C_6).past hb1
  have M_7 : Blk w1 (w4_.heap.size) 47 #[.int .i64 (-1), .int .i64 (-1)] := (M_6).past hb1
  have N_7 : Blk w1 (w4_.heap.size + 1) 47 #[.int .i64 0, .int .i64 1] := (N_6).past hb1
  have S_7 := pt (S_6) hb1
  clear L_6 A_6 B_6 C_6 M_6 N_6 S_6 Ac0 Ac1 Al Bc0 Bc1 Bl Cc0 Cc1 Cl Mc0 Mc1 Ml Nc0 Nc1 Nl
  clear hb1 hc1 hf1
  obtain ⟨w7_, rfl⟩ : ∃ v, v = w1 := ⟨_, rfl⟩
  go_wp2
  go_ret2
  exact ⟨rfl, by repeat (first | exact S_7 | refine pa ?_)⟩

set_option maxHeartbeats 8000000 in
set_option maxRecDepth 100000 in
theorem refSeq_f_tf (x1 x2 x3 x4 x5 x6 x7 x8 x9 p0 q0 p1 q1 p2 q2 a1 a2 b1 b2 c1 c2 d1 d2 : Int)
    (ha : ∀ w, Calls Tryz.prog 59 #[.agg #[.int .i64 x1, .int .i64 x2, .int .i64 x3]] w fun e w' => e = .returned (.agg #[.int .i64 p0, .int .i64 q0]) ∧ Below w.heap.size w w')
    (hb : ∀ w, Calls Tryz.prog 59 #[.agg #[.int .i64 x4, .int .i64 x5, .int .i64 x6]] w fun e w' => e = .returned (.agg #[.int .i64 p1, .int .i64 q1]) ∧ Below w.heap.size w w')
    (hc : ∀ w, Calls Tryz.prog 59 #[.agg #[.int .i64 x7, .int .i64 x8, .int .i64 x9]] w fun e w' => e = .returned (.agg #[.int .i64 p2, .int .i64 q2]) ∧ Below w.heap.size w w')
    (h1 : ∀ w, Calls Tryz.prog 155 #[.agg #[.int .i64 p0, .int .i64 q0], .agg #[.int .i64 (-1), .int .i64 (-1)]] w fun e w' => e = .returned (.agg #[.int .i64 a1, .int .i64 a2]) ∧ Below w.heap.size w w')
    (h2 : ∀ w, Calls Tryz.prog 155 #[.agg #[.int .i64 p1, .int .i64 q1], .agg #[.int .i64 (-1), .int .i64 (-1)]] w fun e w' => e = .returned (.agg #[.int .i64 b1, .int .i64 b2]) ∧ Below w.heap.size w w')
    (h3 : ∀ w, Calls Tryz.prog 155 #[.agg #[.int .i64 p0, .int .i64 q0], .agg #[.int .i64 0, .int .i64 1]] w fun e w' => e = .returned (.agg #[.int .i64 c1, .int .i64 c2]) ∧ Below w.heap.size w w')
    (h4 : ∀ w, Calls Tryz.prog 155 #[.agg #[.int .i64 p1, .int .i64 q1], .agg #[.int .i64 0, .int .i64 1]] w fun e w' => e = .returned (.agg #[.int .i64 d1, .int .i64 d2]) ∧ Below w.heap.size w w')
    (hz : phB p0 q0 0 0 = false) (hA : phB p1 q1 a1 a2 = false) (hC : phB p1 q1 c1 c2 = true) (hD : phB p2 q2 d1 d2 = false) (w : World) :
    Calls Tryz.prog 129 #[.agg #[.int .i64 x1, .int .i64 x2, .int .i64 x3, .int .i64 x4, .int .i64 x5, .int .i64 x6, .int .i64 x7, .int .i64 x8, .int .i64 x9]] w fun e w' => e = .returned (.tuple #[.int .i64 0, .int .i64 12]) ∧ Below w.heap.size w w' := by
  have HA := Lib.hid ha
  have HB := Lib.hid hb
  have HC := Lib.hid hc
  have H1 := Lib.hid h1
  have H2 := Lib.hid h2
  have H3 := Lib.hid h3
  have H4 := Lib.hid h4
  clear ha hb hc h1 h2 h3 h4
  go_enter Tryz.func129, Tryz.ntmps129
  go_wp2
  refine region_alloc3 (zc1 := (.cells #[.int .i64 0, .int .i64 0] 47)) (zc2 := (.cells #[.int .i64 0, .int .i64 0] 47)) (zc3 := (.cells #[.int .i64 0, .int .i64 0] 47)) 9 follows_mixed (by kernel_rfl) rfl rfl rfl (fun _ _ => by kernel_rfl) (fun _ _ => by kernel_rfl) (fun _ _ => by kernel_rfl) ?_
  simp only [List.take_succ_cons, List.take_zero, List.drop_succ_cons, List.drop_zero]
  repeat (first
    | ((with_reducible apply grow_plain); (focus rfl); (focus (intro w' hw; obtain ⟨hcq, hfq⟩ := bcell hw; go_simp; (first | done | rfl | (with_reducible exact HA.out _) | (with_reducible exact HB.out _) | (with_reducible exact HC.out _)))); (simp only [Act.put, List.setIfInBounds_toArray, List.set_cons_succ, List.set_cons_zero]))
    | ((with_reducible apply grow_skip); (focus (first | (simp [Region.wanted, yielded]; done) | (simp [Region.wanted, yielded, undef]; done))); simp only [Act.put, List.setIfInBounds_toArray, List.set_cons_succ, List.set_cons_zero])
    | ((with_reducible apply grow_go); (focus (first | (simp [Region.wanted, yielded]; done) | (simp [Region.wanted, yielded, undef]; done))); (focus (intro w' hw; obtain ⟨hcq, hfq⟩ := bcell hw; go_simp; (first | done | rfl | (with_reducible exact HA.out _) | (with_reducible exact HB.out _) | (with_reducible exact HC.out _)))); (simp only [Act.put, List.setIfInBounds_toArray, List.set_cons_succ, List.set_cons_zero])))
  refine grow_nil ?_
  intro qb1 qb2 qb3 w1 hb1 hn1 hn2 hn3 hq12 hq13 hq23
  simp only [Act.put, List.setIfInBounds_toArray, List.set_cons_succ, List.set_cons_zero]
  have L_1 : Blk w1 (w.heap.size) 81 #[.int .i64 x1, .int .i64 x2, .int .i64 x3, .int .i64 x4, .int .i64 x5, .int .i64 x6, .int .i64 x7, .int .i64 x8, .int .i64 x9] := (Blk.newAt (by simp)).past hb1
  have ne_L_A : w.heap.size ≠ qb1 := by have := hn1.ge; simp at this; omega
  have ne_L_B : w.heap.size ≠ qb2 := by have := hn2.ge; simp at this; omega
  have ne_L_C : w.heap.size ≠ qb3 := by have := hn3.ge; simp at this; omega
  have A_1 : Blk w1 qb1 47 #[.int .i64 0, .int .i64 0] := hn1.at_
  have ge_A : w.heap.size ≤ qb1 := by have := hn1.ge; simp at this; omega
  have B_1 : Blk w1 qb2 47 #[.int .i64 0, .int .i64 0] := hn2.at_
  have ge_B : w.heap.size ≤ qb2 := by have := hn2.ge; simp at this; omega
  have C_1 : Blk w1 qb3 47 #[.int .i64 0, .int .i64 0] := hn3.at_
  have ge_C : w.heap.size ≤ qb3 := by have := hn3.ge; simp at this; omega
  have ne_A_B := hq12
  have ne_A_C := hq13
  have ne_B_C := hq23
  have S_1 := pt (pa (pr)) hb1
  clear hb1 hn1 hn2 hn3 hq12 hq13 hq23
  obtain ⟨w1_, rfl⟩ : ∃ v, v = w1 := ⟨_, rfl⟩
  go_wp2_with (first
    | ((with_reducible refine store_sub (T := 47) (x := .tmp 4) (y := .tmp 11) (o := 0) (cs' := #[.int .i64 p0, .int .i64 q0]) (vs := #[.int .i64 p0, .int .i64 q0]) (show Blk _ (qb1) 47 #[.int .i64 0, .int .i64 0] from (A_1)) ?_ ?_ ?_ ?_ ?_ ?_ ?_); (focus rfl); (focus rfl); (focus rfl); (focus exact Nat.le_of_ble_eq_true rfl); (focus exact seq2_size); (focus (simp [Value.oneCell']; done)); intro w2_ b2_ h2_; have L_2 : Blk w2_ (w.heap.size) 81 #[.int .i64 x1, .int .i64 x2, .int .i64 x3, .int .i64 x4, .int .i64 x5, .int .i64 x6, .int .i64 x7, .int .i64 x8, .int .i64 x9] := (L_1).put h2_ ne_L_A; have A_2 : Blk w2_ (qb1) 47 #[.int .i64 p0, .int .i64 q0] := b2_; have B_2 : Blk w2_ (qb2) 47 #[.int .i64 0, .int .i64 0] := (B_1).put h2_ (Ne.symm ne_A_B); have C_2 : Blk w2_ (qb3) 47 #[.int .i64 0, .int .i64 0] := (C_1).put h2_ (Ne.symm ne_A_C); have S_2 := pp (S_1) h2_ ge_A; clear L_1 A_1 B_1 C_1 S_1; clear h2_ b2_)
    | ((with_reducible refine store_sub (T := 47) (x := .tmp 5) (y := .tmp 14) (o := 0) (cs' := #[.int .i64 p1, .int .i64 q1]) (vs := #[.int .i64 p1, .int .i64 q1]) (show Blk _ (qb2) 47 #[.int .i64 0, .int .i64 0] from (B_2)) ?_ ?_ ?_ ?_ ?_ ?_ ?_); (focus rfl); (focus rfl); (focus rfl); (focus exact Nat.le_of_ble_eq_true rfl); (focus exact seq2_size); (focus (simp [Value.oneCell']; done)); intro w3_ b3_ h3_; have L_3 : Blk w3_ (w.heap.size) 81 #[.int .i64 x1, .int .i64 x2, .int .i64 x3, .int .i64 x4, .int .i64 x5, .int .i64 x6, .int .i64 x7, .int .i64 x8, .int .i64 x9] := (L_2).put h3_ ne_L_B; have A_3 : Blk w3_ (qb1) 47 #[.int .i64 p0, .int .i64 q0] := (A_2).put h3_ ne_A_B; have B_3 : Blk w3_ (qb2) 47 #[.int .i64 p1, .int .i64 q1] := b3_; have C_3 : Blk w3_ (qb3) 47 #[.int .i64 0, .int .i64 0] := (C_2).put h3_ (Ne.symm ne_B_C); have S_3 := pp (S_2) h3_ ge_B; clear L_2 A_2 B_2 C_2 S_2; clear h3_ b3_)
    | ((with_reducible refine store_sub (T := 47) (x := .tmp 6) (y := .tmp 17) (o := 0) (cs' := #[.int .i64 p2, .int .i64 q2]) (vs := #[.int .i64 p2, .int .i64 q2]) (show Blk _ (qb3) 47 #[.int .i64 0, .int .i64 0] from (C_3)) ?_ ?_ ?_ ?_ ?_ ?_ ?_); (focus rfl); (focus rfl); (focus rfl); (focus exact Nat.le_of_ble_eq_true rfl); (focus exact seq2_size); (focus (simp [Value.oneCell']; done)); intro w4_ b4_ h4_; have L_4 : Blk w4_ (w.heap.size) 81 #[.int .i64 x1, .int .i64 x2, .int .i64 x3, .int .i64 x4, .int .i64 x5, .int .i64 x6, .int .i64 x7, .int .i64 x8, .int .i64 x9] := (L_3).put h4_ ne_L_C; have A_4 : Blk w4_ (qb1) 47 #[.int .i64 p0, .int .i64 q0] := (A_3).put h4_ ne_A_C; have B_4 : Blk w4_ (qb2) 47 #[.int .i64 p1, .int .i64 q1] := (B_3).put h4_ ne_B_C; have C_4 : Blk w4_ (qb3) 47 #[.int .i64 p2, .int .i64 q2] := b4_; have S_4 := pp (S_3) h4_ ge_C; clear L_3 A_3 B_3 C_3 S_3; have Ac0 := A_4.cellAt 0 rfl; have Ac1 := A_4.cellAt 1 rfl; have Al := A_4.lt; have Bc0 := B_4.cellAt 0 rfl; have Bc1 := B_4.cellAt 1 rfl; have Bl := B_4.lt; have Cc0 := C_4.cellAt 0 rfl; have Cc1 := C_4.cellAt 1 rfl; have Cl := C_4.lt; clear h4_ b4_))
  have L_5 : Blk ((w4_.alloc (.cells #[.int .i64 (-1), .int .i64 (-1)] 47)).alloc (.cells #[.int .i64 0, .int .i64 1] 47)) (w.heap.size) 81 #[.int .i64 x1, .int .i64 x2, .int .i64 x3, .int .i64 x4, .int .i64 x5, .int .i64 x6, .int .i64 x7, .int .i64 x8, .int .i64 x9] := (L_4.alloc.alloc)
  have A_5 : Blk ((w4_.alloc (.cells #[.int .i64 (-1), .int .i64 (-1)] 47)).alloc (.cells #[.int .i64 0, .int .i64 1] 47)) (qb1) 47 #[.int .i64 p0, .int .i64 q0] := (A_4.alloc.alloc)
  have B_5 : Blk ((w4_.alloc (.cells #[.int .i64 (-1), .int .i64 (-1)] 47)).alloc (.cells #[.int .i64 0, .int .i64 1] 47)) (qb2) 47 #[.int .i64 p1, .int .i64 q1] := (B_4.alloc.alloc)
  have C_5 : Blk ((w4_.alloc (.cells #[.int .i64 (-1), .int .i64 (-1)] 47)).alloc (.cells #[.int .i64 0, .int .i64 1] 47)) (qb3) 47 #[.int .i64 p2, .int .i64 q2] := (C_4.alloc.alloc)
  have M_5 : Blk ((w4_.alloc (.cells #[.int .i64 (-1), .int .i64 (-1)] 47)).alloc (.cells #[.int .i64 0, .int .i64 1] 47)) (w4_.heap.size) 47 #[.int .i64 (-1), .int .i64 (-1)] := (Blk.newAt (by simp)).alloc
  have N_5 : Blk ((w4_.alloc (.cells #[.int .i64 (-1), .int .i64 (-1)] 47)).alloc (.cells #[.int .i64 0, .int .i64 1] 47)) (w4_.heap.size + 1) 47 #[.int .i64 0, .int .i64 1] := (Blk.newAt (by simp))
  have ne_A_M : qb1 ≠ w4_.heap.size := (by have := A_4.lt; omega)
  have ne_B_M : qb2 ≠ w4_.heap.size := (by have := B_4.lt; omega)
  have ne_C_M : qb3 ≠ w4_.heap.size := (by have := C_4.lt; omega)
  have ne_A_N : qb1 ≠ w4_.heap.size + 1 := (by have := A_4.lt; omega)
  have ne_B_N : qb2 ≠ w4_.heap.size + 1 := (by have := B_4.lt; omega)
  have ne_C_N : qb3 ≠ w4_.heap.size + 1 := (by have := C_4.lt; omega)
  have S_5 := (show Below w.heap.size w ((w4_.alloc (.cells #[.int .i64 (-1), .int .i64 (-1)] 47)).alloc (.cells #[.int .i64 0, .int .i64 1] 47)) from pa (pa (S_4)))
  clear L_4 A_4 B_4 C_4 S_4 Ac0 Ac1 Al Bc0 Bc1 Bl Cc0 Cc1 Cl
  generalize (w4_.alloc (.cells #[.int .i64 (-1), .int .i64 (-1)] 47)).alloc (.cells #[.int .i64 0, .int .i64 1] 47) = w5_ at *
  have Ac0 := A_5.cellAt 0 rfl
  have Ac1 := A_5.cellAt 1 rfl
  have Al := A_5.lt
  have Bc0 := B_5.cellAt 0 rfl
  have Bc1 := B_5.cellAt 1 rfl
  have Bl := B_5.lt
  have Cc0 := C_5.cellAt 0 rfl
  have Cc1 := C_5.cellAt 1 rfl
  have Cl := C_5.lt
  have Mc0 := M_5.cellAt 0 rfl
  have Mc1 := M_5.cellAt 1 rfl
  have Ml := M_5.lt
  have Nc0 := N_5.cellAt 0 rfl
  have Nc1 := N_5.cellAt 1 rfl
  have Nl := N_5.lt
  refine region_below 11 follows_mixed (by kernel_rfl) ?_
  intro C hC
  simp only [List.take_succ_cons, List.take_zero, List.drop_succ_cons, List.drop_zero]
  repeat (first
    | ((with_reducible refine quiet_plain rfl (fun K hK => ?_)); (focus (apply quiet_val; (focus (intro w' hw; obtain ⟨hcq, hfq⟩ := bcell ((hC.out _).1 hw); go_simp; (first | done | rfl | (with_reducible exact call_below hC hw (H1.out _)) | (with_reducible exact call_below hC hw (H2.out _))))); (simp only [Act.put, List.setIfInBounds_toArray, List.set_cons_succ, List.set_cons_zero]); (with_reducible refine hK _ ?_); clear hK K)))
    | ((with_reducible refine quiet_skip ?_ ?_); (focus (first | (simp [Region.wanted, yielded]; done) | (simp [Region.wanted, yielded, undef]; done))); simp only [Act.put, List.setIfInBounds_toArray, List.set_cons_succ, List.set_cons_zero])
    | ((with_reducible refine quiet_go ?_ (fun K hK => ?_)); (focus (first | (simp [Region.wanted, yielded]; done) | (simp [Region.wanted, yielded, undef]; done))); (focus (apply quiet_val; (focus (intro w' hw; obtain ⟨hcq, hfq⟩ := bcell ((hC.out _).1 hw); go_simp; (first | done | rfl | (with_reducible exact call_below hC hw (H1.out _)) | (with_reducible exact call_below hC hw (H2.out _))))); (simp only [Act.put, List.setIfInBounds_toArray, List.set_cons_succ, List.set_cons_zero]); (with_reducible refine hK _ ?_); clear hK K))))
  refine wpQuiet_nil ?_
  intro w1 hb1
  replace hb1 := (hC.out _).1 hb1
  clear hC C
  obtain ⟨hc1, hf1⟩ := bcell hb1
  have L_6 : Blk w1 (w.heap.size) 81 #[.int .i64 x1, .int .i64 x2, .int .i64 x3, .int .i64 x4, .int .i64 x5, .int .i64 x6, .int .i64 x7, .int .i64 x8, .int .i64 x9] := (L_5).past hb1
  have A_6 : Blk w1 (qb1) 47 #[.int .i64 p0, .int .i64 q0] := (A_5).past hb1
  have B_6 : Blk w1 (qb2) 47 #[.int .i64 p1, .int .i64 q1] := (B_5).past hb1
  have C_6 : Blk w1 (qb3) 47 #[.int .i64 p2, .int .i64 q2] := (C_5).past hb1
  have M_6 : Blk w1 (w4_.heap.size) 47 #[.int .i64 (-1), .int .i64 (-1)] := (M_5).past hb1
  have N_6 : Blk w1 (w4_.heap.size + 1) 47 #[.int .i64 0, .int .i64 1] := (N_5).past hb1
  have S_6 := pt (S_5) hb1
  clear L_5 A_5 B_5 C_5 M_5 N_5 S_5 Ac0 Ac1 Al Bc0 Bc1 Bl Cc0 Cc1 Cl Mc0 Mc1 Ml Nc0 Nc1 Nl
  have Ac0 := A_6.cellAt 0 rfl
  have Ac1 := A_6.cellAt 1 rfl
  have Al := A_6.lt
  have Bc0 := B_6.cellAt 0 rfl
  have Bc1 := B_6.cellAt 1 rfl
  have Bl := B_6.lt
  have Cc0 := C_6.cellAt 0 rfl
  have Cc1 := C_6.cellAt 1 rfl
  have Cl := C_6.lt
  have Mc0 := M_6.cellAt 0 rfl
  have Mc1 := M_6.cellAt 1 rfl
  have Ml := M_6.lt
  have Nc0 := N_6.cellAt 0 rfl
  have Nc1 := N_6.cellAt 1 rfl
  have Nl := N_6.lt
  clear hb1 hc1 hf1
  obtain ⟨w6_, rfl⟩ : ∃ v, v = w1 := ⟨_, rfl⟩
  go_wp2
  refine region_below 11 follows_mixed (by kernel_rfl) ?_
  intro C hC
  simp only [List.take_succ_cons, List.take_zero, List.drop_succ_cons, List.drop_zero]
  repeat (first
    | ((with_reducible refine quiet_plain rfl (fun K hK => ?_)); (focus (apply quiet_val; (focus (intro w' hw; obtain ⟨hcq, hfq⟩ := bcell ((hC.out _).1 hw); go_simp; (first | done | rfl | (with_reducible exact call_below hC hw (H3.out _)) | (with_reducible exact call_below hC hw (H4.out _))))); (simp only [Act.put, List.setIfInBounds_toArray, List.set_cons_succ, List.set_cons_zero]); (with_reducible refine hK _ ?_); clear hK K)))
    | ((with_reducible refine quiet_skip ?_ ?_); (focus (first | (simp [Region.wanted, yielded]; done) | (simp [Region.wanted, yielded, undef]; done))); simp only [Act.put, List.setIfInBounds_toArray, List.set_cons_succ, List.set_cons_zero])
    | ((with_reducible refine quiet_go ?_ (fun K hK => ?_)); (focus (first | (simp [Region.wanted, yielded]; done) | (simp [Region.wanted, yielded, undef]; done))); (focus (apply quiet_val; (focus (intro w' hw; obtain ⟨hcq, hfq⟩ := bcell ((hC.out _).1 hw); go_simp; (first | done | rfl | (with_reducible exact call_below hC hw (H3.out _)) | (with_reducible exact call_below hC hw (H4.out _))))); (simp only [Act.put, List.setIfInBounds_toArray, List.set_cons_succ, List.set_cons_zero]); (with_reducible refine hK _ ?_); clear hK K))))
  refine wpQuiet_nil ?_
  intro w1 hb1
  replace hb1 := (hC.out _).1 hb1
  clear hC C
  obtain ⟨hc1, hf1⟩ := bcell hb1
  have L_7 : Blk w1 (w.heap.size) 81 #[.int .i64 x1, .int .i64 x2, .int .i64 x3, .int .i64 x4, .int .i64 x5, .int .i64 x6, .int .i64 x7, .int .i64 x8, .int .i64 x9] := (L_6).past hb1
  have A_7 : Blk w1 (qb1) 47 #[.int .i64 p0, .int .i64 q0] := (A_6).past hb1
  have B_7 : Blk w1 (qb2) 47 #[.int .i64 p1, .int .i64 q1] := (B_6).past hb1
  have C_7 : Blk w1 (qb3) 47 #[.int .i64 p2, .int .i64 q2] := (C_6).past hb1
  have M_7 : Blk w1 (w4_.heap.size) 47 #[.int .i64 (-1), .int .i64 (-1)] := (M_6).past hb1
  have N_7 : Blk w1 (w4_.heap.size + 1) 47 #[.int .i64 0, .int .i64 1] := (N_6).past hb1
  have S_7 := pt (S_6) hb1
  clear L_6 A_6 B_6 C_6 M_6 N_6 S_6 Ac0 Ac1 Al Bc0 Bc1 Bl Cc0 Cc1 Cl Mc0 Mc1 Ml Nc0 Nc1 Nl
  clear hb1 hc1 hf1
  obtain ⟨w7_, rfl⟩ : ∃ v, v = w1 := ⟨_, rfl⟩
  go_wp2
  go_ret2
  exact ⟨rfl, by repeat (first | exact S_7 | refine pa ?_)⟩

set_option maxHeartbeats 8000000 in
set_option maxRecDepth 100000 in
theorem refSeq_f_f (x1 x2 x3 x4 x5 x6 x7 x8 x9 p0 q0 p1 q1 p2 q2 a1 a2 b1 b2 c1 c2 d1 d2 : Int)
    (ha : ∀ w, Calls Tryz.prog 59 #[.agg #[.int .i64 x1, .int .i64 x2, .int .i64 x3]] w fun e w' => e = .returned (.agg #[.int .i64 p0, .int .i64 q0]) ∧ Below w.heap.size w w')
    (hb : ∀ w, Calls Tryz.prog 59 #[.agg #[.int .i64 x4, .int .i64 x5, .int .i64 x6]] w fun e w' => e = .returned (.agg #[.int .i64 p1, .int .i64 q1]) ∧ Below w.heap.size w w')
    (hc : ∀ w, Calls Tryz.prog 59 #[.agg #[.int .i64 x7, .int .i64 x8, .int .i64 x9]] w fun e w' => e = .returned (.agg #[.int .i64 p2, .int .i64 q2]) ∧ Below w.heap.size w w')
    (h1 : ∀ w, Calls Tryz.prog 155 #[.agg #[.int .i64 p0, .int .i64 q0], .agg #[.int .i64 (-1), .int .i64 (-1)]] w fun e w' => e = .returned (.agg #[.int .i64 a1, .int .i64 a2]) ∧ Below w.heap.size w w')
    (h2 : ∀ w, Calls Tryz.prog 155 #[.agg #[.int .i64 p1, .int .i64 q1], .agg #[.int .i64 (-1), .int .i64 (-1)]] w fun e w' => e = .returned (.agg #[.int .i64 b1, .int .i64 b2]) ∧ Below w.heap.size w w')
    (h3 : ∀ w, Calls Tryz.prog 155 #[.agg #[.int .i64 p0, .int .i64 q0], .agg #[.int .i64 0, .int .i64 1]] w fun e w' => e = .returned (.agg #[.int .i64 c1, .int .i64 c2]) ∧ Below w.heap.size w w')
    (h4 : ∀ w, Calls Tryz.prog 155 #[.agg #[.int .i64 p1, .int .i64 q1], .agg #[.int .i64 0, .int .i64 1]] w fun e w' => e = .returned (.agg #[.int .i64 d1, .int .i64 d2]) ∧ Below w.heap.size w w')
    (hz : phB p0 q0 0 0 = false) (hA : phB p1 q1 a1 a2 = false) (hC : phB p1 q1 c1 c2 = false) (w : World) :
    Calls Tryz.prog 129 #[.agg #[.int .i64 x1, .int .i64 x2, .int .i64 x3, .int .i64 x4, .int .i64 x5, .int .i64 x6, .int .i64 x7, .int .i64 x8, .int .i64 x9]] w fun e w' => e = .returned (.tuple #[.int .i64 0, .int .i64 12]) ∧ Below w.heap.size w w' := by
  have HA := Lib.hid ha
  have HB := Lib.hid hb
  have HC := Lib.hid hc
  have H1 := Lib.hid h1
  have H2 := Lib.hid h2
  have H3 := Lib.hid h3
  have H4 := Lib.hid h4
  clear ha hb hc h1 h2 h3 h4
  go_enter Tryz.func129, Tryz.ntmps129
  go_wp2
  refine region_alloc3 (zc1 := (.cells #[.int .i64 0, .int .i64 0] 47)) (zc2 := (.cells #[.int .i64 0, .int .i64 0] 47)) (zc3 := (.cells #[.int .i64 0, .int .i64 0] 47)) 9 follows_mixed (by kernel_rfl) rfl rfl rfl (fun _ _ => by kernel_rfl) (fun _ _ => by kernel_rfl) (fun _ _ => by kernel_rfl) ?_
  simp only [List.take_succ_cons, List.take_zero, List.drop_succ_cons, List.drop_zero]
  repeat (first
    | ((with_reducible apply grow_plain); (focus rfl); (focus (intro w' hw; obtain ⟨hcq, hfq⟩ := bcell hw; go_simp; (first | done | rfl | (with_reducible exact HA.out _) | (with_reducible exact HB.out _) | (with_reducible exact HC.out _)))); (simp only [Act.put, List.setIfInBounds_toArray, List.set_cons_succ, List.set_cons_zero]))
    | ((with_reducible apply grow_skip); (focus (first | (simp [Region.wanted, yielded]; done) | (simp [Region.wanted, yielded, undef]; done))); simp only [Act.put, List.setIfInBounds_toArray, List.set_cons_succ, List.set_cons_zero])
    | ((with_reducible apply grow_go); (focus (first | (simp [Region.wanted, yielded]; done) | (simp [Region.wanted, yielded, undef]; done))); (focus (intro w' hw; obtain ⟨hcq, hfq⟩ := bcell hw; go_simp; (first | done | rfl | (with_reducible exact HA.out _) | (with_reducible exact HB.out _) | (with_reducible exact HC.out _)))); (simp only [Act.put, List.setIfInBounds_toArray, List.set_cons_succ, List.set_cons_zero])))
  refine grow_nil ?_
  intro qb1 qb2 qb3 w1 hb1 hn1 hn2 hn3 hq12 hq13 hq23
  simp only [Act.put, List.setIfInBounds_toArray, List.set_cons_succ, List.set_cons_zero]
  have L_1 : Blk w1 (w.heap.size) 81 #[.int .i64 x1, .int .i64 x2, .int .i64 x3, .int .i64 x4, .int .i64 x5, .int .i64 x6, .int .i64 x7, .int .i64 x8, .int .i64 x9] := (Blk.newAt (by simp)).past hb1
  have ne_L_A : w.heap.size ≠ qb1 := by have := hn1.ge; simp at this; omega
  have ne_L_B : w.heap.size ≠ qb2 := by have := hn2.ge; simp at this; omega
  have ne_L_C : w.heap.size ≠ qb3 := by have := hn3.ge; simp at this; omega
  have A_1 : Blk w1 qb1 47 #[.int .i64 0, .int .i64 0] := hn1.at_
  have ge_A : w.heap.size ≤ qb1 := by have := hn1.ge; simp at this; omega
  have B_1 : Blk w1 qb2 47 #[.int .i64 0, .int .i64 0] := hn2.at_
  have ge_B : w.heap.size ≤ qb2 := by have := hn2.ge; simp at this; omega
  have C_1 : Blk w1 qb3 47 #[.int .i64 0, .int .i64 0] := hn3.at_
  have ge_C : w.heap.size ≤ qb3 := by have := hn3.ge; simp at this; omega
  have ne_A_B := hq12
  have ne_A_C := hq13
  have ne_B_C := hq23
  have S_1 := pt (pa (pr)) hb1
  clear hb1 hn1 hn2 hn3 hq12 hq13 hq23
  obtain ⟨w1_, rfl⟩ : ∃ v, v = w1 := ⟨_, rfl⟩
  go_wp2_with (first
    | ((with_reducible refine store_sub (T := 47) (x := .tmp 4) (y := .tmp 11) (o := 0) (cs' := #[.int .i64 p0, .int .i64 q0]) (vs := #[.int .i64 p0, .int .i64 q0]) (show Blk _ (qb1) 47 #[.int .i64 0, .int .i64 0] from (A_1)) ?_ ?_ ?_ ?_ ?_ ?_ ?_); (focus rfl); (focus rfl); (focus rfl); (focus exact Nat.le_of_ble_eq_true rfl); (focus exact seq2_size); (focus (simp [Value.oneCell']; done)); intro w2_ b2_ h2_; have L_2 : Blk w2_ (w.heap.size) 81 #[.int .i64 x1, .int .i64 x2, .int .i64 x3, .int .i64 x4, .int .i64 x5, .int .i64 x6, .int .i64 x7, .int .i64 x8, .int .i64 x9] := (L_1).put h2_ ne_L_A; have A_2 : Blk w2_ (qb1) 47 #[.int .i64 p0, .int .i64 q0] := b2_; have B_2 : Blk w2_ (qb2) 47 #[.int .i64 0, .int .i64 0] := (B_1).put h2_ (Ne.symm ne_A_B); have C_2 : Blk w2_ (qb3) 47 #[.int .i64 0, .int .i64 0] := (C_1).put h2_ (Ne.symm ne_A_C); have S_2 := pp (S_1) h2_ ge_A; clear L_1 A_1 B_1 C_1 S_1; clear h2_ b2_)
    | ((with_reducible refine store_sub (T := 47) (x := .tmp 5) (y := .tmp 14) (o := 0) (cs' := #[.int .i64 p1, .int .i64 q1]) (vs := #[.int .i64 p1, .int .i64 q1]) (show Blk _ (qb2) 47 #[.int .i64 0, .int .i64 0] from (B_2)) ?_ ?_ ?_ ?_ ?_ ?_ ?_); (focus rfl); (focus rfl); (focus rfl); (focus exact Nat.le_of_ble_eq_true rfl); (focus exact seq2_size); (focus (simp [Value.oneCell']; done)); intro w3_ b3_ h3_; have L_3 : Blk w3_ (w.heap.size) 81 #[.int .i64 x1, .int .i64 x2, .int .i64 x3, .int .i64 x4, .int .i64 x5, .int .i64 x6, .int .i64 x7, .int .i64 x8, .int .i64 x9] := (L_2).put h3_ ne_L_B; have A_3 : Blk w3_ (qb1) 47 #[.int .i64 p0, .int .i64 q0] := (A_2).put h3_ ne_A_B; have B_3 : Blk w3_ (qb2) 47 #[.int .i64 p1, .int .i64 q1] := b3_; have C_3 : Blk w3_ (qb3) 47 #[.int .i64 0, .int .i64 0] := (C_2).put h3_ (Ne.symm ne_B_C); have S_3 := pp (S_2) h3_ ge_B; clear L_2 A_2 B_2 C_2 S_2; clear h3_ b3_)
    | ((with_reducible refine store_sub (T := 47) (x := .tmp 6) (y := .tmp 17) (o := 0) (cs' := #[.int .i64 p2, .int .i64 q2]) (vs := #[.int .i64 p2, .int .i64 q2]) (show Blk _ (qb3) 47 #[.int .i64 0, .int .i64 0] from (C_3)) ?_ ?_ ?_ ?_ ?_ ?_ ?_); (focus rfl); (focus rfl); (focus rfl); (focus exact Nat.le_of_ble_eq_true rfl); (focus exact seq2_size); (focus (simp [Value.oneCell']; done)); intro w4_ b4_ h4_; have L_4 : Blk w4_ (w.heap.size) 81 #[.int .i64 x1, .int .i64 x2, .int .i64 x3, .int .i64 x4, .int .i64 x5, .int .i64 x6, .int .i64 x7, .int .i64 x8, .int .i64 x9] := (L_3).put h4_ ne_L_C; have A_4 : Blk w4_ (qb1) 47 #[.int .i64 p0, .int .i64 q0] := (A_3).put h4_ ne_A_C; have B_4 : Blk w4_ (qb2) 47 #[.int .i64 p1, .int .i64 q1] := (B_3).put h4_ ne_B_C; have C_4 : Blk w4_ (qb3) 47 #[.int .i64 p2, .int .i64 q2] := b4_; have S_4 := pp (S_3) h4_ ge_C; clear L_3 A_3 B_3 C_3 S_3; have Ac0 := A_4.cellAt 0 rfl; have Ac1 := A_4.cellAt 1 rfl; have Al := A_4.lt; have Bc0 := B_4.cellAt 0 rfl; have Bc1 := B_4.cellAt 1 rfl; have Bl := B_4.lt; have Cc0 := C_4.cellAt 0 rfl; have Cc1 := C_4.cellAt 1 rfl; have Cl := C_4.lt; clear h4_ b4_))
  have L_5 : Blk ((w4_.alloc (.cells #[.int .i64 (-1), .int .i64 (-1)] 47)).alloc (.cells #[.int .i64 0, .int .i64 1] 47)) (w.heap.size) 81 #[.int .i64 x1, .int .i64 x2, .int .i64 x3, .int .i64 x4, .int .i64 x5, .int .i64 x6, .int .i64 x7, .int .i64 x8, .int .i64 x9] := (L_4.alloc.alloc)
  have A_5 : Blk ((w4_.alloc (.cells #[.int .i64 (-1), .int .i64 (-1)] 47)).alloc (.cells #[.int .i64 0, .int .i64 1] 47)) (qb1) 47 #[.int .i64 p0, .int .i64 q0] := (A_4.alloc.alloc)
  have B_5 : Blk ((w4_.alloc (.cells #[.int .i64 (-1), .int .i64 (-1)] 47)).alloc (.cells #[.int .i64 0, .int .i64 1] 47)) (qb2) 47 #[.int .i64 p1, .int .i64 q1] := (B_4.alloc.alloc)
  have C_5 : Blk ((w4_.alloc (.cells #[.int .i64 (-1), .int .i64 (-1)] 47)).alloc (.cells #[.int .i64 0, .int .i64 1] 47)) (qb3) 47 #[.int .i64 p2, .int .i64 q2] := (C_4.alloc.alloc)
  have M_5 : Blk ((w4_.alloc (.cells #[.int .i64 (-1), .int .i64 (-1)] 47)).alloc (.cells #[.int .i64 0, .int .i64 1] 47)) (w4_.heap.size) 47 #[.int .i64 (-1), .int .i64 (-1)] := (Blk.newAt (by simp)).alloc
  have N_5 : Blk ((w4_.alloc (.cells #[.int .i64 (-1), .int .i64 (-1)] 47)).alloc (.cells #[.int .i64 0, .int .i64 1] 47)) (w4_.heap.size + 1) 47 #[.int .i64 0, .int .i64 1] := (Blk.newAt (by simp))
  have ne_A_M : qb1 ≠ w4_.heap.size := (by have := A_4.lt; omega)
  have ne_B_M : qb2 ≠ w4_.heap.size := (by have := B_4.lt; omega)
  have ne_C_M : qb3 ≠ w4_.heap.size := (by have := C_4.lt; omega)
  have ne_A_N : qb1 ≠ w4_.heap.size + 1 := (by have := A_4.lt; omega)
  have ne_B_N : qb2 ≠ w4_.heap.size + 1 := (by have := B_4.lt; omega)
  have ne_C_N : qb3 ≠ w4_.heap.size + 1 := (by have := C_4.lt; omega)
  have S_5 := (show Below w.heap.size w ((w4_.alloc (.cells #[.int .i64 (-1), .int .i64 (-1)] 47)).alloc (.cells #[.int .i64 0, .int .i64 1] 47)) from pa (pa (S_4)))
  clear L_4 A_4 B_4 C_4 S_4 Ac0 Ac1 Al Bc0 Bc1 Bl Cc0 Cc1 Cl
  generalize (w4_.alloc (.cells #[.int .i64 (-1), .int .i64 (-1)] 47)).alloc (.cells #[.int .i64 0, .int .i64 1] 47) = w5_ at *
  have Ac0 := A_5.cellAt 0 rfl
  have Ac1 := A_5.cellAt 1 rfl
  have Al := A_5.lt
  have Bc0 := B_5.cellAt 0 rfl
  have Bc1 := B_5.cellAt 1 rfl
  have Bl := B_5.lt
  have Cc0 := C_5.cellAt 0 rfl
  have Cc1 := C_5.cellAt 1 rfl
  have Cl := C_5.lt
  have Mc0 := M_5.cellAt 0 rfl
  have Mc1 := M_5.cellAt 1 rfl
  have Ml := M_5.lt
  have Nc0 := N_5.cellAt 0 rfl
  have Nc1 := N_5.cellAt 1 rfl
  have Nl := N_5.lt
  refine region_below 11 follows_mixed (by kernel_rfl) ?_
  intro C hC
  simp only [List.take_succ_cons, List.take_zero, List.drop_succ_cons, List.drop_zero]
  repeat (first
    | ((with_reducible refine quiet_plain rfl (fun K hK => ?_)); (focus (apply quiet_val; (focus (intro w' hw; obtain ⟨hcq, hfq⟩ := bcell ((hC.out _).1 hw); go_simp; (first | done | rfl | (with_reducible exact call_below hC hw (H1.out _)) | (with_reducible exact call_below hC hw (H2.out _))))); (simp only [Act.put, List.setIfInBounds_toArray, List.set_cons_succ, List.set_cons_zero]); (with_reducible refine hK _ ?_); clear hK K)))
    | ((with_reducible refine quiet_skip ?_ ?_); (focus (first | (simp [Region.wanted, yielded]; done) | (simp [Region.wanted, yielded, undef]; done))); simp only [Act.put, List.setIfInBounds_toArray, List.set_cons_succ, List.set_cons_zero])
    | ((with_reducible refine quiet_go ?_ (fun K hK => ?_)); (focus (first | (simp [Region.wanted, yielded]; done) | (simp [Region.wanted, yielded, undef]; done))); (focus (apply quiet_val; (focus (intro w' hw; obtain ⟨hcq, hfq⟩ := bcell ((hC.out _).1 hw); go_simp; (first | done | rfl | (with_reducible exact call_below hC hw (H1.out _)) | (with_reducible exact call_below hC hw (H2.out _))))); (simp only [Act.put, List.setIfInBounds_toArray, List.set_cons_succ, List.set_cons_zero]); (with_reducible refine hK _ ?_); clear hK K))))
  refine wpQuiet_nil ?_
  intro w1 hb1
  replace hb1 := (hC.out _).1 hb1
  clear hC C
  obtain ⟨hc1, hf1⟩ := bcell hb1
  have L_6 : Blk w1 (w.heap.size) 81 #[.int .i64 x1, .int .i64 x2, .int .i64 x3, .int .i64 x4, .int .i64 x5, .int .i64 x6, .int .i64 x7, .int .i64 x8, .int .i64 x9] := (L_5).past hb1
  have A_6 : Blk w1 (qb1) 47 #[.int .i64 p0, .int .i64 q0] := (A_5).past hb1
  have B_6 : Blk w1 (qb2) 47 #[.int .i64 p1, .int .i64 q1] := (B_5).past hb1
  have C_6 : Blk w1 (qb3) 47 #[.int .i64 p2, .int .i64 q2] := (C_5).past hb1
  have M_6 : Blk w1 (w4_.heap.size) 47 #[.int .i64 (-1), .int .i64 (-1)] := (M_5).past hb1
  have N_6 : Blk w1 (w4_.heap.size + 1) 47 #[.int .i64 0, .int .i64 1] := (N_5).past hb1
  have S_6 := pt (S_5) hb1
  clear L_5 A_5 B_5 C_5 M_5 N_5 S_5 Ac0 Ac1 Al Bc0 Bc1 Bl Cc0 Cc1 Cl Mc0 Mc1 Ml Nc0 Nc1 Nl
  have Ac0 := A_6.cellAt 0 rfl
  have Ac1 := A_6.cellAt 1 rfl
  have Al := A_6.lt
  have Bc0 := B_6.cellAt 0 rfl
  have Bc1 := B_6.cellAt 1 rfl
  have Bl := B_6.lt
  have Cc0 := C_6.cellAt 0 rfl
  have Cc1 := C_6.cellAt 1 rfl
  have Cl := C_6.lt
  have Mc0 := M_6.cellAt 0 rfl
  have Mc1 := M_6.cellAt 1 rfl
  have Ml := M_6.lt
  have Nc0 := N_6.cellAt 0 rfl
  have Nc1 := N_6.cellAt 1 rfl
  have Nl := N_6.lt
  clear hb1 hc1 hf1
  obtain ⟨w6_, rfl⟩ : ∃ v, v = w1 := ⟨_, rfl⟩
  go_wp2
  refine region_below 11 follows_mixed (by kernel_rfl) ?_
  intro C hC
  simp only [List.take_succ_cons, List.take_zero, List.drop_succ_cons, List.drop_zero]
  repeat (first
    | ((with_reducible refine quiet_plain rfl (fun K hK => ?_)); (focus (apply quiet_val; (focus (intro w' hw; obtain ⟨hcq, hfq⟩ := bcell ((hC.out _).1 hw); go_simp; (first | done | rfl | (with_reducible exact call_below hC hw (H3.out _)) | (with_reducible exact call_below hC hw (H4.out _))))); (simp only [Act.put, List.setIfInBounds_toArray, List.set_cons_succ, List.set_cons_zero]); (with_reducible refine hK _ ?_); clear hK K)))
    | ((with_reducible refine quiet_skip ?_ ?_); (focus (first | (simp [Region.wanted, yielded]; done) | (simp [Region.wanted, yielded, undef]; done))); simp only [Act.put, List.setIfInBounds_toArray, List.set_cons_succ, List.set_cons_zero])
    | ((with_reducible refine quiet_go ?_ (fun K hK => ?_)); (focus (first | (simp [Region.wanted, yielded]; done) | (simp [Region.wanted, yielded, undef]; done))); (focus (apply quiet_val; (focus (intro w' hw; obtain ⟨hcq, hfq⟩ := bcell ((hC.out _).1 hw); go_simp; (first | done | rfl | (with_reducible exact call_below hC hw (H3.out _)) | (with_reducible exact call_below hC hw (H4.out _))))); (simp only [Act.put, List.setIfInBounds_toArray, List.set_cons_succ, List.set_cons_zero]); (with_reducible refine hK _ ?_); clear hK K))))
  refine wpQuiet_nil ?_
  intro w1 hb1
  replace hb1 := (hC.out _).1 hb1
  clear hC C
  obtain ⟨hc1, hf1⟩ := bcell hb1
  have L_7 : Blk w1 (w.heap.size) 81 #[.int .i64 x1, .int .i64 x2, .int .i64 x3, .int .i64 x4, .int .i64 x5, .int .i64 x6, .int .i64 x7, .int .i64 x8, .int .i64 x9] := (L_6).past hb1
  have A_7 : Blk w1 (qb1) 47 #[.int .i64 p0, .int .i64 q0] := (A_6).past hb1
  have B_7 : Blk w1 (qb2) 47 #[.int .i64 p1, .int .i64 q1] := (B_6).past hb1
  have C_7 : Blk w1 (qb3) 47 #[.int .i64 p2, .int .i64 q2] := (C_6).past hb1
  have M_7 : Blk w1 (w4_.heap.size) 47 #[.int .i64 (-1), .int .i64 (-1)] := (M_6).past hb1
  have N_7 : Blk w1 (w4_.heap.size + 1) 47 #[.int .i64 0, .int .i64 1] := (N_6).past hb1
  have S_7 := pt (S_6) hb1
  clear L_6 A_6 B_6 C_6 M_6 N_6 S_6 Ac0 Ac1 Al Bc0 Bc1 Bl Cc0 Cc1 Cl Mc0 Mc1 Ml Nc0 Nc1 Nl
  clear hb1 hc1 hf1
  obtain ⟨w7_, rfl⟩ : ∃ v, v = w1 := ⟨_, rfl⟩
  go_wp2
  go_ret2
  exact ⟨rfl, by repeat (first | exact S_7 | refine pa ?_)⟩

end Go.Proofs.YtnhcamokcggnkaaGreatDoor
end

section
namespace Go.Proofs.YtnhcamokcggnkaaGreatDoor
open Go.RowKit
attribute [local go_sem ↓] Go.wp_at_zero Go.wp_at_succ

theorem sm_zero : Sm 1000000 0 ∧ Sm 1000000 1 ∧ Sm 1000000 (-1) := by unfold Sm; decide
theorem refSequence_any (x1 x2 x3 x4 x5 x6 x7 x8 x9 : Int) (he : lineE x1 x2 x3 x4 x5 x6 x7 x8 x9 = 0) (w : World) :
    Calls Tryz.prog 129 #[.agg #[.int .i64 x1, .int .i64 x2, .int .i64 x3, .int .i64 x4, .int .i64 x5, .int .i64 x6, .int .i64 x7, .int .i64 x8, .int .i64 x9]] w fun e w' => e = .returned (.tuple #[.int .i64 (if phB (x1 - x2) (x3 - x2) 0 0 = true then 0 else seqV ⟨⟨x1, x2, x3⟩, ⟨x4, x5, x6⟩, ⟨x7, x8, x9⟩⟩), .int .i64 (if phB (x1 - x2) (x3 - x2) 0 0 = true then 11 else unlessV (seqV ⟨⟨x1, x2, x3⟩, ⟨x4, x5, x6⟩, ⟨x7, x8, x9⟩⟩ != 0) 12)]) ∧ Below w.heap.size w w' := by
  obtain ⟨h1, h2, h3, h4, h5, h6, h7, h8, h9⟩ := lineE_sm he
  have sp : ∀ a b, Sm 10000 a → Sm 10000 b → Sm 1000000 (a - b) := fun a b ha hb => by unfold Sm at *; omega
  have fa := refPhasor3_any x1 x2 x3 h1 h2 h3
  have fb := refPhasor3_any x4 x5 x6 h4 h5 h6
  have fc := refPhasor3_any x7 x8 x9 h7 h8 h9
  have m1 := refProduct_any (x1 - x2) (x3 - x2) (-1) (-1) (sp _ _ h1 h2) (sp _ _ h3 h2) sm_zero.2.2 sm_zero.2.2
  have m2 := refProduct_any (x4 - x5) (x6 - x5) (-1) (-1) (sp _ _ h4 h5) (sp _ _ h6 h5) sm_zero.2.2 sm_zero.2.2
  have m3 := refProduct_any (x1 - x2) (x3 - x2) 0 1 (sp _ _ h1 h2) (sp _ _ h3 h2) sm_zero.1 sm_zero.2.1
  have m4 := refProduct_any (x4 - x5) (x6 - x5) 0 1 (sp _ _ h4 h5) (sp _ _ h6 h5) sm_zero.1 sm_zero.2.1
  have e1 : ∀ a b : Int, (mulP a b (-1) (-1), mulQ a b (-1) (-1)) = turn2 (a, b) := fun a b => by simp only [mulP, mulQ, turn2, turn1, Prod.mk.injEq]; omega
  have e2 : ∀ a b : Int, (mulP a b 0 1, mulQ a b 0 1) = turn1 (a, b) := fun a b => by simp only [mulP, mulQ, turn1, Prod.mk.injEq]; omega
  have hq : seqV ⟨⟨x1, x2, x3⟩, ⟨x4, x5, x6⟩, ⟨x7, x8, x9⟩⟩ = seqF (phB (x4 - x5) (x6 - x5) (mulP (x1 - x2) (x3 - x2) (-1) (-1)) (mulQ (x1 - x2) (x3 - x2) (-1) (-1))) (phB (x7 - x8) (x9 - x8) (mulP (x4 - x5) (x6 - x5) (-1) (-1)) (mulQ (x4 - x5) (x6 - x5) (-1) (-1)))
      (phB (x4 - x5) (x6 - x5) (mulP (x1 - x2) (x3 - x2) 0 1) (mulQ (x1 - x2) (x3 - x2) 0 1)) (phB (x7 - x8) (x9 - x8) (mulP (x4 - x5) (x6 - x5) 0 1) (mulQ (x4 - x5) (x6 - x5) 0 1)) := by
    unfold seqV seqF phV phP phQ
    rw [← e1, ← e1, ← e2, ← e2]
    simp only [Bool.and_eq_true, phB_iff]
  rw [hq]
  cases hz : phB (x1 - x2) (x3 - x2) 0 0
  · rw [if_neg (by decide), if_neg (by decide)]
    cases hA : phB (x4 - x5) (x6 - x5) (mulP (x1 - x2) (x3 - x2) (-1) (-1)) (mulQ (x1 - x2) (x3 - x2) (-1) (-1)) <;>
    cases hB : phB (x7 - x8) (x9 - x8) (mulP (x4 - x5) (x6 - x5) (-1) (-1)) (mulQ (x4 - x5) (x6 - x5) (-1) (-1)) <;>
    cases hC : phB (x4 - x5) (x6 - x5) (mulP (x1 - x2) (x3 - x2) 0 1) (mulQ (x1 - x2) (x3 - x2) 0 1) <;>
    cases hD : phB (x7 - x8) (x9 - x8) (mulP (x4 - x5) (x6 - x5) 0 1) (mulQ (x4 - x5) (x6 - x5) 0 1) <;>
    first
      | exact refSeq_one _ _ _ _ _ _ _ _ _ _ _ _ _ _ _ _ _ _ _ _ _ _ _ fa fb fc m1 m2 m3 m4 hz hA hB w
      | exact refSeq_tf_tt _ _ _ _ _ _ _ _ _ _ _ _ _ _ _ _ _ _ _ _ _ _ _ fa fb fc m1 m2 m3 m4 hz hA hB hC hD w
      | exact refSeq_tf_tf _ _ _ _ _ _ _ _ _ _ _ _ _ _ _ _ _ _ _ _ _ _ _ fa fb fc m1 m2 m3 m4 hz hA hB hC hD w
      | exact refSeq_tf_f _ _ _ _ _ _ _ _ _ _ _ _ _ _ _ _ _ _ _ _ _ _ _ fa fb fc m1 m2 m3 m4 hz hA hB hC w
      | exact refSeq_f_tt _ _ _ _ _ _ _ _ _ _ _ _ _ _ _ _ _ _ _ _ _ _ _ fa fb fc m1 m2 m3 m4 hz hA hC hD w
      | exact refSeq_f_tf _ _ _ _ _ _ _ _ _ _ _ _ _ _ _ _ _ _ _ _ _ _ _ fa fb fc m1 m2 m3 m4 hz hA hC hD w
      | exact refSeq_f_f _ _ _ _ _ _ _ _ _ _ _ _ _ _ _ _ _ _ _ _ _ _ _ fa fb fc m1 m2 m3 m4 hz hA hC w
  · rw [if_pos rfl, if_pos rfl]
    exact refSeq_zero _ _ _ _ _ _ _ _ _ _ _ _ _ _ _ _ _ _ _ _ _ _ _ fa fb fc m1 m2 m3 m4 hz w

set_option maxHeartbeats 4000000 in
set_option maxRecDepth 100000 in
theorem voltage_01 (x1 x2 x3 x4 x5 x6 x7 x8 x9 : Int) (w : World)
    (n1 : IntKind.i64.wrap (-x1) = -x1)
    (n2 : IntKind.i64.wrap (-x2) = -x2)
    (n3 : IntKind.i64.wrap (-x3) = -x3)
    (n4 : IntKind.i64.wrap (-x4) = -x4)
    (n5 : IntKind.i64.wrap (-x5) = -x5)
    (n6 : IntKind.i64.wrap (-x6) = -x6)
    (n7 : IntKind.i64.wrap (-x7) = -x7)
    (n8 : IntKind.i64.wrap (-x8) = -x8)
    (n9 : IntKind.i64.wrap (-x9) = -x9)
    : Calls Tryz.prog 154 #[.agg #[.int .i64 x1, .int .i64 x2, .int .i64 x3, .int .i64 x4, .int .i64 x5, .int .i64 x6, .int .i64 x7, .int .i64 x8, .int .i64 x9], .int .i64 0, .int .i64 1] w fun e w' => e = .returned (.agg #[.int .i64 x1, .int .i64 x2, .int .i64 x3]) ∧ Below w.heap.size w w' := by
  have z1 : IntKind.i64.wrap 1 = 1 := by decide
  have z2 : IntKind.i64.wrap 2 = 2 := by decide
  have z3 : IntKind.i64.wrap 3 = 3 := by decide
  go_enter Tryz.func154, Tryz.ntmps154
  go_wp2
  exact bodyPost_ret (v := .agg #[.int .i64 x1, .int .i64 x2, .int .i64 x3]) (by simp [results, Tryz.results154, go_sem]) rfl ⟨rfl, by repeat (first | exact pr | refine pa ?_)⟩

set_option maxHeartbeats 4000000 in
set_option maxRecDepth 100000 in
theorem voltage_02 (x1 x2 x3 x4 x5 x6 x7 x8 x9 : Int) (w : World)
    (n1 : IntKind.i64.wrap (-x1) = -x1)
    (n2 : IntKind.i64.wrap (-x2) = -x2)
    (n3 : IntKind.i64.wrap (-x3) = -x3)
    (n4 : IntKind.i64.wrap (-x4) = -x4)
    (n5 : IntKind.i64.wrap (-x5) = -x5)
    (n6 : IntKind.i64.wrap (-x6) = -x6)
    (n7 : IntKind.i64.wrap (-x7) = -x7)
    (n8 : IntKind.i64.wrap (-x8) = -x8)
    (n9 : IntKind.i64.wrap (-x9) = -x9)
    : Calls Tryz.prog 154 #[.agg #[.int .i64 x1, .int .i64 x2, .int .i64 x3, .int .i64 x4, .int .i64 x5, .int .i64 x6, .int .i64 x7, .int .i64 x8, .int .i64 x9], .int .i64 0, .int .i64 2] w fun e w' => e = .returned (.agg #[.int .i64 (-x7), .int .i64 (-x8), .int .i64 (-x9)]) ∧ Below w.heap.size w w' := by
  have z1 : IntKind.i64.wrap 1 = 1 := by decide
  have z2 : IntKind.i64.wrap 2 = 2 := by decide
  have z3 : IntKind.i64.wrap 3 = 3 := by decide
  go_enter Tryz.func154, Tryz.ntmps154
  go_wp2
  refine region_below 16 follows_mixed (by kernel_rfl) ?_
  intro C hC
  simp only [List.take_succ_cons, List.take_zero, List.drop_succ_cons, List.drop_zero]
  repeat (first
    | ((with_reducible refine quiet_plain rfl (fun K hK => ?_)); (focus (apply quiet_val; (focus (intro w' hw; obtain ⟨hcq, hfq⟩ := bcell ((hC.out _).1 hw); go_simp; (first | done | rfl))); (simp only [Act.put, List.setIfInBounds_toArray, List.set_cons_succ, List.set_cons_zero]); (with_reducible refine hK _ ?_); clear hK K)))
    | ((with_reducible refine quiet_skip ?_ ?_); (focus (first | (simp [Region.wanted, yielded]; done) | (simp [Region.wanted, yielded, undef]; done))); simp only [Act.put, List.setIfInBounds_toArray, List.set_cons_succ, List.set_cons_zero])
    | ((with_reducible refine quiet_go ?_ (fun K hK => ?_)); (focus (first | (simp [Region.wanted, yielded]; done) | (simp [Region.wanted, yielded, undef]; done))); (focus (apply quiet_val; (focus (intro w' hw; obtain ⟨hcq, hfq⟩ := bcell ((hC.out _).1 hw); go_simp; (first | done | rfl))); (simp only [Act.put, List.setIfInBounds_toArray, List.set_cons_succ, List.set_cons_zero]); (with_reducible refine hK _ ?_); clear hK K))))
  refine wpQuiet_nil ?_
  intro w1 hb1
  replace hb1 := (hC.out _).1 hb1
  clear hC C
  obtain ⟨hc1, hf1⟩ := bcell hb1
  have R2 : Blk w1 (w.heap.size + 1) 68 #[.int .i64 0, .int .i64 0, .int .i64 0] := (Blk.newAt (by simp)).past hb1
  have S2 := pt (pa (pa pr)) hb1
  clear hc1 hf1 hb1
  go_wp2_with ((with_reducible refine store_blk (T := 68) (x := .tmp 6) (y := .tmp 30) (vs := #[.int .i64 (-x7), .int .i64 (-x8), .int .i64 (-x9)]) R2 ?_ ?_ ?_ ?_ ?_ ?_); (focus rfl); (focus exact three_size); (focus (simp [Value.oneCell']; done)); (focus rfl); (focus rfl); intro W3 R3 F3; have S3 := pp S2 F3 (by omega))
  have g0 := R3.cellAt 0 rfl; have g1 := R3.cellAt 1 rfl; have g2 := R3.cellAt 2 rfl
  exact bodyPost_ret (v := .agg #[.int .i64 (-x7), .int .i64 (-x8), .int .i64 (-x9)]) (by simp [results, Tryz.results154, go_sem, g0, g1, g2]) rfl ⟨rfl, S3⟩

set_option maxHeartbeats 4000000 in
set_option maxRecDepth 100000 in
theorem voltage_10 (x1 x2 x3 x4 x5 x6 x7 x8 x9 : Int) (w : World)
    (n1 : IntKind.i64.wrap (-x1) = -x1)
    (n2 : IntKind.i64.wrap (-x2) = -x2)
    (n3 : IntKind.i64.wrap (-x3) = -x3)
    (n4 : IntKind.i64.wrap (-x4) = -x4)
    (n5 : IntKind.i64.wrap (-x5) = -x5)
    (n6 : IntKind.i64.wrap (-x6) = -x6)
    (n7 : IntKind.i64.wrap (-x7) = -x7)
    (n8 : IntKind.i64.wrap (-x8) = -x8)
    (n9 : IntKind.i64.wrap (-x9) = -x9)
    : Calls Tryz.prog 154 #[.agg #[.int .i64 x1, .int .i64 x2, .int .i64 x3, .int .i64 x4, .int .i64 x5, .int .i64 x6, .int .i64 x7, .int .i64 x8, .int .i64 x9], .int .i64 1, .int .i64 0] w fun e w' => e = .returned (.agg #[.int .i64 (-x1), .int .i64 (-x2), .int .i64 (-x3)]) ∧ Below w.heap.size w w' := by
  have z1 : IntKind.i64.wrap 1 = 1 := by decide
  have z2 : IntKind.i64.wrap 2 = 2 := by decide
  have z3 : IntKind.i64.wrap 3 = 3 := by decide
  go_enter Tryz.func154, Tryz.ntmps154
  go_wp2
  refine region_below 16 follows_mixed (by kernel_rfl) ?_
  intro C hC
  simp only [List.take_succ_cons, List.take_zero, List.drop_succ_cons, List.drop_zero]
  repeat (first
    | ((with_reducible refine quiet_plain rfl (fun K hK => ?_)); (focus (apply quiet_val; (focus (intro w' hw; obtain ⟨hcq, hfq⟩ := bcell ((hC.out _).1 hw); go_simp; (first | done | rfl))); (simp only [Act.put, List.setIfInBounds_toArray, List.set_cons_succ, List.set_cons_zero]); (with_reducible refine hK _ ?_); clear hK K)))
    | ((with_reducible refine quiet_skip ?_ ?_); (focus (first | (simp [Region.wanted, yielded]; done) | (simp [Region.wanted, yielded, undef]; done))); simp only [Act.put, List.setIfInBounds_toArray, List.set_cons_succ, List.set_cons_zero])
    | ((with_reducible refine quiet_go ?_ (fun K hK => ?_)); (focus (first | (simp [Region.wanted, yielded]; done) | (simp [Region.wanted, yielded, undef]; done))); (focus (apply quiet_val; (focus (intro w' hw; obtain ⟨hcq, hfq⟩ := bcell ((hC.out _).1 hw); go_simp; (first | done | rfl))); (simp only [Act.put, List.setIfInBounds_toArray, List.set_cons_succ, List.set_cons_zero]); (with_reducible refine hK _ ?_); clear hK K))))
  refine wpQuiet_nil ?_
  intro w1 hb1
  replace hb1 := (hC.out _).1 hb1
  clear hC C
  obtain ⟨hc1, hf1⟩ := bcell hb1
  have R2 : Blk w1 (w.heap.size + 1) 68 #[.int .i64 0, .int .i64 0, .int .i64 0] := (Blk.newAt (by simp)).past hb1
  have S2 := pt (pa (pa pr)) hb1
  clear hc1 hf1 hb1
  go_wp2_with ((with_reducible refine store_blk (T := 68) (x := .tmp 6) (y := .tmp 30) (vs := #[.int .i64 (-x1), .int .i64 (-x2), .int .i64 (-x3)]) R2 ?_ ?_ ?_ ?_ ?_ ?_); (focus rfl); (focus exact three_size); (focus (simp [Value.oneCell']; done)); (focus rfl); (focus rfl); intro W3 R3 F3; have S3 := pp S2 F3 (by omega))
  have g0 := R3.cellAt 0 rfl; have g1 := R3.cellAt 1 rfl; have g2 := R3.cellAt 2 rfl
  exact bodyPost_ret (v := .agg #[.int .i64 (-x1), .int .i64 (-x2), .int .i64 (-x3)]) (by simp [results, Tryz.results154, go_sem, g0, g1, g2]) rfl ⟨rfl, S3⟩

set_option maxHeartbeats 4000000 in
set_option maxRecDepth 100000 in
theorem voltage_12 (x1 x2 x3 x4 x5 x6 x7 x8 x9 : Int) (w : World)
    (n1 : IntKind.i64.wrap (-x1) = -x1)
    (n2 : IntKind.i64.wrap (-x2) = -x2)
    (n3 : IntKind.i64.wrap (-x3) = -x3)
    (n4 : IntKind.i64.wrap (-x4) = -x4)
    (n5 : IntKind.i64.wrap (-x5) = -x5)
    (n6 : IntKind.i64.wrap (-x6) = -x6)
    (n7 : IntKind.i64.wrap (-x7) = -x7)
    (n8 : IntKind.i64.wrap (-x8) = -x8)
    (n9 : IntKind.i64.wrap (-x9) = -x9)
    : Calls Tryz.prog 154 #[.agg #[.int .i64 x1, .int .i64 x2, .int .i64 x3, .int .i64 x4, .int .i64 x5, .int .i64 x6, .int .i64 x7, .int .i64 x8, .int .i64 x9], .int .i64 1, .int .i64 2] w fun e w' => e = .returned (.agg #[.int .i64 x4, .int .i64 x5, .int .i64 x6]) ∧ Below w.heap.size w w' := by
  have z1 : IntKind.i64.wrap 1 = 1 := by decide
  have z2 : IntKind.i64.wrap 2 = 2 := by decide
  have z3 : IntKind.i64.wrap 3 = 3 := by decide
  go_enter Tryz.func154, Tryz.ntmps154
  go_wp2
  exact bodyPost_ret (v := .agg #[.int .i64 x4, .int .i64 x5, .int .i64 x6]) (by simp [results, Tryz.results154, go_sem]) rfl ⟨rfl, by repeat (first | exact pr | refine pa ?_)⟩

set_option maxHeartbeats 4000000 in
set_option maxRecDepth 100000 in
theorem voltage_20 (x1 x2 x3 x4 x5 x6 x7 x8 x9 : Int) (w : World)
    (n1 : IntKind.i64.wrap (-x1) = -x1)
    (n2 : IntKind.i64.wrap (-x2) = -x2)
    (n3 : IntKind.i64.wrap (-x3) = -x3)
    (n4 : IntKind.i64.wrap (-x4) = -x4)
    (n5 : IntKind.i64.wrap (-x5) = -x5)
    (n6 : IntKind.i64.wrap (-x6) = -x6)
    (n7 : IntKind.i64.wrap (-x7) = -x7)
    (n8 : IntKind.i64.wrap (-x8) = -x8)
    (n9 : IntKind.i64.wrap (-x9) = -x9)
    : Calls Tryz.prog 154 #[.agg #[.int .i64 x1, .int .i64 x2, .int .i64 x3, .int .i64 x4, .int .i64 x5, .int .i64 x6, .int .i64 x7, .int .i64 x8, .int .i64 x9], .int .i64 2, .int .i64 0] w fun e w' => e = .returned (.agg #[.int .i64 x7, .int .i64 x8, .int .i64 x9]) ∧ Below w.heap.size w w' := by
  have z1 : IntKind.i64.wrap 1 = 1 := by decide
  have z2 : IntKind.i64.wrap 2 = 2 := by decide
  have z3 : IntKind.i64.wrap 3 = 3 := by decide
  go_enter Tryz.func154, Tryz.ntmps154
  go_wp2
  exact bodyPost_ret (v := .agg #[.int .i64 x7, .int .i64 x8, .int .i64 x9]) (by simp [results, Tryz.results154, go_sem]) rfl ⟨rfl, by repeat (first | exact pr | refine pa ?_)⟩

set_option maxHeartbeats 4000000 in
set_option maxRecDepth 100000 in
theorem voltage_21 (x1 x2 x3 x4 x5 x6 x7 x8 x9 : Int) (w : World)
    (n1 : IntKind.i64.wrap (-x1) = -x1)
    (n2 : IntKind.i64.wrap (-x2) = -x2)
    (n3 : IntKind.i64.wrap (-x3) = -x3)
    (n4 : IntKind.i64.wrap (-x4) = -x4)
    (n5 : IntKind.i64.wrap (-x5) = -x5)
    (n6 : IntKind.i64.wrap (-x6) = -x6)
    (n7 : IntKind.i64.wrap (-x7) = -x7)
    (n8 : IntKind.i64.wrap (-x8) = -x8)
    (n9 : IntKind.i64.wrap (-x9) = -x9)
    : Calls Tryz.prog 154 #[.agg #[.int .i64 x1, .int .i64 x2, .int .i64 x3, .int .i64 x4, .int .i64 x5, .int .i64 x6, .int .i64 x7, .int .i64 x8, .int .i64 x9], .int .i64 2, .int .i64 1] w fun e w' => e = .returned (.agg #[.int .i64 (-x4), .int .i64 (-x5), .int .i64 (-x6)]) ∧ Below w.heap.size w w' := by
  have z1 : IntKind.i64.wrap 1 = 1 := by decide
  have z2 : IntKind.i64.wrap 2 = 2 := by decide
  have z3 : IntKind.i64.wrap 3 = 3 := by decide
  go_enter Tryz.func154, Tryz.ntmps154
  go_wp2
  refine region_below 16 follows_mixed (by kernel_rfl) ?_
  intro C hC
  simp only [List.take_succ_cons, List.take_zero, List.drop_succ_cons, List.drop_zero]
  repeat (first
    | ((with_reducible refine quiet_plain rfl (fun K hK => ?_)); (focus (apply quiet_val; (focus (intro w' hw; obtain ⟨hcq, hfq⟩ := bcell ((hC.out _).1 hw); go_simp; (first | done | rfl))); (simp only [Act.put, List.setIfInBounds_toArray, List.set_cons_succ, List.set_cons_zero]); (with_reducible refine hK _ ?_); clear hK K)))
    | ((with_reducible refine quiet_skip ?_ ?_); (focus (first | (simp [Region.wanted, yielded]; done) | (simp [Region.wanted, yielded, undef]; done))); simp only [Act.put, List.setIfInBounds_toArray, List.set_cons_succ, List.set_cons_zero])
    | ((with_reducible refine quiet_go ?_ (fun K hK => ?_)); (focus (first | (simp [Region.wanted, yielded]; done) | (simp [Region.wanted, yielded, undef]; done))); (focus (apply quiet_val; (focus (intro w' hw; obtain ⟨hcq, hfq⟩ := bcell ((hC.out _).1 hw); go_simp; (first | done | rfl))); (simp only [Act.put, List.setIfInBounds_toArray, List.set_cons_succ, List.set_cons_zero]); (with_reducible refine hK _ ?_); clear hK K))))
  refine wpQuiet_nil ?_
  intro w1 hb1
  replace hb1 := (hC.out _).1 hb1
  clear hC C
  obtain ⟨hc1, hf1⟩ := bcell hb1
  have R2 : Blk w1 (w.heap.size + 1) 68 #[.int .i64 0, .int .i64 0, .int .i64 0] := (Blk.newAt (by simp)).past hb1
  have S2 := pt (pa (pa pr)) hb1
  clear hc1 hf1 hb1
  go_wp2_with ((with_reducible refine store_blk (T := 68) (x := .tmp 6) (y := .tmp 30) (vs := #[.int .i64 (-x4), .int .i64 (-x5), .int .i64 (-x6)]) R2 ?_ ?_ ?_ ?_ ?_ ?_); (focus rfl); (focus exact three_size); (focus (simp [Value.oneCell']; done)); (focus rfl); (focus rfl); intro W3 R3 F3; have S3 := pp S2 F3 (by omega))
  have g0 := R3.cellAt 0 rfl; have g1 := R3.cellAt 1 rfl; have g2 := R3.cellAt 2 rfl
  exact bodyPost_ret (v := .agg #[.int .i64 (-x4), .int .i64 (-x5), .int .i64 (-x6)]) (by simp [results, Tryz.results154, go_sem, g0, g1, g2]) rfl ⟨rfl, S3⟩

set_option maxHeartbeats 4000000 in
set_option maxRecDepth 100000 in
theorem refRenamed_012 (x1 x2 x3 x4 x5 x6 x7 x8 x9 : Int) (w : World)
    (n1 : IntKind.i64.wrap (-x1) = -x1)
    (n2 : IntKind.i64.wrap (-x2) = -x2)
    (n3 : IntKind.i64.wrap (-x3) = -x3)
    (n4 : IntKind.i64.wrap (-x4) = -x4)
    (n5 : IntKind.i64.wrap (-x5) = -x5)
    (n6 : IntKind.i64.wrap (-x6) = -x6)
    (n7 : IntKind.i64.wrap (-x7) = -x7)
    (n8 : IntKind.i64.wrap (-x8) = -x8)
    (n9 : IntKind.i64.wrap (-x9) = -x9)
    : Calls Tryz.prog 128 #[.agg #[.int .i64 x1, .int .i64 x2, .int .i64 x3, .int .i64 x4, .int .i64 x5, .int .i64 x6, .int .i64 x7, .int .i64 x8, .int .i64 x9], .agg #[.int .i64 0, .int .i64 1, .int .i64 2]] w fun e w' => e = .returned (.agg #[.int .i64 x1, .int .i64 x2, .int .i64 x3, .int .i64 x4, .int .i64 x5, .int .i64 x6, .int .i64 x7, .int .i64 x8, .int .i64 x9]) ∧ Below w.heap.size w w' := by
  have V0 := Lib.hid (fun w => voltage_01 x1 x2 x3 x4 x5 x6 x7 x8 x9 w n1 n2 n3 n4 n5 n6 n7 n8 n9)
  have V1 := Lib.hid (fun w => voltage_12 x1 x2 x3 x4 x5 x6 x7 x8 x9 w n1 n2 n3 n4 n5 n6 n7 n8 n9)
  have V2 := Lib.hid (fun w => voltage_20 x1 x2 x3 x4 x5 x6 x7 x8 x9 w n1 n2 n3 n4 n5 n6 n7 n8 n9)
  clear n1 n2 n3 n4 n5 n6 n7 n8 n9
  go_enter Tryz.func128, Tryz.ntmps128
  go_wp2
  refine region_below 19 follows_mixed (by kernel_rfl) ?_
  intro C hC
  simp only [List.take_succ_cons, List.take_zero, List.drop_succ_cons, List.drop_zero]
  repeat (first
    | ((with_reducible refine quiet_plain rfl (fun K hK => ?_)); (focus (apply quiet_val; (focus (intro w' hw; obtain ⟨hcq, hfq⟩ := bcell ((hC.out _).1 hw); go_simp; (first | done | rfl | (with_reducible exact call_below hC hw (V0.out _)) | (with_reducible exact call_below hC hw (V1.out _)) | (with_reducible exact call_below hC hw (V2.out _))))); (simp only [Act.put, List.setIfInBounds_toArray, List.set_cons_succ, List.set_cons_zero]); (with_reducible refine hK _ ?_); clear hK K)))
    | ((with_reducible refine quiet_skip ?_ ?_); (focus (first | (simp [Region.wanted, yielded]; done) | (simp [Region.wanted, yielded, undef]; done))); simp only [Act.put, List.setIfInBounds_toArray, List.set_cons_succ, List.set_cons_zero])
    | ((with_reducible refine quiet_go ?_ (fun K hK => ?_)); (focus (first | (simp [Region.wanted, yielded]; done) | (simp [Region.wanted, yielded, undef]; done))); (focus (apply quiet_val; (focus (intro w' hw; obtain ⟨hcq, hfq⟩ := bcell ((hC.out _).1 hw); go_simp; (first | done | rfl | (with_reducible exact call_below hC hw (V0.out _)) | (with_reducible exact call_below hC hw (V1.out _)) | (with_reducible exact call_below hC hw (V2.out _))))); (simp only [Act.put, List.setIfInBounds_toArray, List.set_cons_succ, List.set_cons_zero]); (with_reducible refine hK _ ?_); clear hK K))))
  refine wpQuiet_nil ?_
  intro w1 hb1
  replace hb1 := (hC.out _).1 hb1
  clear hC C
  obtain ⟨hc1, hf1⟩ := bcell hb1
  have R2 : Blk w1 (w.heap.size + 1 + 1) 81 #[.int .i64 0, .int .i64 0, .int .i64 0, .int .i64 0, .int .i64 0, .int .i64 0, .int .i64 0, .int .i64 0, .int .i64 0] := (Blk.newAt (by simp)).past hb1
  have S2 := pt (pa (pa (pa pr))) hb1
  clear hc1 hf1 hb1
  go_wp2_with ((with_reducible refine store_blk (T := 81) (x := .tmp 4) (y := .tmp 23) (vs := #[.int .i64 x1, .int .i64 x2, .int .i64 x3, .int .i64 x4, .int .i64 x5, .int .i64 x6, .int .i64 x7, .int .i64 x8, .int .i64 x9]) R2 ?_ ?_ ?_ ?_ ?_ ?_); (focus rfl); (focus exact apiLines_size); (focus (simp [Value.oneCell']; done)); (focus rfl); (focus rfl); intro W3 R3 F3; have S3 := pp S2 F3 (by omega))
  have g0 := R3.cellAt 0 rfl
  have g1 := R3.cellAt 1 rfl
  have g2 := R3.cellAt 2 rfl
  have g3 := R3.cellAt 3 rfl
  have g4 := R3.cellAt 4 rfl
  have g5 := R3.cellAt 5 rfl
  have g6 := R3.cellAt 6 rfl
  have g7 := R3.cellAt 7 rfl
  have g8 := R3.cellAt 8 rfl
  exact bodyPost_ret (v := .agg #[.int .i64 x1, .int .i64 x2, .int .i64 x3, .int .i64 x4, .int .i64 x5, .int .i64 x6, .int .i64 x7, .int .i64 x8, .int .i64 x9]) (by simp [results, Tryz.results128, go_sem, g0, g1, g2, g3, g4, g5, g6, g7, g8]) rfl ⟨rfl, S3⟩

set_option maxHeartbeats 4000000 in
set_option maxRecDepth 100000 in
theorem refRenamed_021 (x1 x2 x3 x4 x5 x6 x7 x8 x9 : Int) (w : World)
    (n1 : IntKind.i64.wrap (-x1) = -x1)
    (n2 : IntKind.i64.wrap (-x2) = -x2)
    (n3 : IntKind.i64.wrap (-x3) = -x3)
    (n4 : IntKind.i64.wrap (-x4) = -x4)
    (n5 : IntKind.i64.wrap (-x5) = -x5)
    (n6 : IntKind.i64.wrap (-x6) = -x6)
    (n7 : IntKind.i64.wrap (-x7) = -x7)
    (n8 : IntKind.i64.wrap (-x8) = -x8)
    (n9 : IntKind.i64.wrap (-x9) = -x9)
    : Calls Tryz.prog 128 #[.agg #[.int .i64 x1, .int .i64 x2, .int .i64 x3, .int .i64 x4, .int .i64 x5, .int .i64 x6, .int .i64 x7, .int .i64 x8, .int .i64 x9], .agg #[.int .i64 0, .int .i64 2, .int .i64 1]] w fun e w' => e = .returned (.agg #[.int .i64 (-x7), .int .i64 (-x8), .int .i64 (-x9), .int .i64 (-x4), .int .i64 (-x5), .int .i64 (-x6), .int .i64 (-x1), .int .i64 (-x2), .int .i64 (-x3)]) ∧ Below w.heap.size w w' := by
  have V0 := Lib.hid (fun w => voltage_02 x1 x2 x3 x4 x5 x6 x7 x8 x9 w n1 n2 n3 n4 n5 n6 n7 n8 n9)
  have V1 := Lib.hid (fun w => voltage_21 x1 x2 x3 x4 x5 x6 x7 x8 x9 w n1 n2 n3 n4 n5 n6 n7 n8 n9)
  have V2 := Lib.hid (fun w => voltage_10 x1 x2 x3 x4 x5 x6 x7 x8 x9 w n1 n2 n3 n4 n5 n6 n7 n8 n9)
  clear n1 n2 n3 n4 n5 n6 n7 n8 n9
  go_enter Tryz.func128, Tryz.ntmps128
  go_wp2
  refine region_below 19 follows_mixed (by kernel_rfl) ?_
  intro C hC
  simp only [List.take_succ_cons, List.take_zero, List.drop_succ_cons, List.drop_zero]
  repeat (first
    | ((with_reducible refine quiet_plain rfl (fun K hK => ?_)); (focus (apply quiet_val; (focus (intro w' hw; obtain ⟨hcq, hfq⟩ := bcell ((hC.out _).1 hw); go_simp; (first | done | rfl | (with_reducible exact call_below hC hw (V0.out _)) | (with_reducible exact call_below hC hw (V1.out _)) | (with_reducible exact call_below hC hw (V2.out _))))); (simp only [Act.put, List.setIfInBounds_toArray, List.set_cons_succ, List.set_cons_zero]); (with_reducible refine hK _ ?_); clear hK K)))
    | ((with_reducible refine quiet_skip ?_ ?_); (focus (first | (simp [Region.wanted, yielded]; done) | (simp [Region.wanted, yielded, undef]; done))); simp only [Act.put, List.setIfInBounds_toArray, List.set_cons_succ, List.set_cons_zero])
    | ((with_reducible refine quiet_go ?_ (fun K hK => ?_)); (focus (first | (simp [Region.wanted, yielded]; done) | (simp [Region.wanted, yielded, undef]; done))); (focus (apply quiet_val; (focus (intro w' hw; obtain ⟨hcq, hfq⟩ := bcell ((hC.out _).1 hw); go_simp; (first | done | rfl | (with_reducible exact call_below hC hw (V0.out _)) | (with_reducible exact call_below hC hw (V1.out _)) | (with_reducible exact call_below hC hw (V2.out _))))); (simp only [Act.put, List.setIfInBounds_toArray, List.set_cons_succ, List.set_cons_zero]); (with_reducible refine hK _ ?_); clear hK K))))
  refine wpQuiet_nil ?_
  intro w1 hb1
  replace hb1 := (hC.out _).1 hb1
  clear hC C
  obtain ⟨hc1, hf1⟩ := bcell hb1
  have R2 : Blk w1 (w.heap.size + 1 + 1) 81 #[.int .i64 0, .int .i64 0, .int .i64 0, .int .i64 0, .int .i64 0, .int .i64 0, .int .i64 0, .int .i64 0, .int .i64 0] := (Blk.newAt (by simp)).past hb1
  have S2 := pt (pa (pa (pa pr))) hb1
  clear hc1 hf1 hb1
  go_wp2_with ((with_reducible refine store_blk (T := 81) (x := .tmp 4) (y := .tmp 23) (vs := #[.int .i64 (-x7), .int .i64 (-x8), .int .i64 (-x9), .int .i64 (-x4), .int .i64 (-x5), .int .i64 (-x6), .int .i64 (-x1), .int .i64 (-x2), .int .i64 (-x3)]) R2 ?_ ?_ ?_ ?_ ?_ ?_); (focus rfl); (focus exact apiLines_size); (focus (simp [Value.oneCell']; done)); (focus rfl); (focus rfl); intro W3 R3 F3; have S3 := pp S2 F3 (by omega))
  have g0 := R3.cellAt 0 rfl
  have g1 := R3.cellAt 1 rfl
  have g2 := R3.cellAt 2 rfl
  have g3 := R3.cellAt 3 rfl
  have g4 := R3.cellAt 4 rfl
  have g5 := R3.cellAt 5 rfl
  have g6 := R3.cellAt 6 rfl
  have g7 := R3.cellAt 7 rfl
  have g8 := R3.cellAt 8 rfl
  exact bodyPost_ret (v := .agg #[.int .i64 (-x7), .int .i64 (-x8), .int .i64 (-x9), .int .i64 (-x4), .int .i64 (-x5), .int .i64 (-x6), .int .i64 (-x1), .int .i64 (-x2), .int .i64 (-x3)]) (by simp [results, Tryz.results128, go_sem, g0, g1, g2, g3, g4, g5, g6, g7, g8]) rfl ⟨rfl, S3⟩

set_option maxHeartbeats 4000000 in
set_option maxRecDepth 100000 in
theorem refRenamed_102 (x1 x2 x3 x4 x5 x6 x7 x8 x9 : Int) (w : World)
    (n1 : IntKind.i64.wrap (-x1) = -x1)
    (n2 : IntKind.i64.wrap (-x2) = -x2)
    (n3 : IntKind.i64.wrap (-x3) = -x3)
    (n4 : IntKind.i64.wrap (-x4) = -x4)
    (n5 : IntKind.i64.wrap (-x5) = -x5)
    (n6 : IntKind.i64.wrap (-x6) = -x6)
    (n7 : IntKind.i64.wrap (-x7) = -x7)
    (n8 : IntKind.i64.wrap (-x8) = -x8)
    (n9 : IntKind.i64.wrap (-x9) = -x9)
    : Calls Tryz.prog 128 #[.agg #[.int .i64 x1, .int .i64 x2, .int .i64 x3, .int .i64 x4, .int .i64 x5, .int .i64 x6, .int .i64 x7, .int .i64 x8, .int .i64 x9], .agg #[.int .i64 1, .int .i64 0, .int .i64 2]] w fun e w' => e = .returned (.agg #[.int .i64 (-x1), .int .i64 (-x2), .int .i64 (-x3), .int .i64 (-x7), .int .i64 (-x8), .int .i64 (-x9), .int .i64 (-x4), .int .i64 (-x5), .int .i64 (-x6)]) ∧ Below w.heap.size w w' := by
  have V0 := Lib.hid (fun w => voltage_10 x1 x2 x3 x4 x5 x6 x7 x8 x9 w n1 n2 n3 n4 n5 n6 n7 n8 n9)
  have V1 := Lib.hid (fun w => voltage_02 x1 x2 x3 x4 x5 x6 x7 x8 x9 w n1 n2 n3 n4 n5 n6 n7 n8 n9)
  have V2 := Lib.hid (fun w => voltage_21 x1 x2 x3 x4 x5 x6 x7 x8 x9 w n1 n2 n3 n4 n5 n6 n7 n8 n9)
  clear n1 n2 n3 n4 n5 n6 n7 n8 n9
  go_enter Tryz.func128, Tryz.ntmps128
  go_wp2
  refine region_below 19 follows_mixed (by kernel_rfl) ?_
  intro C hC
  simp only [List.take_succ_cons, List.take_zero, List.drop_succ_cons, List.drop_zero]
  repeat (first
    | ((with_reducible refine quiet_plain rfl (fun K hK => ?_)); (focus (apply quiet_val; (focus (intro w' hw; obtain ⟨hcq, hfq⟩ := bcell ((hC.out _).1 hw); go_simp; (first | done | rfl | (with_reducible exact call_below hC hw (V0.out _)) | (with_reducible exact call_below hC hw (V1.out _)) | (with_reducible exact call_below hC hw (V2.out _))))); (simp only [Act.put, List.setIfInBounds_toArray, List.set_cons_succ, List.set_cons_zero]); (with_reducible refine hK _ ?_); clear hK K)))
    | ((with_reducible refine quiet_skip ?_ ?_); (focus (first | (simp [Region.wanted, yielded]; done) | (simp [Region.wanted, yielded, undef]; done))); simp only [Act.put, List.setIfInBounds_toArray, List.set_cons_succ, List.set_cons_zero])
    | ((with_reducible refine quiet_go ?_ (fun K hK => ?_)); (focus (first | (simp [Region.wanted, yielded]; done) | (simp [Region.wanted, yielded, undef]; done))); (focus (apply quiet_val; (focus (intro w' hw; obtain ⟨hcq, hfq⟩ := bcell ((hC.out _).1 hw); go_simp; (first | done | rfl | (with_reducible exact call_below hC hw (V0.out _)) | (with_reducible exact call_below hC hw (V1.out _)) | (with_reducible exact call_below hC hw (V2.out _))))); (simp only [Act.put, List.setIfInBounds_toArray, List.set_cons_succ, List.set_cons_zero]); (with_reducible refine hK _ ?_); clear hK K))))
  refine wpQuiet_nil ?_
  intro w1 hb1
  replace hb1 := (hC.out _).1 hb1
  clear hC C
  obtain ⟨hc1, hf1⟩ := bcell hb1
  have R2 : Blk w1 (w.heap.size + 1 + 1) 81 #[.int .i64 0, .int .i64 0, .int .i64 0, .int .i64 0, .int .i64 0, .int .i64 0, .int .i64 0, .int .i64 0, .int .i64 0] := (Blk.newAt (by simp)).past hb1
  have S2 := pt (pa (pa (pa pr))) hb1
  clear hc1 hf1 hb1
  go_wp2_with ((with_reducible refine store_blk (T := 81) (x := .tmp 4) (y := .tmp 23) (vs := #[.int .i64 (-x1), .int .i64 (-x2), .int .i64 (-x3), .int .i64 (-x7), .int .i64 (-x8), .int .i64 (-x9), .int .i64 (-x4), .int .i64 (-x5), .int .i64 (-x6)]) R2 ?_ ?_ ?_ ?_ ?_ ?_); (focus rfl); (focus exact apiLines_size); (focus (simp [Value.oneCell']; done)); (focus rfl); (focus rfl); intro W3 R3 F3; have S3 := pp S2 F3 (by omega))
  have g0 := R3.cellAt 0 rfl
  have g1 := R3.cellAt 1 rfl
  have g2 := R3.cellAt 2 rfl
  have g3 := R3.cellAt 3 rfl
  have g4 := R3.cellAt 4 rfl
  have g5 := R3.cellAt 5 rfl
  have g6 := R3.cellAt 6 rfl
  have g7 := R3.cellAt 7 rfl
  have g8 := R3.cellAt 8 rfl
  exact bodyPost_ret (v := .agg #[.int .i64 (-x1), .int .i64 (-x2), .int .i64 (-x3), .int .i64 (-x7), .int .i64 (-x8), .int .i64 (-x9), .int .i64 (-x4), .int .i64 (-x5), .int .i64 (-x6)]) (by simp [results, Tryz.results128, go_sem, g0, g1, g2, g3, g4, g5, g6, g7, g8]) rfl ⟨rfl, S3⟩

set_option maxHeartbeats 4000000 in
set_option maxRecDepth 100000 in
theorem refRenamed_120 (x1 x2 x3 x4 x5 x6 x7 x8 x9 : Int) (w : World)
    (n1 : IntKind.i64.wrap (-x1) = -x1)
    (n2 : IntKind.i64.wrap (-x2) = -x2)
    (n3 : IntKind.i64.wrap (-x3) = -x3)
    (n4 : IntKind.i64.wrap (-x4) = -x4)
    (n5 : IntKind.i64.wrap (-x5) = -x5)
    (n6 : IntKind.i64.wrap (-x6) = -x6)
    (n7 : IntKind.i64.wrap (-x7) = -x7)
    (n8 : IntKind.i64.wrap (-x8) = -x8)
    (n9 : IntKind.i64.wrap (-x9) = -x9)
    : Calls Tryz.prog 128 #[.agg #[.int .i64 x1, .int .i64 x2, .int .i64 x3, .int .i64 x4, .int .i64 x5, .int .i64 x6, .int .i64 x7, .int .i64 x8, .int .i64 x9], .agg #[.int .i64 1, .int .i64 2, .int .i64 0]] w fun e w' => e = .returned (.agg #[.int .i64 x4, .int .i64 x5, .int .i64 x6, .int .i64 x7, .int .i64 x8, .int .i64 x9, .int .i64 x1, .int .i64 x2, .int .i64 x3]) ∧ Below w.heap.size w w' := by
  have V0 := Lib.hid (fun w => voltage_12 x1 x2 x3 x4 x5 x6 x7 x8 x9 w n1 n2 n3 n4 n5 n6 n7 n8 n9)
  have V1 := Lib.hid (fun w => voltage_20 x1 x2 x3 x4 x5 x6 x7 x8 x9 w n1 n2 n3 n4 n5 n6 n7 n8 n9)
  have V2 := Lib.hid (fun w => voltage_01 x1 x2 x3 x4 x5 x6 x7 x8 x9 w n1 n2 n3 n4 n5 n6 n7 n8 n9)
  clear n1 n2 n3 n4 n5 n6 n7 n8 n9
  go_enter Tryz.func128, Tryz.ntmps128
  go_wp2
  refine region_below 19 follows_mixed (by kernel_rfl) ?_
  intro C hC
  simp only [List.take_succ_cons, List.take_zero, List.drop_succ_cons, List.drop_zero]
  repeat (first
    | ((with_reducible refine quiet_plain rfl (fun K hK => ?_)); (focus (apply quiet_val; (focus (intro w' hw; obtain ⟨hcq, hfq⟩ := bcell ((hC.out _).1 hw); go_simp; (first | done | rfl | (with_reducible exact call_below hC hw (V0.out _)) | (with_reducible exact call_below hC hw (V1.out _)) | (with_reducible exact call_below hC hw (V2.out _))))); (simp only [Act.put, List.setIfInBounds_toArray, List.set_cons_succ, List.set_cons_zero]); (with_reducible refine hK _ ?_); clear hK K)))
    | ((with_reducible refine quiet_skip ?_ ?_); (focus (first | (simp [Region.wanted, yielded]; done) | (simp [Region.wanted, yielded, undef]; done))); simp only [Act.put, List.setIfInBounds_toArray, List.set_cons_succ, List.set_cons_zero])
    | ((with_reducible refine quiet_go ?_ (fun K hK => ?_)); (focus (first | (simp [Region.wanted, yielded]; done) | (simp [Region.wanted, yielded, undef]; done))); (focus (apply quiet_val; (focus (intro w' hw; obtain ⟨hcq, hfq⟩ := bcell ((hC.out _).1 hw); go_simp; (first | done | rfl | (with_reducible exact call_below hC hw (V0.out _)) | (with_reducible exact call_below hC hw (V1.out _)) | (with_reducible exact call_below hC hw (V2.out _))))); (simp only [Act.put, List.setIfInBounds_toArray, List.set_cons_succ, List.set_cons_zero]); (with_reducible refine hK _ ?_); clear hK K))))
  refine wpQuiet_nil ?_
  intro w1 hb1
  replace hb1 := (hC.out _).1 hb1
  clear hC C
  obtain ⟨hc1, hf1⟩ := bcell hb1
  have R2 : Blk w1 (w.heap.size + 1 + 1) 81 #[.int .i64 0, .int .i64 0, .int .i64 0, .int .i64 0, .int .i64 0, .int .i64 0, .int .i64 0, .int .i64 0, .int .i64 0] := (Blk.newAt (by simp)).past hb1
  have S2 := pt (pa (pa (pa pr))) hb1
  clear hc1 hf1 hb1
  go_wp2_with ((with_reducible refine store_blk (T := 81) (x := .tmp 4) (y := .tmp 23) (vs := #[.int .i64 x4, .int .i64 x5, .int .i64 x6, .int .i64 x7, .int .i64 x8, .int .i64 x9, .int .i64 x1, .int .i64 x2, .int .i64 x3]) R2 ?_ ?_ ?_ ?_ ?_ ?_); (focus rfl); (focus exact apiLines_size); (focus (simp [Value.oneCell']; done)); (focus rfl); (focus rfl); intro W3 R3 F3; have S3 := pp S2 F3 (by omega))
  have g0 := R3.cellAt 0 rfl
  have g1 := R3.cellAt 1 rfl
  have g2 := R3.cellAt 2 rfl
  have g3 := R3.cellAt 3 rfl
  have g4 := R3.cellAt 4 rfl
  have g5 := R3.cellAt 5 rfl
  have g6 := R3.cellAt 6 rfl
  have g7 := R3.cellAt 7 rfl
  have g8 := R3.cellAt 8 rfl
  exact bodyPost_ret (v := .agg #[.int .i64 x4, .int .i64 x5, .int .i64 x6, .int .i64 x7, .int .i64 x8, .int .i64 x9, .int .i64 x1, .int .i64 x2, .int .i64 x3]) (by simp [results, Tryz.results128, go_sem, g0, g1, g2, g3, g4, g5, g6, g7, g8]) rfl ⟨rfl, S3⟩

set_option maxHeartbeats 4000000 in
set_option maxRecDepth 100000 in
theorem refRenamed_201 (x1 x2 x3 x4 x5 x6 x7 x8 x9 : Int) (w : World)
    (n1 : IntKind.i64.wrap (-x1) = -x1)
    (n2 : IntKind.i64.wrap (-x2) = -x2)
    (n3 : IntKind.i64.wrap (-x3) = -x3)
    (n4 : IntKind.i64.wrap (-x4) = -x4)
    (n5 : IntKind.i64.wrap (-x5) = -x5)
    (n6 : IntKind.i64.wrap (-x6) = -x6)
    (n7 : IntKind.i64.wrap (-x7) = -x7)
    (n8 : IntKind.i64.wrap (-x8) = -x8)
    (n9 : IntKind.i64.wrap (-x9) = -x9)
    : Calls Tryz.prog 128 #[.agg #[.int .i64 x1, .int .i64 x2, .int .i64 x3, .int .i64 x4, .int .i64 x5, .int .i64 x6, .int .i64 x7, .int .i64 x8, .int .i64 x9], .agg #[.int .i64 2, .int .i64 0, .int .i64 1]] w fun e w' => e = .returned (.agg #[.int .i64 x7, .int .i64 x8, .int .i64 x9, .int .i64 x1, .int .i64 x2, .int .i64 x3, .int .i64 x4, .int .i64 x5, .int .i64 x6]) ∧ Below w.heap.size w w' := by
  have V0 := Lib.hid (fun w => voltage_20 x1 x2 x3 x4 x5 x6 x7 x8 x9 w n1 n2 n3 n4 n5 n6 n7 n8 n9)
  have V1 := Lib.hid (fun w => voltage_01 x1 x2 x3 x4 x5 x6 x7 x8 x9 w n1 n2 n3 n4 n5 n6 n7 n8 n9)
  have V2 := Lib.hid (fun w => voltage_12 x1 x2 x3 x4 x5 x6 x7 x8 x9 w n1 n2 n3 n4 n5 n6 n7 n8 n9)
  clear n1 n2 n3 n4 n5 n6 n7 n8 n9
  go_enter Tryz.func128, Tryz.ntmps128
  go_wp2
  refine region_below 19 follows_mixed (by kernel_rfl) ?_
  intro C hC
  simp only [List.take_succ_cons, List.take_zero, List.drop_succ_cons, List.drop_zero]
  repeat (first
    | ((with_reducible refine quiet_plain rfl (fun K hK => ?_)); (focus (apply quiet_val; (focus (intro w' hw; obtain ⟨hcq, hfq⟩ := bcell ((hC.out _).1 hw); go_simp; (first | done | rfl | (with_reducible exact call_below hC hw (V0.out _)) | (with_reducible exact call_below hC hw (V1.out _)) | (with_reducible exact call_below hC hw (V2.out _))))); (simp only [Act.put, List.setIfInBounds_toArray, List.set_cons_succ, List.set_cons_zero]); (with_reducible refine hK _ ?_); clear hK K)))
    | ((with_reducible refine quiet_skip ?_ ?_); (focus (first | (simp [Region.wanted, yielded]; done) | (simp [Region.wanted, yielded, undef]; done))); simp only [Act.put, List.setIfInBounds_toArray, List.set_cons_succ, List.set_cons_zero])
    | ((with_reducible refine quiet_go ?_ (fun K hK => ?_)); (focus (first | (simp [Region.wanted, yielded]; done) | (simp [Region.wanted, yielded, undef]; done))); (focus (apply quiet_val; (focus (intro w' hw; obtain ⟨hcq, hfq⟩ := bcell ((hC.out _).1 hw); go_simp; (first | done | rfl | (with_reducible exact call_below hC hw (V0.out _)) | (with_reducible exact call_below hC hw (V1.out _)) | (with_reducible exact call_below hC hw (V2.out _))))); (simp only [Act.put, List.setIfInBounds_toArray, List.set_cons_succ, List.set_cons_zero]); (with_reducible refine hK _ ?_); clear hK K))))
  refine wpQuiet_nil ?_
  intro w1 hb1
  replace hb1 := (hC.out _).1 hb1
  clear hC C
  obtain ⟨hc1, hf1⟩ := bcell hb1
  have R2 : Blk w1 (w.heap.size + 1 + 1) 81 #[.int .i64 0, .int .i64 0, .int .i64 0, .int .i64 0, .int .i64 0, .int .i64 0, .int .i64 0, .int .i64 0, .int .i64 0] := (Blk.newAt (by simp)).past hb1
  have S2 := pt (pa (pa (pa pr))) hb1
  clear hc1 hf1 hb1
  go_wp2_with ((with_reducible refine store_blk (T := 81) (x := .tmp 4) (y := .tmp 23) (vs := #[.int .i64 x7, .int .i64 x8, .int .i64 x9, .int .i64 x1, .int .i64 x2, .int .i64 x3, .int .i64 x4, .int .i64 x5, .int .i64 x6]) R2 ?_ ?_ ?_ ?_ ?_ ?_); (focus rfl); (focus exact apiLines_size); (focus (simp [Value.oneCell']; done)); (focus rfl); (focus rfl); intro W3 R3 F3; have S3 := pp S2 F3 (by omega))
  have g0 := R3.cellAt 0 rfl
  have g1 := R3.cellAt 1 rfl
  have g2 := R3.cellAt 2 rfl
  have g3 := R3.cellAt 3 rfl
  have g4 := R3.cellAt 4 rfl
  have g5 := R3.cellAt 5 rfl
  have g6 := R3.cellAt 6 rfl
  have g7 := R3.cellAt 7 rfl
  have g8 := R3.cellAt 8 rfl
  exact bodyPost_ret (v := .agg #[.int .i64 x7, .int .i64 x8, .int .i64 x9, .int .i64 x1, .int .i64 x2, .int .i64 x3, .int .i64 x4, .int .i64 x5, .int .i64 x6]) (by simp [results, Tryz.results128, go_sem, g0, g1, g2, g3, g4, g5, g6, g7, g8]) rfl ⟨rfl, S3⟩

set_option maxHeartbeats 4000000 in
set_option maxRecDepth 100000 in
theorem refRenamed_210 (x1 x2 x3 x4 x5 x6 x7 x8 x9 : Int) (w : World)
    (n1 : IntKind.i64.wrap (-x1) = -x1)
    (n2 : IntKind.i64.wrap (-x2) = -x2)
    (n3 : IntKind.i64.wrap (-x3) = -x3)
    (n4 : IntKind.i64.wrap (-x4) = -x4)
    (n5 : IntKind.i64.wrap (-x5) = -x5)
    (n6 : IntKind.i64.wrap (-x6) = -x6)
    (n7 : IntKind.i64.wrap (-x7) = -x7)
    (n8 : IntKind.i64.wrap (-x8) = -x8)
    (n9 : IntKind.i64.wrap (-x9) = -x9)
    : Calls Tryz.prog 128 #[.agg #[.int .i64 x1, .int .i64 x2, .int .i64 x3, .int .i64 x4, .int .i64 x5, .int .i64 x6, .int .i64 x7, .int .i64 x8, .int .i64 x9], .agg #[.int .i64 2, .int .i64 1, .int .i64 0]] w fun e w' => e = .returned (.agg #[.int .i64 (-x4), .int .i64 (-x5), .int .i64 (-x6), .int .i64 (-x1), .int .i64 (-x2), .int .i64 (-x3), .int .i64 (-x7), .int .i64 (-x8), .int .i64 (-x9)]) ∧ Below w.heap.size w w' := by
  have V0 := Lib.hid (fun w => voltage_21 x1 x2 x3 x4 x5 x6 x7 x8 x9 w n1 n2 n3 n4 n5 n6 n7 n8 n9)
  have V1 := Lib.hid (fun w => voltage_10 x1 x2 x3 x4 x5 x6 x7 x8 x9 w n1 n2 n3 n4 n5 n6 n7 n8 n9)
  have V2 := Lib.hid (fun w => voltage_02 x1 x2 x3 x4 x5 x6 x7 x8 x9 w n1 n2 n3 n4 n5 n6 n7 n8 n9)
  clear n1 n2 n3 n4 n5 n6 n7 n8 n9
  go_enter Tryz.func128, Tryz.ntmps128
  go_wp2
  refine region_below 19 follows_mixed (by kernel_rfl) ?_
  intro C hC
  simp only [List.take_succ_cons, List.take_zero, List.drop_succ_cons, List.drop_zero]
  repeat (first
    | ((with_reducible refine quiet_plain rfl (fun K hK => ?_)); (focus (apply quiet_val; (focus (intro w' hw; obtain ⟨hcq, hfq⟩ := bcell ((hC.out _).1 hw); go_simp; (first | done | rfl | (with_reducible exact call_below hC hw (V0.out _)) | (with_reducible exact call_below hC hw (V1.out _)) | (with_reducible exact call_below hC hw (V2.out _))))); (simp only [Act.put, List.setIfInBounds_toArray, List.set_cons_succ, List.set_cons_zero]); (with_reducible refine hK _ ?_); clear hK K)))
    | ((with_reducible refine quiet_skip ?_ ?_); (focus (first | (simp [Region.wanted, yielded]; done) | (simp [Region.wanted, yielded, undef]; done))); simp only [Act.put, List.setIfInBounds_toArray, List.set_cons_succ, List.set_cons_zero])
    | ((with_reducible refine quiet_go ?_ (fun K hK => ?_)); (focus (first | (simp [Region.wanted, yielded]; done) | (simp [Region.wanted, yielded, undef]; done))); (focus (apply quiet_val; (focus (intro w' hw; obtain ⟨hcq, hfq⟩ := bcell ((hC.out _).1 hw); go_simp; (first | done | rfl | (with_reducible exact call_below hC hw (V0.out _)) | (with_reducible exact call_below hC hw (V1.out _)) | (with_reducible exact call_below hC hw (V2.out _))))); (simp only [Act.put, List.setIfInBounds_toArray, List.set_cons_succ, List.set_cons_zero]); (with_reducible refine hK _ ?_); clear hK K))))
  refine wpQuiet_nil ?_
  intro w1 hb1
  replace hb1 := (hC.out _).1 hb1
  clear hC C
  obtain ⟨hc1, hf1⟩ := bcell hb1
  have R2 : Blk w1 (w.heap.size + 1 + 1) 81 #[.int .i64 0, .int .i64 0, .int .i64 0, .int .i64 0, .int .i64 0, .int .i64 0, .int .i64 0, .int .i64 0, .int .i64 0] := (Blk.newAt (by simp)).past hb1
  have S2 := pt (pa (pa (pa pr))) hb1
  clear hc1 hf1 hb1
  go_wp2_with ((with_reducible refine store_blk (T := 81) (x := .tmp 4) (y := .tmp 23) (vs := #[.int .i64 (-x4), .int .i64 (-x5), .int .i64 (-x6), .int .i64 (-x1), .int .i64 (-x2), .int .i64 (-x3), .int .i64 (-x7), .int .i64 (-x8), .int .i64 (-x9)]) R2 ?_ ?_ ?_ ?_ ?_ ?_); (focus rfl); (focus exact apiLines_size); (focus (simp [Value.oneCell']; done)); (focus rfl); (focus rfl); intro W3 R3 F3; have S3 := pp S2 F3 (by omega))
  have g0 := R3.cellAt 0 rfl
  have g1 := R3.cellAt 1 rfl
  have g2 := R3.cellAt 2 rfl
  have g3 := R3.cellAt 3 rfl
  have g4 := R3.cellAt 4 rfl
  have g5 := R3.cellAt 5 rfl
  have g6 := R3.cellAt 6 rfl
  have g7 := R3.cellAt 7 rfl
  have g8 := R3.cellAt 8 rfl
  exact bodyPost_ret (v := .agg #[.int .i64 (-x4), .int .i64 (-x5), .int .i64 (-x6), .int .i64 (-x1), .int .i64 (-x2), .int .i64 (-x3), .int .i64 (-x7), .int .i64 (-x8), .int .i64 (-x9)]) (by simp [results, Tryz.results128, go_sem, g0, g1, g2, g3, g4, g5, g6, g7, g8]) rfl ⟨rfl, S3⟩

end Go.Proofs.YtnhcamokcggnkaaGreatDoor
end

section
namespace Go.Proofs.YtnhcamokcggnkaaGreatDoor
open Go.RowKit
attribute [local go_sem ↓] Go.wp_at_zero Go.wp_at_succ

set_option maxHeartbeats 4000000 in
set_option maxRecDepth 100000 in
theorem refIsPerm_0 (a b c : Int) (h0 : a < 0) (w : World) :
    Calls Tryz.prog 34 #[.agg #[.int .i64 a, .int .i64 b, .int .i64 c]] w fun e w' => e = .returned (.bool false) ∧ Below w.heap.size w w' := by
  have z1 : IntKind.i64.wrap 1 = 1 := by decide
  have z2 : IntKind.i64.wrap 2 = 2 := by decide
  have z3 : IntKind.i64.wrap 3 = 3 := by decide
  have g0 : decide (a < 0) = true := by simpa using h0
  have f0 : (a < 0) = True := by simpa using h0
  go_enter Tryz.func34, Tryz.ntmps34
  go_wp2
  have P0 : Blk (w.alloc (.cells #[.int .i64 a, .int .i64 b, .int .i64 c] 68)) w.heap.size 68 #[.int .i64 a, .int .i64 b, .int .i64 c] := Blk.newAt rfl
  have S0 : Below w.heap.size w (w.alloc (.cells #[.int .i64 a, .int .i64 b, .int .i64 c] 68)) := pa pr
  generalize w.alloc (.cells #[.int .i64 a, .int .i64 b, .int .i64 c] 68) = v0 at *
  have p0 := P0.cellAt 0 rfl; have p1 := P0.cellAt 1 rfl; have p2 := P0.cellAt 2 rfl; have pl := P0.lt
  refine wp_loop_rounds 4 ?_
  rw [rounds_succ]
  go_wp2
  refine region_below 20 follows_mixed (by kernel_rfl) ?_
  intro C hC
  simp only [List.take_succ_cons, List.take_zero, List.drop_succ_cons, List.drop_zero]
  repeat (first
    | ((with_reducible refine quiet_plain rfl (fun K hK => ?_)); (focus (apply quiet_val; (focus (intro w' hw; obtain ⟨hcq, hfq⟩ := bcell ((hC.out _).1 hw); go_simp; (first | done | rfl))); (simp only [Act.put, List.setIfInBounds_toArray, List.set_cons_succ, List.set_cons_zero]); (with_reducible refine hK _ ?_); clear hK K)))
    | ((with_reducible refine quiet_skip ?_ ?_); (focus (first | (simp [Region.wanted, yielded]; done) | (simp [Region.wanted, yielded, undef]; done))); simp only [Act.put, List.setIfInBounds_toArray, List.set_cons_succ, List.set_cons_zero])
    | ((with_reducible refine quiet_go ?_ (fun K hK => ?_)); (focus (first | (simp [Region.wanted, yielded]; done) | (simp [Region.wanted, yielded, undef]; done))); (focus (apply quiet_val; (focus (intro w' hw; obtain ⟨hcq, hfq⟩ := bcell ((hC.out _).1 hw); go_simp; (first | done | rfl))); (simp only [Act.put, List.setIfInBounds_toArray, List.set_cons_succ, List.set_cons_zero]); (with_reducible refine hK _ ?_); clear hK K))))
  refine wpQuiet_nil ?_
  intro w1 hb1
  replace hb1 := (hC.out _).1 hb1
  clear hC C
  obtain ⟨hc1, hf1⟩ := bcell hb1
  have P1 := P0.past hb1; have S1 := pt S0 hb1
  clear hb1 hc1 hf1 P0 S0 p0 p1 p2 pl
  obtain ⟨v1, rfl⟩ : ∃ v, v = w1 := ⟨_, rfl⟩
  have p0 := P1.cellAt 0 rfl; have p1 := P1.cellAt 1 rfl; have p2 := P1.cellAt 2 rfl; have pl := P1.lt
  go_wp2
  go_ret
  exact ⟨rfl, S1⟩

set_option maxHeartbeats 4000000 in
set_option maxRecDepth 100000 in
theorem refIsPerm_1 (a b c : Int) (h0 : ¬ a < 0) (h1 : 2 < a) (w : World) :
    Calls Tryz.prog 34 #[.agg #[.int .i64 a, .int .i64 b, .int .i64 c]] w fun e w' => e = .returned (.bool false) ∧ Below w.heap.size w w' := by
  have z1 : IntKind.i64.wrap 1 = 1 := by decide
  have z2 : IntKind.i64.wrap 2 = 2 := by decide
  have z3 : IntKind.i64.wrap 3 = 3 := by decide
  have g0 : decide (a < 0) = false := by simpa using h0
  have f0 : (a < 0) = False := by simpa using h0
  have g1 : decide (2 < a) = true := by simpa using h1
  have f1 : (2 < a) = True := by simpa using h1
  go_enter Tryz.func34, Tryz.ntmps34
  go_wp2
  have P0 : Blk (w.alloc (.cells #[.int .i64 a, .int .i64 b, .int .i64 c] 68)) w.heap.size 68 #[.int .i64 a, .int .i64 b, .int .i64 c] := Blk.newAt rfl
  have S0 : Below w.heap.size w (w.alloc (.cells #[.int .i64 a, .int .i64 b, .int .i64 c] 68)) := pa pr
  generalize w.alloc (.cells #[.int .i64 a, .int .i64 b, .int .i64 c] 68) = v0 at *
  have p0 := P0.cellAt 0 rfl; have p1 := P0.cellAt 1 rfl; have p2 := P0.cellAt 2 rfl; have pl := P0.lt
  refine wp_loop_rounds 4 ?_
  rw [rounds_succ]
  go_wp2
  refine region_below 20 follows_mixed (by kernel_rfl) ?_
  intro C hC
  simp only [List.take_succ_cons, List.take_zero, List.drop_succ_cons, List.drop_zero]
  repeat (first
    | ((with_reducible refine quiet_plain rfl (fun K hK => ?_)); (focus (apply quiet_val; (focus (intro w' hw; obtain ⟨hcq, hfq⟩ := bcell ((hC.out _).1 hw); go_simp; (first | done | rfl))); (simp only [Act.put, List.setIfInBounds_toArray, List.set_cons_succ, List.set_cons_zero]); (with_reducible refine hK _ ?_); clear hK K)))
    | ((with_reducible refine quiet_skip ?_ ?_); (focus (first | (simp [Region.wanted, yielded]; done) | (simp [Region.wanted, yielded, undef]; done))); simp only [Act.put, List.setIfInBounds_toArray, List.set_cons_succ, List.set_cons_zero])
    | ((with_reducible refine quiet_go ?_ (fun K hK => ?_)); (focus (first | (simp [Region.wanted, yielded]; done) | (simp [Region.wanted, yielded, undef]; done))); (focus (apply quiet_val; (focus (intro w' hw; obtain ⟨hcq, hfq⟩ := bcell ((hC.out _).1 hw); go_simp; (first | done | rfl))); (simp only [Act.put, List.setIfInBounds_toArray, List.set_cons_succ, List.set_cons_zero]); (with_reducible refine hK _ ?_); clear hK K))))
  refine wpQuiet_nil ?_
  intro w1 hb1
  replace hb1 := (hC.out _).1 hb1
  clear hC C
  obtain ⟨hc1, hf1⟩ := bcell hb1
  have P1 := P0.past hb1; have S1 := pt S0 hb1
  clear hb1 hc1 hf1 P0 S0 p0 p1 p2 pl
  obtain ⟨v1, rfl⟩ : ∃ v, v = w1 := ⟨_, rfl⟩
  have p0 := P1.cellAt 0 rfl; have p1 := P1.cellAt 1 rfl; have p2 := P1.cellAt 2 rfl; have pl := P1.lt
  go_wp2
  go_ret
  exact ⟨rfl, S1⟩

set_option maxHeartbeats 4000000 in
set_option maxRecDepth 100000 in
theorem refIsPerm_2 (a b c : Int) (h0 : ¬ a < 0) (h1 : ¬ 2 < a) (h2 : a = b) (w : World) :
    Calls Tryz.prog 34 #[.agg #[.int .i64 a, .int .i64 b, .int .i64 c]] w fun e w' => e = .returned (.bool false) ∧ Below w.heap.size w w' := by
  have z1 : IntKind.i64.wrap 1 = 1 := by decide
  have z2 : IntKind.i64.wrap 2 = 2 := by decide
  have z3 : IntKind.i64.wrap 3 = 3 := by decide
  subst h2
  have g0 : decide (a < 0) = false := by simpa using h0
  have f0 : (a < 0) = False := by simpa using h0
  have g1 : decide (2 < a) = false := by simpa using h1
  have f1 : (2 < a) = False := by simpa using h1
  go_enter Tryz.func34, Tryz.ntmps34
  go_wp2
  have P0 : Blk (w.alloc (.cells #[.int .i64 a, .int .i64 a, .int .i64 c] 68)) w.heap.size 68 #[.int .i64 a, .int .i64 a, .int .i64 c] := Blk.newAt rfl
  have S0 : Below w.heap.size w (w.alloc (.cells #[.int .i64 a, .int .i64 a, .int .i64 c] 68)) := pa pr
  generalize w.alloc (.cells #[.int .i64 a, .int .i64 a, .int .i64 c] 68) = v0 at *
  have p0 := P0.cellAt 0 rfl; have p1 := P0.cellAt 1 rfl; have p2 := P0.cellAt 2 rfl; have pl := P0.lt
  refine wp_loop_rounds 4 ?_
  rw [rounds_succ]
  go_wp2
  refine region_below 20 follows_mixed (by kernel_rfl) ?_
  intro C hC
  simp only [List.take_succ_cons, List.take_zero, List.drop_succ_cons, List.drop_zero]
  repeat (first
    | ((with_reducible refine quiet_plain rfl (fun K hK => ?_)); (focus (apply quiet_val; (focus (intro w' hw; obtain ⟨hcq, hfq⟩ := bcell ((hC.out _).1 hw); go_simp; (first | done | rfl))); (simp only [Act.put, List.setIfInBounds_toArray, List.set_cons_succ, List.set_cons_zero]); (with_reducible refine hK _ ?_); clear hK K)))
    | ((with_reducible refine quiet_skip ?_ ?_); (focus (first | (simp [Region.wanted, yielded]; done) | (simp [Region.wanted, yielded, undef]; done))); simp only [Act.put, List.setIfInBounds_toArray, List.set_cons_succ, List.set_cons_zero])
    | ((with_reducible refine quiet_go ?_ (fun K hK => ?_)); (focus (first | (simp [Region.wanted, yielded]; done) | (simp [Region.wanted, yielded, undef]; done))); (focus (apply quiet_val; (focus (intro w' hw; obtain ⟨hcq, hfq⟩ := bcell ((hC.out _).1 hw); go_simp; (first | done | rfl))); (simp only [Act.put, List.setIfInBounds_toArray, List.set_cons_succ, List.set_cons_zero]); (with_reducible refine hK _ ?_); clear hK K))))
  refine wpQuiet_nil ?_
  intro w1 hb1
  replace hb1 := (hC.out _).1 hb1
  clear hC C
  obtain ⟨hc1, hf1⟩ := bcell hb1
  have P1 := P0.past hb1; have S1 := pt S0 hb1
  clear hb1 hc1 hf1 P0 S0 p0 p1 p2 pl
  obtain ⟨v1, rfl⟩ : ∃ v, v = w1 := ⟨_, rfl⟩
  have p0 := P1.cellAt 0 rfl; have p1 := P1.cellAt 1 rfl; have p2 := P1.cellAt 2 rfl; have pl := P1.lt
  go_wp2
  go_ret
  exact ⟨rfl, S1⟩

set_option maxHeartbeats 4000000 in
set_option maxRecDepth 100000 in
theorem refIsPerm_3 (a b c : Int) (h0 : ¬ a < 0) (h1 : ¬ 2 < a) (h2 : ¬ a = b) (h3 : b < 0) (w : World) :
    Calls Tryz.prog 34 #[.agg #[.int .i64 a, .int .i64 b, .int .i64 c]] w fun e w' => e = .returned (.bool false) ∧ Below w.heap.size w w' := by
  have z1 : IntKind.i64.wrap 1 = 1 := by decide
  have z2 : IntKind.i64.wrap 2 = 2 := by decide
  have z3 : IntKind.i64.wrap 3 = 3 := by decide
  have g0 : decide (a < 0) = false := by simpa using h0
  have f0 : (a < 0) = False := by simpa using h0
  have g1 : decide (2 < a) = false := by simpa using h1
  have f1 : (2 < a) = False := by simpa using h1
  have g2 : (a == b) = false := by simpa using h2
  have g3 : decide (b < 0) = true := by simpa using h3
  have f3 : (b < 0) = True := by simpa using h3
  go_enter Tryz.func34, Tryz.ntmps34
  go_wp2
  have P0 : Blk (w.alloc (.cells #[.int .i64 a, .int .i64 b, .int .i64 c] 68)) w.heap.size 68 #[.int .i64 a, .int .i64 b, .int .i64 c] := Blk.newAt rfl
  have S0 : Below w.heap.size w (w.alloc (.cells #[.int .i64 a, .int .i64 b, .int .i64 c] 68)) := pa pr
  generalize w.alloc (.cells #[.int .i64 a, .int .i64 b, .int .i64 c] 68) = v0 at *
  have p0 := P0.cellAt 0 rfl; have p1 := P0.cellAt 1 rfl; have p2 := P0.cellAt 2 rfl; have pl := P0.lt
  refine wp_loop_rounds 4 ?_
  rw [rounds_succ]
  go_wp2
  refine region_below 20 follows_mixed (by kernel_rfl) ?_
  intro C hC
  simp only [List.take_succ_cons, List.take_zero, List.drop_succ_cons, List.drop_zero]
  repeat (first
    | ((with_reducible refine quiet_plain rfl (fun K hK => ?_)); (focus (apply quiet_val; (focus (intro w' hw; obtain ⟨hcq, hfq⟩ := bcell ((hC.out _).1 hw); go_simp; (first | done | rfl))); (simp only [Act.put, List.setIfInBounds_toArray, List.set_cons_succ, List.set_cons_zero]); (with_reducible refine hK _ ?_); clear hK K)))
    | ((with_reducible refine quiet_skip ?_ ?_); (focus (first | (simp [Region.wanted, yielded]; done) | (simp [Region.wanted, yielded, undef]; done))); simp only [Act.put, List.setIfInBounds_toArray, List.set_cons_succ, List.set_cons_zero])
    | ((with_reducible refine quiet_go ?_ (fun K hK => ?_)); (focus (first | (simp [Region.wanted, yielded]; done) | (simp [Region.wanted, yielded, undef]; done))); (focus (apply quiet_val; (focus (intro w' hw; obtain ⟨hcq, hfq⟩ := bcell ((hC.out _).1 hw); go_simp; (first | done | rfl))); (simp only [Act.put, List.setIfInBounds_toArray, List.set_cons_succ, List.set_cons_zero]); (with_reducible refine hK _ ?_); clear hK K))))
  refine wpQuiet_nil ?_
  intro w1 hb1
  replace hb1 := (hC.out _).1 hb1
  clear hC C
  obtain ⟨hc1, hf1⟩ := bcell hb1
  have P1 := P0.past hb1; have S1 := pt S0 hb1
  clear hb1 hc1 hf1 P0 S0 p0 p1 p2 pl
  obtain ⟨v1, rfl⟩ : ∃ v, v = w1 := ⟨_, rfl⟩
  have p0 := P1.cellAt 0 rfl; have p1 := P1.cellAt 1 rfl; have p2 := P1.cellAt 2 rfl; have pl := P1.lt
  go_wp2
  rw [rounds_succ]
  go_wp2
  refine region_below 20 follows_mixed (by kernel_rfl) ?_
  intro C hC
  simp only [List.take_succ_cons, List.take_zero, List.drop_succ_cons, List.drop_zero]
  repeat (first
    | ((with_reducible refine quiet_plain rfl (fun K hK => ?_)); (focus (apply quiet_val; (focus (intro w' hw; obtain ⟨hcq, hfq⟩ := bcell ((hC.out _).1 hw); go_simp; (first | done | rfl))); (simp only [Act.put, List.setIfInBounds_toArray, List.set_cons_succ, List.set_cons_zero]); (with_reducible refine hK _ ?_); clear hK K)))
    | ((with_reducible refine quiet_skip ?_ ?_); (focus (first | (simp [Region.wanted, yielded]; done) | (simp [Region.wanted, yielded, undef]; done))); simp only [Act.put, List.setIfInBounds_toArray, List.set_cons_succ, List.set_cons_zero])
    | ((with_reducible refine quiet_go ?_ (fun K hK => ?_)); (focus (first | (simp [Region.wanted, yielded]; done) | (simp [Region.wanted, yielded, undef]; done))); (focus (apply quiet_val; (focus (intro w' hw; obtain ⟨hcq, hfq⟩ := bcell ((hC.out _).1 hw); go_simp; (first | done | rfl))); (simp only [Act.put, List.setIfInBounds_toArray, List.set_cons_succ, List.set_cons_zero]); (with_reducible refine hK _ ?_); clear hK K))))
  refine wpQuiet_nil ?_
  intro w1 hb1
  replace hb1 := (hC.out _).1 hb1
  clear hC C
  obtain ⟨hc1, hf1⟩ := bcell hb1
  have P2 := P1.past hb1; have S2 := pt S1 hb1
  clear hb1 hc1 hf1 P1 S1 p0 p1 p2 pl
  obtain ⟨v2, rfl⟩ : ∃ v, v = w1 := ⟨_, rfl⟩
  have p0 := P2.cellAt 0 rfl; have p1 := P2.cellAt 1 rfl; have p2 := P2.cellAt 2 rfl; have pl := P2.lt
  go_wp2
  go_ret
  exact ⟨rfl, S2⟩

set_option maxHeartbeats 4000000 in
set_option maxRecDepth 100000 in
theorem refIsPerm_4 (a b c : Int) (h0 : ¬ a < 0) (h1 : ¬ 2 < a) (h2 : ¬ a = b) (h3 : ¬ b < 0) (h4 : 2 < b) (w : World) :
    Calls Tryz.prog 34 #[.agg #[.int .i64 a, .int .i64 b, .int .i64 c]] w fun e w' => e = .returned (.bool false) ∧ Below w.heap.size w w' := by
  have z1 : IntKind.i64.wrap 1 = 1 := by decide
  have z2 : IntKind.i64.wrap 2 = 2 := by decide
  have z3 : IntKind.i64.wrap 3 = 3 := by decide
  have g0 : decide (a < 0) = false := by simpa using h0
  have f0 : (a < 0) = False := by simpa using h0
  have g1 : decide (2 < a) = false := by simpa using h1
  have f1 : (2 < a) = False := by simpa using h1
  have g2 : (a == b) = false := by simpa using h2
  have g3 : decide (b < 0) = false := by simpa using h3
  have f3 : (b < 0) = False := by simpa using h3
  have g4 : decide (2 < b) = true := by simpa using h4
  have f4 : (2 < b) = True := by simpa using h4
  go_enter Tryz.func34, Tryz.ntmps34
  go_wp2
  have P0 : Blk (w.alloc (.cells #[.int .i64 a, .int .i64 b, .int .i64 c] 68)) w.heap.size 68 #[.int .i64 a, .int .i64 b, .int .i64 c] := Blk.newAt rfl
  have S0 : Below w.heap.size w (w.alloc (.cells #[.int .i64 a, .int .i64 b, .int .i64 c] 68)) := pa pr
  generalize w.alloc (.cells #[.int .i64 a, .int .i64 b, .int .i64 c] 68) = v0 at *
  have p0 := P0.cellAt 0 rfl; have p1 := P0.cellAt 1 rfl; have p2 := P0.cellAt 2 rfl; have pl := P0.lt
  refine wp_loop_rounds 4 ?_
  rw [rounds_succ]
  go_wp2
  refine region_below 20 follows_mixed (by kernel_rfl) ?_
  intro C hC
  simp only [List.take_succ_cons, List.take_zero, List.drop_succ_cons, List.drop_zero]
  repeat (first
    | ((with_reducible refine quiet_plain rfl (fun K hK => ?_)); (focus (apply quiet_val; (focus (intro w' hw; obtain ⟨hcq, hfq⟩ := bcell ((hC.out _).1 hw); go_simp; (first | done | rfl))); (simp only [Act.put, List.setIfInBounds_toArray, List.set_cons_succ, List.set_cons_zero]); (with_reducible refine hK _ ?_); clear hK K)))
    | ((with_reducible refine quiet_skip ?_ ?_); (focus (first | (simp [Region.wanted, yielded]; done) | (simp [Region.wanted, yielded, undef]; done))); simp only [Act.put, List.setIfInBounds_toArray, List.set_cons_succ, List.set_cons_zero])
    | ((with_reducible refine quiet_go ?_ (fun K hK => ?_)); (focus (first | (simp [Region.wanted, yielded]; done) | (simp [Region.wanted, yielded, undef]; done))); (focus (apply quiet_val; (focus (intro w' hw; obtain ⟨hcq, hfq⟩ := bcell ((hC.out _).1 hw); go_simp; (first | done | rfl))); (simp only [Act.put, List.setIfInBounds_toArray, List.set_cons_succ, List.set_cons_zero]); (with_reducible refine hK _ ?_); clear hK K))))
  refine wpQuiet_nil ?_
  intro w1 hb1
  replace hb1 := (hC.out _).1 hb1
  clear hC C
  obtain ⟨hc1, hf1⟩ := bcell hb1
  have P1 := P0.past hb1; have S1 := pt S0 hb1
  clear hb1 hc1 hf1 P0 S0 p0 p1 p2 pl
  obtain ⟨v1, rfl⟩ : ∃ v, v = w1 := ⟨_, rfl⟩
  have p0 := P1.cellAt 0 rfl; have p1 := P1.cellAt 1 rfl; have p2 := P1.cellAt 2 rfl; have pl := P1.lt
  go_wp2
  rw [rounds_succ]
  go_wp2
  refine region_below 20 follows_mixed (by kernel_rfl) ?_
  intro C hC
  simp only [List.take_succ_cons, List.take_zero, List.drop_succ_cons, List.drop_zero]
  repeat (first
    | ((with_reducible refine quiet_plain rfl (fun K hK => ?_)); (focus (apply quiet_val; (focus (intro w' hw; obtain ⟨hcq, hfq⟩ := bcell ((hC.out _).1 hw); go_simp; (first | done | rfl))); (simp only [Act.put, List.setIfInBounds_toArray, List.set_cons_succ, List.set_cons_zero]); (with_reducible refine hK _ ?_); clear hK K)))
    | ((with_reducible refine quiet_skip ?_ ?_); (focus (first | (simp [Region.wanted, yielded]; done) | (simp [Region.wanted, yielded, undef]; done))); simp only [Act.put, List.setIfInBounds_toArray, List.set_cons_succ, List.set_cons_zero])
    | ((with_reducible refine quiet_go ?_ (fun K hK => ?_)); (focus (first | (simp [Region.wanted, yielded]; done) | (simp [Region.wanted, yielded, undef]; done))); (focus (apply quiet_val; (focus (intro w' hw; obtain ⟨hcq, hfq⟩ := bcell ((hC.out _).1 hw); go_simp; (first | done | rfl))); (simp only [Act.put, List.setIfInBounds_toArray, List.set_cons_succ, List.set_cons_zero]); (with_reducible refine hK _ ?_); clear hK K))))
  refine wpQuiet_nil ?_
  intro w1 hb1
  replace hb1 := (hC.out _).1 hb1
  clear hC C
  obtain ⟨hc1, hf1⟩ := bcell hb1
  have P2 := P1.past hb1; have S2 := pt S1 hb1
  clear hb1 hc1 hf1 P1 S1 p0 p1 p2 pl
  obtain ⟨v2, rfl⟩ : ∃ v, v = w1 := ⟨_, rfl⟩
  have p0 := P2.cellAt 0 rfl; have p1 := P2.cellAt 1 rfl; have p2 := P2.cellAt 2 rfl; have pl := P2.lt
  go_wp2
  go_ret
  exact ⟨rfl, S2⟩

set_option maxHeartbeats 4000000 in
set_option maxRecDepth 100000 in
theorem refIsPerm_5 (a b c : Int) (h0 : ¬ a < 0) (h1 : ¬ 2 < a) (h2 : ¬ a = b) (h3 : ¬ b < 0) (h4 : ¬ 2 < b) (h5 : b = c) (w : World) :
    Calls Tryz.prog 34 #[.agg #[.int .i64 a, .int .i64 b, .int .i64 c]] w fun e w' => e = .returned (.bool false) ∧ Below w.heap.size w w' := by
  have z1 : IntKind.i64.wrap 1 = 1 := by decide
  have z2 : IntKind.i64.wrap 2 = 2 := by decide
  have z3 : IntKind.i64.wrap 3 = 3 := by decide
  subst h5
  have g0 : decide (a < 0) = false := by simpa using h0
  have f0 : (a < 0) = False := by simpa using h0
  have g1 : decide (2 < a) = false := by simpa using h1
  have f1 : (2 < a) = False := by simpa using h1
  have g2 : (a == b) = false := by simpa using h2
  have g3 : decide (b < 0) = false := by simpa using h3
  have f3 : (b < 0) = False := by simpa using h3
  have g4 : decide (2 < b) = false := by simpa using h4
  have f4 : (2 < b) = False := by simpa using h4
  go_enter Tryz.func34, Tryz.ntmps34
  go_wp2
  have P0 : Blk (w.alloc (.cells #[.int .i64 a, .int .i64 b, .int .i64 b] 68)) w.heap.size 68 #[.int .i64 a, .int .i64 b, .int .i64 b] := Blk.newAt rfl
  have S0 : Below w.heap.size w (w.alloc (.cells #[.int .i64 a, .int .i64 b, .int .i64 b] 68)) := pa pr
  generalize w.alloc (.cells #[.int .i64 a, .int .i64 b, .int .i64 b] 68) = v0 at *
  have p0 := P0.cellAt 0 rfl; have p1 := P0.cellAt 1 rfl; have p2 := P0.cellAt 2 rfl; have pl := P0.lt
  refine wp_loop_rounds 4 ?_
  rw [rounds_succ]
  go_wp2
  refine region_below 20 follows_mixed (by kernel_rfl) ?_
  intro C hC
  simp only [List.take_succ_cons, List.take_zero, List.drop_succ_cons, List.drop_zero]
  repeat (first
    | ((with_reducible refine quiet_plain rfl (fun K hK => ?_)); (focus (apply quiet_val; (focus (intro w' hw; obtain ⟨hcq, hfq⟩ := bcell ((hC.out _).1 hw); go_simp; (first | done | rfl))); (simp only [Act.put, List.setIfInBounds_toArray, List.set_cons_succ, List.set_cons_zero]); (with_reducible refine hK _ ?_); clear hK K)))
    | ((with_reducible refine quiet_skip ?_ ?_); (focus (first | (simp [Region.wanted, yielded]; done) | (simp [Region.wanted, yielded, undef]; done))); simp only [Act.put, List.setIfInBounds_toArray, List.set_cons_succ, List.set_cons_zero])
    | ((with_reducible refine quiet_go ?_ (fun K hK => ?_)); (focus (first | (simp [Region.wanted, yielded]; done) | (simp [Region.wanted, yielded, undef]; done))); (focus (apply quiet_val; (focus (intro w' hw; obtain ⟨hcq, hfq⟩ := bcell ((hC.out _).1 hw); go_simp; (first | done | rfl))); (simp only [Act.put, List.setIfInBounds_toArray, List.set_cons_succ, List.set_cons_zero]); (with_reducible refine hK _ ?_); clear hK K))))
  refine wpQuiet_nil ?_
  intro w1 hb1
  replace hb1 := (hC.out _).1 hb1
  clear hC C
  obtain ⟨hc1, hf1⟩ := bcell hb1
  have P1 := P0.past hb1; have S1 := pt S0 hb1
  clear hb1 hc1 hf1 P0 S0 p0 p1 p2 pl
  obtain ⟨v1, rfl⟩ : ∃ v, v = w1 := ⟨_, rfl⟩
  have p0 := P1.cellAt 0 rfl; have p1 := P1.cellAt 1 rfl; have p2 := P1.cellAt 2 rfl; have pl := P1.lt
  go_wp2
  rw [rounds_succ]
  go_wp2
  refine region_below 20 follows_mixed (by kernel_rfl) ?_
  intro C hC
  simp only [List.take_succ_cons, List.take_zero, List.drop_succ_cons, List.drop_zero]
  repeat (first
    | ((with_reducible refine quiet_plain rfl (fun K hK => ?_)); (focus (apply quiet_val; (focus (intro w' hw; obtain ⟨hcq, hfq⟩ := bcell ((hC.out _).1 hw); go_simp; (first | done | rfl))); (simp only [Act.put, List.setIfInBounds_toArray, List.set_cons_succ, List.set_cons_zero]); (with_reducible refine hK _ ?_); clear hK K)))
    | ((with_reducible refine quiet_skip ?_ ?_); (focus (first | (simp [Region.wanted, yielded]; done) | (simp [Region.wanted, yielded, undef]; done))); simp only [Act.put, List.setIfInBounds_toArray, List.set_cons_succ, List.set_cons_zero])
    | ((with_reducible refine quiet_go ?_ (fun K hK => ?_)); (focus (first | (simp [Region.wanted, yielded]; done) | (simp [Region.wanted, yielded, undef]; done))); (focus (apply quiet_val; (focus (intro w' hw; obtain ⟨hcq, hfq⟩ := bcell ((hC.out _).1 hw); go_simp; (first | done | rfl))); (simp only [Act.put, List.setIfInBounds_toArray, List.set_cons_succ, List.set_cons_zero]); (with_reducible refine hK _ ?_); clear hK K))))
  refine wpQuiet_nil ?_
  intro w1 hb1
  replace hb1 := (hC.out _).1 hb1
  clear hC C
  obtain ⟨hc1, hf1⟩ := bcell hb1
  have P2 := P1.past hb1; have S2 := pt S1 hb1
  clear hb1 hc1 hf1 P1 S1 p0 p1 p2 pl
  obtain ⟨v2, rfl⟩ : ∃ v, v = w1 := ⟨_, rfl⟩
  have p0 := P2.cellAt 0 rfl; have p1 := P2.cellAt 1 rfl; have p2 := P2.cellAt 2 rfl; have pl := P2.lt
  go_wp2
  go_ret
  exact ⟨rfl, S2⟩

set_option maxHeartbeats 4000000 in
set_option maxRecDepth 100000 in
theorem refIsPerm_6 (a b c : Int) (h0 : ¬ a < 0) (h1 : ¬ 2 < a) (h2 : ¬ a = b) (h3 : ¬ b < 0) (h4 : ¬ 2 < b) (h5 : ¬ b = c) (h6 : c < 0) (w : World) :
    Calls Tryz.prog 34 #[.agg #[.int .i64 a, .int .i64 b, .int .i64 c]] w fun e w' => e = .returned (.bool false) ∧ Below w.heap.size w w' := by
  have z1 : IntKind.i64.wrap 1 = 1 := by decide
  have z2 : IntKind.i64.wrap 2 = 2 := by decide
  have z3 : IntKind.i64.wrap 3 = 3 := by decide
  have g0 : decide (a < 0) = false := by simpa using h0
  have f0 : (a < 0) = False := by simpa using h0
  have g1 : decide (2 < a) = false := by simpa using h1
  have f1 : (2 < a) = False := by simpa using h1
  have g2 : (a == b) = false := by simpa using h2
  have g3 : decide (b < 0) = false := by simpa using h3
  have f3 : (b < 0) = False := by simpa using h3
  have g4 : decide (2 < b) = false := by simpa using h4
  have f4 : (2 < b) = False := by simpa using h4
  have g5 : (b == c) = false := by simpa using h5
  have g6 : decide (c < 0) = true := by simpa using h6
  have f6 : (c < 0) = True := by simpa using h6
  go_enter Tryz.func34, Tryz.ntmps34
  go_wp2
  have P0 : Blk (w.alloc (.cells #[.int .i64 a, .int .i64 b, .int .i64 c] 68)) w.heap.size 68 #[.int .i64 a, .int .i64 b, .int .i64 c] := Blk.newAt rfl
  have S0 : Below w.heap.size w (w.alloc (.cells #[.int .i64 a, .int .i64 b, .int .i64 c] 68)) := pa pr
  generalize w.alloc (.cells #[.int .i64 a, .int .i64 b, .int .i64 c] 68) = v0 at *
  have p0 := P0.cellAt 0 rfl; have p1 := P0.cellAt 1 rfl; have p2 := P0.cellAt 2 rfl; have pl := P0.lt
  refine wp_loop_rounds 4 ?_
  rw [rounds_succ]
  go_wp2
  refine region_below 20 follows_mixed (by kernel_rfl) ?_
  intro C hC
  simp only [List.take_succ_cons, List.take_zero, List.drop_succ_cons, List.drop_zero]
  repeat (first
    | ((with_reducible refine quiet_plain rfl (fun K hK => ?_)); (focus (apply quiet_val; (focus (intro w' hw; obtain ⟨hcq, hfq⟩ := bcell ((hC.out _).1 hw); go_simp; (first | done | rfl))); (simp only [Act.put, List.setIfInBounds_toArray, List.set_cons_succ, List.set_cons_zero]); (with_reducible refine hK _ ?_); clear hK K)))
    | ((with_reducible refine quiet_skip ?_ ?_); (focus (first | (simp [Region.wanted, yielded]; done) | (simp [Region.wanted, yielded, undef]; done))); simp only [Act.put, List.setIfInBounds_toArray, List.set_cons_succ, List.set_cons_zero])
    | ((with_reducible refine quiet_go ?_ (fun K hK => ?_)); (focus (first | (simp [Region.wanted, yielded]; done) | (simp [Region.wanted, yielded, undef]; done))); (focus (apply quiet_val; (focus (intro w' hw; obtain ⟨hcq, hfq⟩ := bcell ((hC.out _).1 hw); go_simp; (first | done | rfl))); (simp only [Act.put, List.setIfInBounds_toArray, List.set_cons_succ, List.set_cons_zero]); (with_reducible refine hK _ ?_); clear hK K))))
  refine wpQuiet_nil ?_
  intro w1 hb1
  replace hb1 := (hC.out _).1 hb1
  clear hC C
  obtain ⟨hc1, hf1⟩ := bcell hb1
  have P1 := P0.past hb1; have S1 := pt S0 hb1
  clear hb1 hc1 hf1 P0 S0 p0 p1 p2 pl
  obtain ⟨v1, rfl⟩ : ∃ v, v = w1 := ⟨_, rfl⟩
  have p0 := P1.cellAt 0 rfl; have p1 := P1.cellAt 1 rfl; have p2 := P1.cellAt 2 rfl; have pl := P1.lt
  go_wp2
  rw [rounds_succ]
  go_wp2
  refine region_below 20 follows_mixed (by kernel_rfl) ?_
  intro C hC
  simp only [List.take_succ_cons, List.take_zero, List.drop_succ_cons, List.drop_zero]
  repeat (first
    | ((with_reducible refine quiet_plain rfl (fun K hK => ?_)); (focus (apply quiet_val; (focus (intro w' hw; obtain ⟨hcq, hfq⟩ := bcell ((hC.out _).1 hw); go_simp; (first | done | rfl))); (simp only [Act.put, List.setIfInBounds_toArray, List.set_cons_succ, List.set_cons_zero]); (with_reducible refine hK _ ?_); clear hK K)))
    | ((with_reducible refine quiet_skip ?_ ?_); (focus (first | (simp [Region.wanted, yielded]; done) | (simp [Region.wanted, yielded, undef]; done))); simp only [Act.put, List.setIfInBounds_toArray, List.set_cons_succ, List.set_cons_zero])
    | ((with_reducible refine quiet_go ?_ (fun K hK => ?_)); (focus (first | (simp [Region.wanted, yielded]; done) | (simp [Region.wanted, yielded, undef]; done))); (focus (apply quiet_val; (focus (intro w' hw; obtain ⟨hcq, hfq⟩ := bcell ((hC.out _).1 hw); go_simp; (first | done | rfl))); (simp only [Act.put, List.setIfInBounds_toArray, List.set_cons_succ, List.set_cons_zero]); (with_reducible refine hK _ ?_); clear hK K))))
  refine wpQuiet_nil ?_
  intro w1 hb1
  replace hb1 := (hC.out _).1 hb1
  clear hC C
  obtain ⟨hc1, hf1⟩ := bcell hb1
  have P2 := P1.past hb1; have S2 := pt S1 hb1
  clear hb1 hc1 hf1 P1 S1 p0 p1 p2 pl
  obtain ⟨v2, rfl⟩ : ∃ v, v = w1 := ⟨_, rfl⟩
  have p0 := P2.cellAt 0 rfl; have p1 := P2.cellAt 1 rfl; have p2 := P2.cellAt 2 rfl; have pl := P2.lt
  go_wp2
  rw [rounds_succ]
  go_wp2
  refine region_below 20 follows_mixed (by kernel_rfl) ?_
  intro C hC
  simp only [List.take_succ_cons, List.take_zero, List.drop_succ_cons, List.drop_zero]
  repeat (first
    | ((with_reducible refine quiet_plain rfl (fun K hK => ?_)); (focus (apply quiet_val; (focus (intro w' hw; obtain ⟨hcq, hfq⟩ := bcell ((hC.out _).1 hw); go_simp; (first | done | rfl))); (simp only [Act.put, List.setIfInBounds_toArray, List.set_cons_succ, List.set_cons_zero]); (with_reducible refine hK _ ?_); clear hK K)))
    | ((with_reducible refine quiet_skip ?_ ?_); (focus (first | (simp [Region.wanted, yielded]; done) | (simp [Region.wanted, yielded, undef]; done))); simp only [Act.put, List.setIfInBounds_toArray, List.set_cons_succ, List.set_cons_zero])
    | ((with_reducible refine quiet_go ?_ (fun K hK => ?_)); (focus (first | (simp [Region.wanted, yielded]; done) | (simp [Region.wanted, yielded, undef]; done))); (focus (apply quiet_val; (focus (intro w' hw; obtain ⟨hcq, hfq⟩ := bcell ((hC.out _).1 hw); go_simp; (first | done | rfl))); (simp only [Act.put, List.setIfInBounds_toArray, List.set_cons_succ, List.set_cons_zero]); (with_reducible refine hK _ ?_); clear hK K))))
  refine wpQuiet_nil ?_
  intro w1 hb1
  replace hb1 := (hC.out _).1 hb1
  clear hC C
  obtain ⟨hc1, hf1⟩ := bcell hb1
  have P3 := P2.past hb1; have S3 := pt S2 hb1
  clear hb1 hc1 hf1 P2 S2 p0 p1 p2 pl
  obtain ⟨v3, rfl⟩ : ∃ v, v = w1 := ⟨_, rfl⟩
  have p0 := P3.cellAt 0 rfl; have p1 := P3.cellAt 1 rfl; have p2 := P3.cellAt 2 rfl; have pl := P3.lt
  go_wp2
  go_ret
  exact ⟨rfl, S3⟩

set_option maxHeartbeats 4000000 in
set_option maxRecDepth 100000 in
theorem refIsPerm_7 (a b c : Int) (h0 : ¬ a < 0) (h1 : ¬ 2 < a) (h2 : ¬ a = b) (h3 : ¬ b < 0) (h4 : ¬ 2 < b) (h5 : ¬ b = c) (h6 : ¬ c < 0) (h7 : 2 < c) (w : World) :
    Calls Tryz.prog 34 #[.agg #[.int .i64 a, .int .i64 b, .int .i64 c]] w fun e w' => e = .returned (.bool false) ∧ Below w.heap.size w w' := by
  have z1 : IntKind.i64.wrap 1 = 1 := by decide
  have z2 : IntKind.i64.wrap 2 = 2 := by decide
  have z3 : IntKind.i64.wrap 3 = 3 := by decide
  have g0 : decide (a < 0) = false := by simpa using h0
  have f0 : (a < 0) = False := by simpa using h0
  have g1 : decide (2 < a) = false := by simpa using h1
  have f1 : (2 < a) = False := by simpa using h1
  have g2 : (a == b) = false := by simpa using h2
  have g3 : decide (b < 0) = false := by simpa using h3
  have f3 : (b < 0) = False := by simpa using h3
  have g4 : decide (2 < b) = false := by simpa using h4
  have f4 : (2 < b) = False := by simpa using h4
  have g5 : (b == c) = false := by simpa using h5
  have g6 : decide (c < 0) = false := by simpa using h6
  have f6 : (c < 0) = False := by simpa using h6
  have g7 : decide (2 < c) = true := by simpa using h7
  have f7 : (2 < c) = True := by simpa using h7
  go_enter Tryz.func34, Tryz.ntmps34
  go_wp2
  have P0 : Blk (w.alloc (.cells #[.int .i64 a, .int .i64 b, .int .i64 c] 68)) w.heap.size 68 #[.int .i64 a, .int .i64 b, .int .i64 c] := Blk.newAt rfl
  have S0 : Below w.heap.size w (w.alloc (.cells #[.int .i64 a, .int .i64 b, .int .i64 c] 68)) := pa pr
  generalize w.alloc (.cells #[.int .i64 a, .int .i64 b, .int .i64 c] 68) = v0 at *
  have p0 := P0.cellAt 0 rfl; have p1 := P0.cellAt 1 rfl; have p2 := P0.cellAt 2 rfl; have pl := P0.lt
  refine wp_loop_rounds 4 ?_
  rw [rounds_succ]
  go_wp2
  refine region_below 20 follows_mixed (by kernel_rfl) ?_
  intro C hC
  simp only [List.take_succ_cons, List.take_zero, List.drop_succ_cons, List.drop_zero]
  repeat (first
    | ((with_reducible refine quiet_plain rfl (fun K hK => ?_)); (focus (apply quiet_val; (focus (intro w' hw; obtain ⟨hcq, hfq⟩ := bcell ((hC.out _).1 hw); go_simp; (first | done | rfl))); (simp only [Act.put, List.setIfInBounds_toArray, List.set_cons_succ, List.set_cons_zero]); (with_reducible refine hK _ ?_); clear hK K)))
    | ((with_reducible refine quiet_skip ?_ ?_); (focus (first | (simp [Region.wanted, yielded]; done) | (simp [Region.wanted, yielded, undef]; done))); simp only [Act.put, List.setIfInBounds_toArray, List.set_cons_succ, List.set_cons_zero])
    | ((with_reducible refine quiet_go ?_ (fun K hK => ?_)); (focus (first | (simp [Region.wanted, yielded]; done) | (simp [Region.wanted, yielded, undef]; done))); (focus (apply quiet_val; (focus (intro w' hw; obtain ⟨hcq, hfq⟩ := bcell ((hC.out _).1 hw); go_simp; (first | done | rfl))); (simp only [Act.put, List.setIfInBounds_toArray, List.set_cons_succ, List.set_cons_zero]); (with_reducible refine hK _ ?_); clear hK K))))
  refine wpQuiet_nil ?_
  intro w1 hb1
  replace hb1 := (hC.out _).1 hb1
  clear hC C
  obtain ⟨hc1, hf1⟩ := bcell hb1
  have P1 := P0.past hb1; have S1 := pt S0 hb1
  clear hb1 hc1 hf1 P0 S0 p0 p1 p2 pl
  obtain ⟨v1, rfl⟩ : ∃ v, v = w1 := ⟨_, rfl⟩
  have p0 := P1.cellAt 0 rfl; have p1 := P1.cellAt 1 rfl; have p2 := P1.cellAt 2 rfl; have pl := P1.lt
  go_wp2
  rw [rounds_succ]
  go_wp2
  refine region_below 20 follows_mixed (by kernel_rfl) ?_
  intro C hC
  simp only [List.take_succ_cons, List.take_zero, List.drop_succ_cons, List.drop_zero]
  repeat (first
    | ((with_reducible refine quiet_plain rfl (fun K hK => ?_)); (focus (apply quiet_val; (focus (intro w' hw; obtain ⟨hcq, hfq⟩ := bcell ((hC.out _).1 hw); go_simp; (first | done | rfl))); (simp only [Act.put, List.setIfInBounds_toArray, List.set_cons_succ, List.set_cons_zero]); (with_reducible refine hK _ ?_); clear hK K)))
    | ((with_reducible refine quiet_skip ?_ ?_); (focus (first | (simp [Region.wanted, yielded]; done) | (simp [Region.wanted, yielded, undef]; done))); simp only [Act.put, List.setIfInBounds_toArray, List.set_cons_succ, List.set_cons_zero])
    | ((with_reducible refine quiet_go ?_ (fun K hK => ?_)); (focus (first | (simp [Region.wanted, yielded]; done) | (simp [Region.wanted, yielded, undef]; done))); (focus (apply quiet_val; (focus (intro w' hw; obtain ⟨hcq, hfq⟩ := bcell ((hC.out _).1 hw); go_simp; (first | done | rfl))); (simp only [Act.put, List.setIfInBounds_toArray, List.set_cons_succ, List.set_cons_zero]); (with_reducible refine hK _ ?_); clear hK K))))
  refine wpQuiet_nil ?_
  intro w1 hb1
  replace hb1 := (hC.out _).1 hb1
  clear hC C
  obtain ⟨hc1, hf1⟩ := bcell hb1
  have P2 := P1.past hb1; have S2 := pt S1 hb1
  clear hb1 hc1 hf1 P1 S1 p0 p1 p2 pl
  obtain ⟨v2, rfl⟩ : ∃ v, v = w1 := ⟨_, rfl⟩
  have p0 := P2.cellAt 0 rfl; have p1 := P2.cellAt 1 rfl; have p2 := P2.cellAt 2 rfl; have pl := P2.lt
  go_wp2
  rw [rounds_succ]
  go_wp2
  refine region_below 20 follows_mixed (by kernel_rfl) ?_
  intro C hC
  simp only [List.take_succ_cons, List.take_zero, List.drop_succ_cons, List.drop_zero]
  repeat (first
    | ((with_reducible refine quiet_plain rfl (fun K hK => ?_)); (focus (apply quiet_val; (focus (intro w' hw; obtain ⟨hcq, hfq⟩ := bcell ((hC.out _).1 hw); go_simp; (first | done | rfl))); (simp only [Act.put, List.setIfInBounds_toArray, List.set_cons_succ, List.set_cons_zero]); (with_reducible refine hK _ ?_); clear hK K)))
    | ((with_reducible refine quiet_skip ?_ ?_); (focus (first | (simp [Region.wanted, yielded]; done) | (simp [Region.wanted, yielded, undef]; done))); simp only [Act.put, List.setIfInBounds_toArray, List.set_cons_succ, List.set_cons_zero])
    | ((with_reducible refine quiet_go ?_ (fun K hK => ?_)); (focus (first | (simp [Region.wanted, yielded]; done) | (simp [Region.wanted, yielded, undef]; done))); (focus (apply quiet_val; (focus (intro w' hw; obtain ⟨hcq, hfq⟩ := bcell ((hC.out _).1 hw); go_simp; (first | done | rfl))); (simp only [Act.put, List.setIfInBounds_toArray, List.set_cons_succ, List.set_cons_zero]); (with_reducible refine hK _ ?_); clear hK K))))
  refine wpQuiet_nil ?_
  intro w1 hb1
  replace hb1 := (hC.out _).1 hb1
  clear hC C
  obtain ⟨hc1, hf1⟩ := bcell hb1
  have P3 := P2.past hb1; have S3 := pt S2 hb1
  clear hb1 hc1 hf1 P2 S2 p0 p1 p2 pl
  obtain ⟨v3, rfl⟩ : ∃ v, v = w1 := ⟨_, rfl⟩
  have p0 := P3.cellAt 0 rfl; have p1 := P3.cellAt 1 rfl; have p2 := P3.cellAt 2 rfl; have pl := P3.lt
  go_wp2
  go_ret
  exact ⟨rfl, S3⟩

set_option maxHeartbeats 4000000 in
set_option maxRecDepth 100000 in
theorem refIsPerm_8 (a b c : Int) (h0 : ¬ a < 0) (h1 : ¬ 2 < a) (h2 : ¬ a = b) (h3 : ¬ b < 0) (h4 : ¬ 2 < b) (h5 : ¬ b = c) (h6 : ¬ c < 0) (h7 : ¬ 2 < c) (h8 : c = a) (w : World) :
    Calls Tryz.prog 34 #[.agg #[.int .i64 a, .int .i64 b, .int .i64 c]] w fun e w' => e = .returned (.bool false) ∧ Below w.heap.size w w' := by
  have z1 : IntKind.i64.wrap 1 = 1 := by decide
  have z2 : IntKind.i64.wrap 2 = 2 := by decide
  have z3 : IntKind.i64.wrap 3 = 3 := by decide
  subst h8
  have g0 : decide (c < 0) = false := by simpa using h0
  have f0 : (c < 0) = False := by simpa using h0
  have g1 : decide (2 < c) = false := by simpa using h1
  have f1 : (2 < c) = False := by simpa using h1
  have g2 : (c == b) = false := by simpa using h2
  have g3 : decide (b < 0) = false := by simpa using h3
  have f3 : (b < 0) = False := by simpa using h3
  have g4 : decide (2 < b) = false := by simpa using h4
  have f4 : (2 < b) = False := by simpa using h4
  have g5 : (b == c) = false := by simpa using h5
  have g6 : decide (c < 0) = false := by simpa using h6
  have f6 : (c < 0) = False := by simpa using h6
  have g7 : decide (2 < c) = false := by simpa using h7
  have f7 : (2 < c) = False := by simpa using h7
  go_enter Tryz.func34, Tryz.ntmps34
  go_wp2
  have P0 : Blk (w.alloc (.cells #[.int .i64 c, .int .i64 b, .int .i64 c] 68)) w.heap.size 68 #[.int .i64 c, .int .i64 b, .int .i64 c] := Blk.newAt rfl
  have S0 : Below w.heap.size w (w.alloc (.cells #[.int .i64 c, .int .i64 b, .int .i64 c] 68)) := pa pr
  generalize w.alloc (.cells #[.int .i64 c, .int .i64 b, .int .i64 c] 68) = v0 at *
  have p0 := P0.cellAt 0 rfl; have p1 := P0.cellAt 1 rfl; have p2 := P0.cellAt 2 rfl; have pl := P0.lt
  refine wp_loop_rounds 4 ?_
  rw [rounds_succ]
  go_wp2
  refine region_below 20 follows_mixed (by kernel_rfl) ?_
  intro C hC
  simp only [List.take_succ_cons, List.take_zero, List.drop_succ_cons, List.drop_zero]
  repeat (first
    | ((with_reducible refine quiet_plain rfl (fun K hK => ?_)); (focus (apply quiet_val; (focus (intro w' hw; obtain ⟨hcq, hfq⟩ := bcell ((hC.out _).1 hw); go_simp; (first | done | rfl))); (simp only [Act.put, List.setIfInBounds_toArray, List.set_cons_succ, List.set_cons_zero]); (with_reducible refine hK _ ?_); clear hK K)))
    | ((with_reducible refine quiet_skip ?_ ?_); (focus (first | (simp [Region.wanted, yielded]; done) | (simp [Region.wanted, yielded, undef]; done))); simp only [Act.put, List.setIfInBounds_toArray, List.set_cons_succ, List.set_cons_zero])
    | ((with_reducible refine quiet_go ?_ (fun K hK => ?_)); (focus (first | (simp [Region.wanted, yielded]; done) | (simp [Region.wanted, yielded, undef]; done))); (focus (apply quiet_val; (focus (intro w' hw; obtain ⟨hcq, hfq⟩ := bcell ((hC.out _).1 hw); go_simp; (first | done | rfl))); (simp only [Act.put, List.setIfInBounds_toArray, List.set_cons_succ, List.set_cons_zero]); (with_reducible refine hK _ ?_); clear hK K))))
  refine wpQuiet_nil ?_
  intro w1 hb1
  replace hb1 := (hC.out _).1 hb1
  clear hC C
  obtain ⟨hc1, hf1⟩ := bcell hb1
  have P1 := P0.past hb1; have S1 := pt S0 hb1
  clear hb1 hc1 hf1 P0 S0 p0 p1 p2 pl
  obtain ⟨v1, rfl⟩ : ∃ v, v = w1 := ⟨_, rfl⟩
  have p0 := P1.cellAt 0 rfl; have p1 := P1.cellAt 1 rfl; have p2 := P1.cellAt 2 rfl; have pl := P1.lt
  go_wp2
  rw [rounds_succ]
  go_wp2
  refine region_below 20 follows_mixed (by kernel_rfl) ?_
  intro C hC
  simp only [List.take_succ_cons, List.take_zero, List.drop_succ_cons, List.drop_zero]
  repeat (first
    | ((with_reducible refine quiet_plain rfl (fun K hK => ?_)); (focus (apply quiet_val; (focus (intro w' hw; obtain ⟨hcq, hfq⟩ := bcell ((hC.out _).1 hw); go_simp; (first | done | rfl))); (simp only [Act.put, List.setIfInBounds_toArray, List.set_cons_succ, List.set_cons_zero]); (with_reducible refine hK _ ?_); clear hK K)))
    | ((with_reducible refine quiet_skip ?_ ?_); (focus (first | (simp [Region.wanted, yielded]; done) | (simp [Region.wanted, yielded, undef]; done))); simp only [Act.put, List.setIfInBounds_toArray, List.set_cons_succ, List.set_cons_zero])
    | ((with_reducible refine quiet_go ?_ (fun K hK => ?_)); (focus (first | (simp [Region.wanted, yielded]; done) | (simp [Region.wanted, yielded, undef]; done))); (focus (apply quiet_val; (focus (intro w' hw; obtain ⟨hcq, hfq⟩ := bcell ((hC.out _).1 hw); go_simp; (first | done | rfl))); (simp only [Act.put, List.setIfInBounds_toArray, List.set_cons_succ, List.set_cons_zero]); (with_reducible refine hK _ ?_); clear hK K))))
  refine wpQuiet_nil ?_
  intro w1 hb1
  replace hb1 := (hC.out _).1 hb1
  clear hC C
  obtain ⟨hc1, hf1⟩ := bcell hb1
  have P2 := P1.past hb1; have S2 := pt S1 hb1
  clear hb1 hc1 hf1 P1 S1 p0 p1 p2 pl
  obtain ⟨v2, rfl⟩ : ∃ v, v = w1 := ⟨_, rfl⟩
  have p0 := P2.cellAt 0 rfl; have p1 := P2.cellAt 1 rfl; have p2 := P2.cellAt 2 rfl; have pl := P2.lt
  go_wp2
  rw [rounds_succ]
  go_wp2
  refine region_below 20 follows_mixed (by kernel_rfl) ?_
  intro C hC
  simp only [List.take_succ_cons, List.take_zero, List.drop_succ_cons, List.drop_zero]
  repeat (first
    | ((with_reducible refine quiet_plain rfl (fun K hK => ?_)); (focus (apply quiet_val; (focus (intro w' hw; obtain ⟨hcq, hfq⟩ := bcell ((hC.out _).1 hw); go_simp; (first | done | rfl))); (simp only [Act.put, List.setIfInBounds_toArray, List.set_cons_succ, List.set_cons_zero]); (with_reducible refine hK _ ?_); clear hK K)))
    | ((with_reducible refine quiet_skip ?_ ?_); (focus (first | (simp [Region.wanted, yielded]; done) | (simp [Region.wanted, yielded, undef]; done))); simp only [Act.put, List.setIfInBounds_toArray, List.set_cons_succ, List.set_cons_zero])
    | ((with_reducible refine quiet_go ?_ (fun K hK => ?_)); (focus (first | (simp [Region.wanted, yielded]; done) | (simp [Region.wanted, yielded, undef]; done))); (focus (apply quiet_val; (focus (intro w' hw; obtain ⟨hcq, hfq⟩ := bcell ((hC.out _).1 hw); go_simp; (first | done | rfl))); (simp only [Act.put, List.setIfInBounds_toArray, List.set_cons_succ, List.set_cons_zero]); (with_reducible refine hK _ ?_); clear hK K))))
  refine wpQuiet_nil ?_
  intro w1 hb1
  replace hb1 := (hC.out _).1 hb1
  clear hC C
  obtain ⟨hc1, hf1⟩ := bcell hb1
  have P3 := P2.past hb1; have S3 := pt S2 hb1
  clear hb1 hc1 hf1 P2 S2 p0 p1 p2 pl
  obtain ⟨v3, rfl⟩ : ∃ v, v = w1 := ⟨_, rfl⟩
  have p0 := P3.cellAt 0 rfl; have p1 := P3.cellAt 1 rfl; have p2 := P3.cellAt 2 rfl; have pl := P3.lt
  go_wp2
  go_ret
  exact ⟨rfl, S3⟩

set_option maxHeartbeats 4000000 in
set_option maxRecDepth 100000 in
theorem refIsPerm_9 (a b c : Int) (h0 : ¬ a < 0) (h1 : ¬ 2 < a) (h2 : ¬ a = b) (h3 : ¬ b < 0) (h4 : ¬ 2 < b) (h5 : ¬ b = c) (h6 : ¬ c < 0) (h7 : ¬ 2 < c) (h8 : ¬ c = a) (w : World) :
    Calls Tryz.prog 34 #[.agg #[.int .i64 a, .int .i64 b, .int .i64 c]] w fun e w' => e = .returned (.bool true) ∧ Below w.heap.size w w' := by
  have z1 : IntKind.i64.wrap 1 = 1 := by decide
  have z2 : IntKind.i64.wrap 2 = 2 := by decide
  have z3 : IntKind.i64.wrap 3 = 3 := by decide
  have g0 : decide (a < 0) = false := by simpa using h0
  have f0 : (a < 0) = False := by simpa using h0
  have g1 : decide (2 < a) = false := by simpa using h1
  have f1 : (2 < a) = False := by simpa using h1
  have g2 : (a == b) = false := by simpa using h2
  have g3 : decide (b < 0) = false := by simpa using h3
  have f3 : (b < 0) = False := by simpa using h3
  have g4 : decide (2 < b) = false := by simpa using h4
  have f4 : (2 < b) = False := by simpa using h4
  have g5 : (b == c) = false := by simpa using h5
  have g6 : decide (c < 0) = false := by simpa using h6
  have f6 : (c < 0) = False := by simpa using h6
  have g7 : decide (2 < c) = false := by simpa using h7
  have f7 : (2 < c) = False := by simpa using h7
  have g8 : (c == a) = false := by simpa using h8
  go_enter Tryz.func34, Tryz.ntmps34
  go_wp2
  have P0 : Blk (w.alloc (.cells #[.int .i64 a, .int .i64 b, .int .i64 c] 68)) w.heap.size 68 #[.int .i64 a, .int .i64 b, .int .i64 c] := Blk.newAt rfl
  have S0 : Below w.heap.size w (w.alloc (.cells #[.int .i64 a, .int .i64 b, .int .i64 c] 68)) := pa pr
  generalize w.alloc (.cells #[.int .i64 a, .int .i64 b, .int .i64 c] 68) = v0 at *
  have p0 := P0.cellAt 0 rfl; have p1 := P0.cellAt 1 rfl; have p2 := P0.cellAt 2 rfl; have pl := P0.lt
  refine wp_loop_rounds 4 ?_
  rw [rounds_succ]
  go_wp2
  refine region_below 20 follows_mixed (by kernel_rfl) ?_
  intro C hC
  simp only [List.take_succ_cons, List.take_zero, List.drop_succ_cons, List.drop_zero]
  repeat (first
    | ((with_reducible refine quiet_plain rfl (fun K hK => ?_)); (focus (apply quiet_val; (focus (intro w' hw; obtain ⟨hcq, hfq⟩ := bcell ((hC.out _).1 hw); go_simp; (first | done | rfl))); (simp only [Act.put, List.setIfInBounds_toArray, List.set_cons_succ, List.set_cons_zero]); (with_reducible refine hK _ ?_); clear hK K)))
    | ((with_reducible refine quiet_skip ?_ ?_); (focus (first | (simp [Region.wanted, yielded]; done) | (simp [Region.wanted, yielded, undef]; done))); simp only [Act.put, List.setIfInBounds_toArray, List.set_cons_succ, List.set_cons_zero])
    | ((with_reducible refine quiet_go ?_ (fun K hK => ?_)); (focus (first | (simp [Region.wanted, yielded]; done) | (simp [Region.wanted, yielded, undef]; done))); (focus (apply quiet_val; (focus (intro w' hw; obtain ⟨hcq, hfq⟩ := bcell ((hC.out _).1 hw); go_simp; (first | done | rfl))); (simp only [Act.put, List.setIfInBounds_toArray, List.set_cons_succ, List.set_cons_zero]); (with_reducible refine hK _ ?_); clear hK K))))
  refine wpQuiet_nil ?_
  intro w1 hb1
  replace hb1 := (hC.out _).1 hb1
  clear hC C
  obtain ⟨hc1, hf1⟩ := bcell hb1
  have P1 := P0.past hb1; have S1 := pt S0 hb1
  clear hb1 hc1 hf1 P0 S0 p0 p1 p2 pl
  obtain ⟨v1, rfl⟩ : ∃ v, v = w1 := ⟨_, rfl⟩
  have p0 := P1.cellAt 0 rfl; have p1 := P1.cellAt 1 rfl; have p2 := P1.cellAt 2 rfl; have pl := P1.lt
  go_wp2
  rw [rounds_succ]
  go_wp2
  refine region_below 20 follows_mixed (by kernel_rfl) ?_
  intro C hC
  simp only [List.take_succ_cons, List.take_zero, List.drop_succ_cons, List.drop_zero]
  repeat (first
    | ((with_reducible refine quiet_plain rfl (fun K hK => ?_)); (focus (apply quiet_val; (focus (intro w' hw; obtain ⟨hcq, hfq⟩ := bcell ((hC.out _).1 hw); go_simp; (first | done | rfl))); (simp only [Act.put, List.setIfInBounds_toArray, List.set_cons_succ, List.set_cons_zero]); (with_reducible refine hK _ ?_); clear hK K)))
    | ((with_reducible refine quiet_skip ?_ ?_); (focus (first | (simp [Region.wanted, yielded]; done) | (simp [Region.wanted, yielded, undef]; done))); simp only [Act.put, List.setIfInBounds_toArray, List.set_cons_succ, List.set_cons_zero])
    | ((with_reducible refine quiet_go ?_ (fun K hK => ?_)); (focus (first | (simp [Region.wanted, yielded]; done) | (simp [Region.wanted, yielded, undef]; done))); (focus (apply quiet_val; (focus (intro w' hw; obtain ⟨hcq, hfq⟩ := bcell ((hC.out _).1 hw); go_simp; (first | done | rfl))); (simp only [Act.put, List.setIfInBounds_toArray, List.set_cons_succ, List.set_cons_zero]); (with_reducible refine hK _ ?_); clear hK K))))
  refine wpQuiet_nil ?_
  intro w1 hb1
  replace hb1 := (hC.out _).1 hb1
  clear hC C
  obtain ⟨hc1, hf1⟩ := bcell hb1
  have P2 := P1.past hb1; have S2 := pt S1 hb1
  clear hb1 hc1 hf1 P1 S1 p0 p1 p2 pl
  obtain ⟨v2, rfl⟩ : ∃ v, v = w1 := ⟨_, rfl⟩
  have p0 := P2.cellAt 0 rfl; have p1 := P2.cellAt 1 rfl; have p2 := P2.cellAt 2 rfl; have pl := P2.lt
  go_wp2
  rw [rounds_succ]
  go_wp2
  refine region_below 20 follows_mixed (by kernel_rfl) ?_
  intro C hC
  simp only [List.take_succ_cons, List.take_zero, List.drop_succ_cons, List.drop_zero]
  repeat (first
    | ((with_reducible refine quiet_plain rfl (fun K hK => ?_)); (focus (apply quiet_val; (focus (intro w' hw; obtain ⟨hcq, hfq⟩ := bcell ((hC.out _).1 hw); go_simp; (first | done | rfl))); (simp only [Act.put, List.setIfInBounds_toArray, List.set_cons_succ, List.set_cons_zero]); (with_reducible refine hK _ ?_); clear hK K)))
    | ((with_reducible refine quiet_skip ?_ ?_); (focus (first | (simp [Region.wanted, yielded]; done) | (simp [Region.wanted, yielded, undef]; done))); simp only [Act.put, List.setIfInBounds_toArray, List.set_cons_succ, List.set_cons_zero])
    | ((with_reducible refine quiet_go ?_ (fun K hK => ?_)); (focus (first | (simp [Region.wanted, yielded]; done) | (simp [Region.wanted, yielded, undef]; done))); (focus (apply quiet_val; (focus (intro w' hw; obtain ⟨hcq, hfq⟩ := bcell ((hC.out _).1 hw); go_simp; (first | done | rfl))); (simp only [Act.put, List.setIfInBounds_toArray, List.set_cons_succ, List.set_cons_zero]); (with_reducible refine hK _ ?_); clear hK K))))
  refine wpQuiet_nil ?_
  intro w1 hb1
  replace hb1 := (hC.out _).1 hb1
  clear hC C
  obtain ⟨hc1, hf1⟩ := bcell hb1
  have P3 := P2.past hb1; have S3 := pt S2 hb1
  clear hb1 hc1 hf1 P2 S2 p0 p1 p2 pl
  obtain ⟨v3, rfl⟩ : ∃ v, v = w1 := ⟨_, rfl⟩
  have p0 := P3.cellAt 0 rfl; have p1 := P3.cellAt 1 rfl; have p2 := P3.cellAt 2 rfl; have pl := P3.lt
  go_wp2
  rw [rounds_succ]
  go_wp2
  go_ret
  exact ⟨rfl, S3⟩

theorem refIsPermutation_any (a b c : Int) (w : World) :
    Calls Tryz.prog 34 #[.agg #[.int .i64 a, .int .i64 b, .int .i64 c]] w fun e w' => e = .returned (.bool (isPerm ⟨a, b, c⟩)) ∧ Below w.heap.size w w' := by
  have no : ∀ P : Prop, (∀ x y z : Int, (x = 0 ∧ y = 1 ∧ z = 2 ∨ x = 0 ∧ y = 2 ∧ z = 1 ∨ x = 1 ∧ y = 0 ∧ z = 2 ∨ x = 1 ∧ y = 2 ∧ z = 0 ∨ x = 2 ∧ y = 0 ∧ z = 1 ∨ x = 2 ∧ y = 1 ∧ z = 0) → x = a → y = b → z = c → False) → isPerm ⟨a, b, c⟩ = false := fun _ h => by
    cases hp : isPerm ⟨a, b, c⟩
    · rfl
    · exfalso
      have h2 := isPerm_cases hp
      simp only [V3.mk.injEq] at h2
      exact h a b c h2 rfl rfl rfl
  by_cases h0 : a < 0
  · rw [no True (fun x y z h e1 e2 e3 => by omega)]; exact refIsPerm_0 a b c h0 w
  by_cases h1 : 2 < a
  · rw [no True (fun x y z h e1 e2 e3 => by omega)]; exact refIsPerm_1 a b c h0 h1 w
  by_cases h2 : a = b
  · rw [no True (fun x y z h e1 e2 e3 => by omega)]; exact refIsPerm_2 a b c h0 h1 h2 w
  by_cases h3 : b < 0
  · rw [no True (fun x y z h e1 e2 e3 => by omega)]; exact refIsPerm_3 a b c h0 h1 h2 h3 w
  by_cases h4 : 2 < b
  · rw [no True (fun x y z h e1 e2 e3 => by omega)]; exact refIsPerm_4 a b c h0 h1 h2 h3 h4 w
  by_cases h5 : b = c
  · rw [no True (fun x y z h e1 e2 e3 => by omega)]; exact refIsPerm_5 a b c h0 h1 h2 h3 h4 h5 w
  by_cases h6 : c < 0
  · rw [no True (fun x y z h e1 e2 e3 => by omega)]; exact refIsPerm_6 a b c h0 h1 h2 h3 h4 h5 h6 w
  by_cases h7 : 2 < c
  · rw [no True (fun x y z h e1 e2 e3 => by omega)]; exact refIsPerm_7 a b c h0 h1 h2 h3 h4 h5 h6 h7 w
  by_cases h8 : c = a
  · rw [no True (fun x y z h e1 e2 e3 => by omega)]; exact refIsPerm_8 a b c h0 h1 h2 h3 h4 h5 h6 h7 h8 w
  have hp : isPerm ⟨a, b, c⟩ = true := by
    rcases (by omega : (a = 0 ∧ b = 1 ∧ c = 2) ∨ (a = 0 ∧ b = 2 ∧ c = 1) ∨ (a = 1 ∧ b = 0 ∧ c = 2) ∨ (a = 1 ∧ b = 2 ∧ c = 0) ∨ (a = 2 ∧ b = 0 ∧ c = 1) ∨ (a = 2 ∧ b = 1 ∧ c = 0)) with ⟨rfl, rfl, rfl⟩ | ⟨rfl, rfl, rfl⟩ | ⟨rfl, rfl, rfl⟩ | ⟨rfl, rfl, rfl⟩ | ⟨rfl, rfl, rfl⟩ | ⟨rfl, rfl, rfl⟩ <;> decide
  rw [hp]
  exact refIsPerm_9 a b c h0 h1 h2 h3 h4 h5 h6 h7 h8 w

theorem refRenamed_any (x1 x2 x3 x4 x5 x6 x7 x8 x9 a b c : Int) (hp : isPerm ⟨a, b, c⟩ = true) (he : lineE x1 x2 x3 x4 x5 x6 x7 x8 x9 = 0) (M : L3) (hM : renV (⟨⟨x1, x2, x3⟩, ⟨x4, x5, x6⟩, ⟨x7, x8, x9⟩⟩ : L3) ⟨a, b, c⟩ = M) (w : World) :
    Calls Tryz.prog 128 #[.agg #[.int .i64 x1, .int .i64 x2, .int .i64 x3, .int .i64 x4, .int .i64 x5, .int .i64 x6, .int .i64 x7, .int .i64 x8, .int .i64 x9], .agg #[.int .i64 a, .int .i64 b, .int .i64 c]] w fun e w' => e = .returned (.agg #[.int .i64 M.x.a, .int .i64 M.x.b, .int .i64 M.x.c, .int .i64 M.y.a, .int .i64 M.y.b, .int .i64 M.y.c, .int .i64 M.z.a, .int .i64 M.z.b, .int .i64 M.z.c]) ∧ Below w.heap.size w w' := by
  obtain ⟨h1, h2, h3, h4, h5, h6, h7, h8, h9⟩ := lineE_sm he
  subst hM
  rcases isPerm_cases hp with h | h | h | h | h | h
  all_goals
    injection h with ha hb hc
    subst ha hb hc
  · have h := refRenamed_012 x1 x2 x3 x4 x5 x6 x7 x8 x9 w (neg_wrap h1) (neg_wrap h2) (neg_wrap h3) (neg_wrap h4) (neg_wrap h5) (neg_wrap h6) (neg_wrap h7) (neg_wrap h8) (neg_wrap h9)
    simpa [renV, voltV, rowAt, negV] using h
  · have h := refRenamed_021 x1 x2 x3 x4 x5 x6 x7 x8 x9 w (neg_wrap h1) (neg_wrap h2) (neg_wrap h3) (neg_wrap h4) (neg_wrap h5) (neg_wrap h6) (neg_wrap h7) (neg_wrap h8) (neg_wrap h9)
    simpa [renV, voltV, rowAt, negV] using h
  · have h := refRenamed_102 x1 x2 x3 x4 x5 x6 x7 x8 x9 w (neg_wrap h1) (neg_wrap h2) (neg_wrap h3) (neg_wrap h4) (neg_wrap h5) (neg_wrap h6) (neg_wrap h7) (neg_wrap h8) (neg_wrap h9)
    simpa [renV, voltV, rowAt, negV] using h
  · have h := refRenamed_120 x1 x2 x3 x4 x5 x6 x7 x8 x9 w (neg_wrap h1) (neg_wrap h2) (neg_wrap h3) (neg_wrap h4) (neg_wrap h5) (neg_wrap h6) (neg_wrap h7) (neg_wrap h8) (neg_wrap h9)
    simpa [renV, voltV, rowAt, negV] using h
  · have h := refRenamed_201 x1 x2 x3 x4 x5 x6 x7 x8 x9 w (neg_wrap h1) (neg_wrap h2) (neg_wrap h3) (neg_wrap h4) (neg_wrap h5) (neg_wrap h6) (neg_wrap h7) (neg_wrap h8) (neg_wrap h9)
    simpa [renV, voltV, rowAt, negV] using h
  · have h := refRenamed_210 x1 x2 x3 x4 x5 x6 x7 x8 x9 w (neg_wrap h1) (neg_wrap h2) (neg_wrap h3) (neg_wrap h4) (neg_wrap h5) (neg_wrap h6) (neg_wrap h7) (neg_wrap h8) (neg_wrap h9)
    simpa [renV, voltV, rowAt, negV] using h

end Go.Proofs.YtnhcamokcggnkaaGreatDoor
end
