/- Contract of the specification's sequence of lines. Printed by a program (gen_refseq.py). -/
import Derived.Test.YtnhcamokcggnkaaDoorHWPhas
import Derived.Test.YtnhcamokcggnkaaDoorGSHours
import Derived.Test.YtnhcamokcggnkaaDoorHAStore
import Derived.Test.YtnhcamokcggnkaaDoorARegionN
namespace Go.Proofs.YtnhcamokcggnkaaDoor
open Go.RowKit
attribute [local go_sem ↓] Go.wp_at_zero Go.wp_at_succ
attribute [local go_sem] l9_at0 l9_at1 l9_at2
attribute [local go_sem ↓ high] apiph_eql apiph_neq
theorem seq2_size : (Tryd.prog.info? 48).map (·.size) = some 2 := by kernel_rfl

set_option maxHeartbeats 8000000 in
set_option maxRecDepth 100000 in
theorem refSeq_zero (x1 x2 x3 x4 x5 x6 x7 x8 x9 p0 q0 p1 q1 p2 q2 a1 a2 b1 b2 c1 c2 d1 d2 : Int)
    (ha : ∀ w, Calls Tryd.prog 44 #[.agg #[.int .i64 x1, .int .i64 x2, .int .i64 x3]] w fun e w' => e = .returned (.agg #[.int .i64 p0, .int .i64 q0]) ∧ Below w.heap.size w w')
    (hb : ∀ w, Calls Tryd.prog 44 #[.agg #[.int .i64 x4, .int .i64 x5, .int .i64 x6]] w fun e w' => e = .returned (.agg #[.int .i64 p1, .int .i64 q1]) ∧ Below w.heap.size w w')
    (hc : ∀ w, Calls Tryd.prog 44 #[.agg #[.int .i64 x7, .int .i64 x8, .int .i64 x9]] w fun e w' => e = .returned (.agg #[.int .i64 p2, .int .i64 q2]) ∧ Below w.heap.size w w')
    (h1 : ∀ w, Calls Tryd.prog 25 #[.agg #[.int .i64 p0, .int .i64 q0], .agg #[.int .i64 (-1), .int .i64 (-1)]] w fun e w' => e = .returned (.agg #[.int .i64 a1, .int .i64 a2]) ∧ Below w.heap.size w w')
    (h2 : ∀ w, Calls Tryd.prog 25 #[.agg #[.int .i64 p1, .int .i64 q1], .agg #[.int .i64 (-1), .int .i64 (-1)]] w fun e w' => e = .returned (.agg #[.int .i64 b1, .int .i64 b2]) ∧ Below w.heap.size w w')
    (h3 : ∀ w, Calls Tryd.prog 25 #[.agg #[.int .i64 p0, .int .i64 q0], .agg #[.int .i64 0, .int .i64 1]] w fun e w' => e = .returned (.agg #[.int .i64 c1, .int .i64 c2]) ∧ Below w.heap.size w w')
    (h4 : ∀ w, Calls Tryd.prog 25 #[.agg #[.int .i64 p1, .int .i64 q1], .agg #[.int .i64 0, .int .i64 1]] w fun e w' => e = .returned (.agg #[.int .i64 d1, .int .i64 d2]) ∧ Below w.heap.size w w')
    (hz : phB p0 q0 0 0 = true) (w : World) :
    Calls Tryd.prog 43 #[.agg #[.int .i64 x1, .int .i64 x2, .int .i64 x3, .int .i64 x4, .int .i64 x5, .int .i64 x6, .int .i64 x7, .int .i64 x8, .int .i64 x9]] w fun e w' => e = .returned (.tuple #[.int .i64 0, .int .i64 11]) ∧ Below w.heap.size w w' := by
  have HA := Lib.hid ha
  have HB := Lib.hid hb
  have HC := Lib.hid hc
  have H1 := Lib.hid h1
  have H2 := Lib.hid h2
  have H3 := Lib.hid h3
  have H4 := Lib.hid h4
  clear ha hb hc h1 h2 h3 h4
  go_enter Tryd.func43, Tryd.ntmps43
  go_wp2
  refine region_alloc3 (zc1 := (.cells #[.int .i64 0, .int .i64 0] 48)) (zc2 := (.cells #[.int .i64 0, .int .i64 0] 48)) (zc3 := (.cells #[.int .i64 0, .int .i64 0] 48)) 9 follows_mixed (by kernel_rfl) rfl rfl rfl (fun _ _ => by kernel_rfl) (fun _ _ => by kernel_rfl) (fun _ _ => by kernel_rfl) ?_
  simp only [List.take_succ_cons, List.take_zero, List.drop_succ_cons, List.drop_zero]
  repeat (first
    | ((with_reducible apply grow_plain); (focus rfl); (focus (intro w' hw; obtain ⟨hcq, hfq⟩ := bcell hw; go_simp; (first | done | rfl | (with_reducible exact HA.out _) | (with_reducible exact HB.out _) | (with_reducible exact HC.out _)))); (simp only [Act.put, List.setIfInBounds_toArray, List.set_cons_succ, List.set_cons_zero]))
    | ((with_reducible apply grow_skip); (focus (first | (simp [Region.wanted, yielded]; done) | (simp [Region.wanted, yielded, undef]; done))); simp only [Act.put, List.setIfInBounds_toArray, List.set_cons_succ, List.set_cons_zero])
    | ((with_reducible apply grow_go); (focus (first | (simp [Region.wanted, yielded]; done) | (simp [Region.wanted, yielded, undef]; done))); (focus (intro w' hw; obtain ⟨hcq, hfq⟩ := bcell hw; go_simp; (first | done | rfl | (with_reducible exact HA.out _) | (with_reducible exact HB.out _) | (with_reducible exact HC.out _)))); (simp only [Act.put, List.setIfInBounds_toArray, List.set_cons_succ, List.set_cons_zero])))
  refine grow_nil ?_
  intro qb1 qb2 qb3 w1 hb1 hn1 hn2 hn3 hq12 hq13 hq23
  simp only [Act.put, List.setIfInBounds_toArray, List.set_cons_succ, List.set_cons_zero]
  have L_1 : Blk w1 (w.heap.size) 38 #[.int .i64 x1, .int .i64 x2, .int .i64 x3, .int .i64 x4, .int .i64 x5, .int .i64 x6, .int .i64 x7, .int .i64 x8, .int .i64 x9] := (Blk.newAt (by simp)).past hb1
  have ne_L_A : w.heap.size ≠ qb1 := by have := hn1.ge; simp at this; omega
  have ne_L_B : w.heap.size ≠ qb2 := by have := hn2.ge; simp at this; omega
  have ne_L_C : w.heap.size ≠ qb3 := by have := hn3.ge; simp at this; omega
  have A_1 : Blk w1 qb1 48 #[.int .i64 0, .int .i64 0] := hn1.at_
  have ge_A : w.heap.size ≤ qb1 := by have := hn1.ge; simp at this; omega
  have B_1 : Blk w1 qb2 48 #[.int .i64 0, .int .i64 0] := hn2.at_
  have ge_B : w.heap.size ≤ qb2 := by have := hn2.ge; simp at this; omega
  have C_1 : Blk w1 qb3 48 #[.int .i64 0, .int .i64 0] := hn3.at_
  have ge_C : w.heap.size ≤ qb3 := by have := hn3.ge; simp at this; omega
  have ne_A_B := hq12
  have ne_A_C := hq13
  have ne_B_C := hq23
  have S_1 := pt (pa (pr)) hb1
  clear hb1 hn1 hn2 hn3 hq12 hq13 hq23
  obtain ⟨w1_, rfl⟩ : ∃ v, v = w1 := ⟨_, rfl⟩
  go_wp2_with (first
    | ((with_reducible refine store_sub (T := 48) (x := .tmp 4) (y := .tmp 11) (o := 0) (cs' := #[.int .i64 p0, .int .i64 q0]) (vs := #[.int .i64 p0, .int .i64 q0]) (show Blk _ (qb1) 48 #[.int .i64 0, .int .i64 0] from (A_1)) ?_ ?_ ?_ ?_ ?_ ?_ ?_); (focus rfl); (focus rfl); (focus rfl); (focus exact Nat.le_of_ble_eq_true rfl); (focus exact seq2_size); (focus (simp [Value.oneCell']; done)); intro w2_ b2_ h2_; have L_2 : Blk w2_ (w.heap.size) 38 #[.int .i64 x1, .int .i64 x2, .int .i64 x3, .int .i64 x4, .int .i64 x5, .int .i64 x6, .int .i64 x7, .int .i64 x8, .int .i64 x9] := (L_1).put h2_ ne_L_A; have A_2 : Blk w2_ (qb1) 48 #[.int .i64 p0, .int .i64 q0] := b2_; have B_2 : Blk w2_ (qb2) 48 #[.int .i64 0, .int .i64 0] := (B_1).put h2_ (Ne.symm ne_A_B); have C_2 : Blk w2_ (qb3) 48 #[.int .i64 0, .int .i64 0] := (C_1).put h2_ (Ne.symm ne_A_C); have S_2 := pp (S_1) h2_ ge_A; clear L_1 A_1 B_1 C_1 S_1; clear h2_ b2_)
    | ((with_reducible refine store_sub (T := 48) (x := .tmp 5) (y := .tmp 14) (o := 0) (cs' := #[.int .i64 p1, .int .i64 q1]) (vs := #[.int .i64 p1, .int .i64 q1]) (show Blk _ (qb2) 48 #[.int .i64 0, .int .i64 0] from (B_2)) ?_ ?_ ?_ ?_ ?_ ?_ ?_); (focus rfl); (focus rfl); (focus rfl); (focus exact Nat.le_of_ble_eq_true rfl); (focus exact seq2_size); (focus (simp [Value.oneCell']; done)); intro w3_ b3_ h3_; have L_3 : Blk w3_ (w.heap.size) 38 #[.int .i64 x1, .int .i64 x2, .int .i64 x3, .int .i64 x4, .int .i64 x5, .int .i64 x6, .int .i64 x7, .int .i64 x8, .int .i64 x9] := (L_2).put h3_ ne_L_B; have A_3 : Blk w3_ (qb1) 48 #[.int .i64 p0, .int .i64 q0] := (A_2).put h3_ ne_A_B; have B_3 : Blk w3_ (qb2) 48 #[.int .i64 p1, .int .i64 q1] := b3_; have C_3 : Blk w3_ (qb3) 48 #[.int .i64 0, .int .i64 0] := (C_2).put h3_ (Ne.symm ne_B_C); have S_3 := pp (S_2) h3_ ge_B; clear L_2 A_2 B_2 C_2 S_2; clear h3_ b3_)
    | ((with_reducible refine store_sub (T := 48) (x := .tmp 6) (y := .tmp 17) (o := 0) (cs' := #[.int .i64 p2, .int .i64 q2]) (vs := #[.int .i64 p2, .int .i64 q2]) (show Blk _ (qb3) 48 #[.int .i64 0, .int .i64 0] from (C_3)) ?_ ?_ ?_ ?_ ?_ ?_ ?_); (focus rfl); (focus rfl); (focus rfl); (focus exact Nat.le_of_ble_eq_true rfl); (focus exact seq2_size); (focus (simp [Value.oneCell']; done)); intro w4_ b4_ h4_; have L_4 : Blk w4_ (w.heap.size) 38 #[.int .i64 x1, .int .i64 x2, .int .i64 x3, .int .i64 x4, .int .i64 x5, .int .i64 x6, .int .i64 x7, .int .i64 x8, .int .i64 x9] := (L_3).put h4_ ne_L_C; have A_4 : Blk w4_ (qb1) 48 #[.int .i64 p0, .int .i64 q0] := (A_3).put h4_ ne_A_C; have B_4 : Blk w4_ (qb2) 48 #[.int .i64 p1, .int .i64 q1] := (B_3).put h4_ ne_B_C; have C_4 : Blk w4_ (qb3) 48 #[.int .i64 p2, .int .i64 q2] := b4_; have S_4 := pp (S_3) h4_ ge_C; clear L_3 A_3 B_3 C_3 S_3; have Ac0 := A_4.cellAt 0 rfl; have Ac1 := A_4.cellAt 1 rfl; have Al := A_4.lt; have Bc0 := B_4.cellAt 0 rfl; have Bc1 := B_4.cellAt 1 rfl; have Bl := B_4.lt; have Cc0 := C_4.cellAt 0 rfl; have Cc1 := C_4.cellAt 1 rfl; have Cl := C_4.lt; clear h4_ b4_))
  go_ret2
  exact ⟨rfl, by repeat (first | exact S_4 | refine pa ?_)⟩

set_option maxHeartbeats 8000000 in
set_option maxRecDepth 100000 in
theorem refSeq_one (x1 x2 x3 x4 x5 x6 x7 x8 x9 p0 q0 p1 q1 p2 q2 a1 a2 b1 b2 c1 c2 d1 d2 : Int)
    (ha : ∀ w, Calls Tryd.prog 44 #[.agg #[.int .i64 x1, .int .i64 x2, .int .i64 x3]] w fun e w' => e = .returned (.agg #[.int .i64 p0, .int .i64 q0]) ∧ Below w.heap.size w w')
    (hb : ∀ w, Calls Tryd.prog 44 #[.agg #[.int .i64 x4, .int .i64 x5, .int .i64 x6]] w fun e w' => e = .returned (.agg #[.int .i64 p1, .int .i64 q1]) ∧ Below w.heap.size w w')
    (hc : ∀ w, Calls Tryd.prog 44 #[.agg #[.int .i64 x7, .int .i64 x8, .int .i64 x9]] w fun e w' => e = .returned (.agg #[.int .i64 p2, .int .i64 q2]) ∧ Below w.heap.size w w')
    (h1 : ∀ w, Calls Tryd.prog 25 #[.agg #[.int .i64 p0, .int .i64 q0], .agg #[.int .i64 (-1), .int .i64 (-1)]] w fun e w' => e = .returned (.agg #[.int .i64 a1, .int .i64 a2]) ∧ Below w.heap.size w w')
    (h2 : ∀ w, Calls Tryd.prog 25 #[.agg #[.int .i64 p1, .int .i64 q1], .agg #[.int .i64 (-1), .int .i64 (-1)]] w fun e w' => e = .returned (.agg #[.int .i64 b1, .int .i64 b2]) ∧ Below w.heap.size w w')
    (h3 : ∀ w, Calls Tryd.prog 25 #[.agg #[.int .i64 p0, .int .i64 q0], .agg #[.int .i64 0, .int .i64 1]] w fun e w' => e = .returned (.agg #[.int .i64 c1, .int .i64 c2]) ∧ Below w.heap.size w w')
    (h4 : ∀ w, Calls Tryd.prog 25 #[.agg #[.int .i64 p1, .int .i64 q1], .agg #[.int .i64 0, .int .i64 1]] w fun e w' => e = .returned (.agg #[.int .i64 d1, .int .i64 d2]) ∧ Below w.heap.size w w')
    (hz : phB p0 q0 0 0 = false) (hA : phB p1 q1 a1 a2 = true) (hB : phB p2 q2 b1 b2 = true) (w : World) :
    Calls Tryd.prog 43 #[.agg #[.int .i64 x1, .int .i64 x2, .int .i64 x3, .int .i64 x4, .int .i64 x5, .int .i64 x6, .int .i64 x7, .int .i64 x8, .int .i64 x9]] w fun e w' => e = .returned (.tuple #[.int .i64 1, .int .i64 0]) ∧ Below w.heap.size w w' := by
  have HA := Lib.hid ha
  have HB := Lib.hid hb
  have HC := Lib.hid hc
  have H1 := Lib.hid h1
  have H2 := Lib.hid h2
  have H3 := Lib.hid h3
  have H4 := Lib.hid h4
  clear ha hb hc h1 h2 h3 h4
  go_enter Tryd.func43, Tryd.ntmps43
  go_wp2
  refine region_alloc3 (zc1 := (.cells #[.int .i64 0, .int .i64 0] 48)) (zc2 := (.cells #[.int .i64 0, .int .i64 0] 48)) (zc3 := (.cells #[.int .i64 0, .int .i64 0] 48)) 9 follows_mixed (by kernel_rfl) rfl rfl rfl (fun _ _ => by kernel_rfl) (fun _ _ => by kernel_rfl) (fun _ _ => by kernel_rfl) ?_
  simp only [List.take_succ_cons, List.take_zero, List.drop_succ_cons, List.drop_zero]
  repeat (first
    | ((with_reducible apply grow_plain); (focus rfl); (focus (intro w' hw; obtain ⟨hcq, hfq⟩ := bcell hw; go_simp; (first | done | rfl | (with_reducible exact HA.out _) | (with_reducible exact HB.out _) | (with_reducible exact HC.out _)))); (simp only [Act.put, List.setIfInBounds_toArray, List.set_cons_succ, List.set_cons_zero]))
    | ((with_reducible apply grow_skip); (focus (first | (simp [Region.wanted, yielded]; done) | (simp [Region.wanted, yielded, undef]; done))); simp only [Act.put, List.setIfInBounds_toArray, List.set_cons_succ, List.set_cons_zero])
    | ((with_reducible apply grow_go); (focus (first | (simp [Region.wanted, yielded]; done) | (simp [Region.wanted, yielded, undef]; done))); (focus (intro w' hw; obtain ⟨hcq, hfq⟩ := bcell hw; go_simp; (first | done | rfl | (with_reducible exact HA.out _) | (with_reducible exact HB.out _) | (with_reducible exact HC.out _)))); (simp only [Act.put, List.setIfInBounds_toArray, List.set_cons_succ, List.set_cons_zero])))
  refine grow_nil ?_
  intro qb1 qb2 qb3 w1 hb1 hn1 hn2 hn3 hq12 hq13 hq23
  simp only [Act.put, List.setIfInBounds_toArray, List.set_cons_succ, List.set_cons_zero]
  have L_1 : Blk w1 (w.heap.size) 38 #[.int .i64 x1, .int .i64 x2, .int .i64 x3, .int .i64 x4, .int .i64 x5, .int .i64 x6, .int .i64 x7, .int .i64 x8, .int .i64 x9] := (Blk.newAt (by simp)).past hb1
  have ne_L_A : w.heap.size ≠ qb1 := by have := hn1.ge; simp at this; omega
  have ne_L_B : w.heap.size ≠ qb2 := by have := hn2.ge; simp at this; omega
  have ne_L_C : w.heap.size ≠ qb3 := by have := hn3.ge; simp at this; omega
  have A_1 : Blk w1 qb1 48 #[.int .i64 0, .int .i64 0] := hn1.at_
  have ge_A : w.heap.size ≤ qb1 := by have := hn1.ge; simp at this; omega
  have B_1 : Blk w1 qb2 48 #[.int .i64 0, .int .i64 0] := hn2.at_
  have ge_B : w.heap.size ≤ qb2 := by have := hn2.ge; simp at this; omega
  have C_1 : Blk w1 qb3 48 #[.int .i64 0, .int .i64 0] := hn3.at_
  have ge_C : w.heap.size ≤ qb3 := by have := hn3.ge; simp at this; omega
  have ne_A_B := hq12
  have ne_A_C := hq13
  have ne_B_C := hq23
  have S_1 := pt (pa (pr)) hb1
  clear hb1 hn1 hn2 hn3 hq12 hq13 hq23
  obtain ⟨w1_, rfl⟩ : ∃ v, v = w1 := ⟨_, rfl⟩
  go_wp2_with (first
    | ((with_reducible refine store_sub (T := 48) (x := .tmp 4) (y := .tmp 11) (o := 0) (cs' := #[.int .i64 p0, .int .i64 q0]) (vs := #[.int .i64 p0, .int .i64 q0]) (show Blk _ (qb1) 48 #[.int .i64 0, .int .i64 0] from (A_1)) ?_ ?_ ?_ ?_ ?_ ?_ ?_); (focus rfl); (focus rfl); (focus rfl); (focus exact Nat.le_of_ble_eq_true rfl); (focus exact seq2_size); (focus (simp [Value.oneCell']; done)); intro w2_ b2_ h2_; have L_2 : Blk w2_ (w.heap.size) 38 #[.int .i64 x1, .int .i64 x2, .int .i64 x3, .int .i64 x4, .int .i64 x5, .int .i64 x6, .int .i64 x7, .int .i64 x8, .int .i64 x9] := (L_1).put h2_ ne_L_A; have A_2 : Blk w2_ (qb1) 48 #[.int .i64 p0, .int .i64 q0] := b2_; have B_2 : Blk w2_ (qb2) 48 #[.int .i64 0, .int .i64 0] := (B_1).put h2_ (Ne.symm ne_A_B); have C_2 : Blk w2_ (qb3) 48 #[.int .i64 0, .int .i64 0] := (C_1).put h2_ (Ne.symm ne_A_C); have S_2 := pp (S_1) h2_ ge_A; clear L_1 A_1 B_1 C_1 S_1; clear h2_ b2_)
    | ((with_reducible refine store_sub (T := 48) (x := .tmp 5) (y := .tmp 14) (o := 0) (cs' := #[.int .i64 p1, .int .i64 q1]) (vs := #[.int .i64 p1, .int .i64 q1]) (show Blk _ (qb2) 48 #[.int .i64 0, .int .i64 0] from (B_2)) ?_ ?_ ?_ ?_ ?_ ?_ ?_); (focus rfl); (focus rfl); (focus rfl); (focus exact Nat.le_of_ble_eq_true rfl); (focus exact seq2_size); (focus (simp [Value.oneCell']; done)); intro w3_ b3_ h3_; have L_3 : Blk w3_ (w.heap.size) 38 #[.int .i64 x1, .int .i64 x2, .int .i64 x3, .int .i64 x4, .int .i64 x5, .int .i64 x6, .int .i64 x7, .int .i64 x8, .int .i64 x9] := (L_2).put h3_ ne_L_B; have A_3 : Blk w3_ (qb1) 48 #[.int .i64 p0, .int .i64 q0] := (A_2).put h3_ ne_A_B; have B_3 : Blk w3_ (qb2) 48 #[.int .i64 p1, .int .i64 q1] := b3_; have C_3 : Blk w3_ (qb3) 48 #[.int .i64 0, .int .i64 0] := (C_2).put h3_ (Ne.symm ne_B_C); have S_3 := pp (S_2) h3_ ge_B; clear L_2 A_2 B_2 C_2 S_2; clear h3_ b3_)
    | ((with_reducible refine store_sub (T := 48) (x := .tmp 6) (y := .tmp 17) (o := 0) (cs' := #[.int .i64 p2, .int .i64 q2]) (vs := #[.int .i64 p2, .int .i64 q2]) (show Blk _ (qb3) 48 #[.int .i64 0, .int .i64 0] from (C_3)) ?_ ?_ ?_ ?_ ?_ ?_ ?_); (focus rfl); (focus rfl); (focus rfl); (focus exact Nat.le_of_ble_eq_true rfl); (focus exact seq2_size); (focus (simp [Value.oneCell']; done)); intro w4_ b4_ h4_; have L_4 : Blk w4_ (w.heap.size) 38 #[.int .i64 x1, .int .i64 x2, .int .i64 x3, .int .i64 x4, .int .i64 x5, .int .i64 x6, .int .i64 x7, .int .i64 x8, .int .i64 x9] := (L_3).put h4_ ne_L_C; have A_4 : Blk w4_ (qb1) 48 #[.int .i64 p0, .int .i64 q0] := (A_3).put h4_ ne_A_C; have B_4 : Blk w4_ (qb2) 48 #[.int .i64 p1, .int .i64 q1] := (B_3).put h4_ ne_B_C; have C_4 : Blk w4_ (qb3) 48 #[.int .i64 p2, .int .i64 q2] := b4_; have S_4 := pp (S_3) h4_ ge_C; clear L_3 A_3 B_3 C_3 S_3; have Ac0 := A_4.cellAt 0 rfl; have Ac1 := A_4.cellAt 1 rfl; have Al := A_4.lt; have Bc0 := B_4.cellAt 0 rfl; have Bc1 := B_4.cellAt 1 rfl; have Bl := B_4.lt; have Cc0 := C_4.cellAt 0 rfl; have Cc1 := C_4.cellAt 1 rfl; have Cl := C_4.lt; clear h4_ b4_))
  have L_5 : Blk ((w4_.alloc (.cells #[.int .i64 (-1), .int .i64 (-1)] 48)).alloc (.cells #[.int .i64 0, .int .i64 1] 48)) (w.heap.size) 38 #[.int .i64 x1, .int .i64 x2, .int .i64 x3, .int .i64 x4, .int .i64 x5, .int .i64 x6, .int .i64 x7, .int .i64 x8, .int .i64 x9] := (L_4.alloc.alloc)
  have A_5 : Blk ((w4_.alloc (.cells #[.int .i64 (-1), .int .i64 (-1)] 48)).alloc (.cells #[.int .i64 0, .int .i64 1] 48)) (qb1) 48 #[.int .i64 p0, .int .i64 q0] := (A_4.alloc.alloc)
  have B_5 : Blk ((w4_.alloc (.cells #[.int .i64 (-1), .int .i64 (-1)] 48)).alloc (.cells #[.int .i64 0, .int .i64 1] 48)) (qb2) 48 #[.int .i64 p1, .int .i64 q1] := (B_4.alloc.alloc)
  have C_5 : Blk ((w4_.alloc (.cells #[.int .i64 (-1), .int .i64 (-1)] 48)).alloc (.cells #[.int .i64 0, .int .i64 1] 48)) (qb3) 48 #[.int .i64 p2, .int .i64 q2] := (C_4.alloc.alloc)
  have M_5 : Blk ((w4_.alloc (.cells #[.int .i64 (-1), .int .i64 (-1)] 48)).alloc (.cells #[.int .i64 0, .int .i64 1] 48)) (w4_.heap.size) 48 #[.int .i64 (-1), .int .i64 (-1)] := (Blk.newAt (by simp)).alloc
  have N_5 : Blk ((w4_.alloc (.cells #[.int .i64 (-1), .int .i64 (-1)] 48)).alloc (.cells #[.int .i64 0, .int .i64 1] 48)) (w4_.heap.size + 1) 48 #[.int .i64 0, .int .i64 1] := (Blk.newAt (by simp))
  have ne_A_M : qb1 ≠ w4_.heap.size := (by have := A_4.lt; omega)
  have ne_B_M : qb2 ≠ w4_.heap.size := (by have := B_4.lt; omega)
  have ne_C_M : qb3 ≠ w4_.heap.size := (by have := C_4.lt; omega)
  have ne_A_N : qb1 ≠ w4_.heap.size + 1 := (by have := A_4.lt; omega)
  have ne_B_N : qb2 ≠ w4_.heap.size + 1 := (by have := B_4.lt; omega)
  have ne_C_N : qb3 ≠ w4_.heap.size + 1 := (by have := C_4.lt; omega)
  have S_5 := (show Below w.heap.size w ((w4_.alloc (.cells #[.int .i64 (-1), .int .i64 (-1)] 48)).alloc (.cells #[.int .i64 0, .int .i64 1] 48)) from pa (pa (S_4)))
  clear L_4 A_4 B_4 C_4 S_4 Ac0 Ac1 Al Bc0 Bc1 Bl Cc0 Cc1 Cl
  generalize (w4_.alloc (.cells #[.int .i64 (-1), .int .i64 (-1)] 48)).alloc (.cells #[.int .i64 0, .int .i64 1] 48) = w5_ at *
  have Ac0 := A_5.cellAt 0 rfl
  have Ac1 := A_5.cellAt 1 rfl
  have Al := A_5.lt
  have Bc0 := B_5.cellAt 0 rfl
  have Bc1 := B_5.cellAt 1 rfl
  have Bl := B_5.lt
  have Cc0 := C_5.cellAt 0 rfl
  have Cc1 := C_5.cellAt 1 rfl
  have Cl := C_5.lt
  have Mc0 := M_5.cellAt 0 rfl
  have Mc1 := M_5.cellAt 1 rfl
  have Ml := M_5.lt
  have Nc0 := N_5.cellAt 0 rfl
  have Nc1 := N_5.cellAt 1 rfl
  have Nl := N_5.lt
  refine region_below 11 follows_mixed (by kernel_rfl) ?_
  intro C hC
  simp only [List.take_succ_cons, List.take_zero, List.drop_succ_cons, List.drop_zero]
  repeat (first
    | ((with_reducible refine quiet_plain rfl (fun K hK => ?_)); (focus (apply quiet_val; (focus (intro w' hw; obtain ⟨hcq, hfq⟩ := bcell ((hC.out _).1 hw); go_simp; (first | done | rfl | (with_reducible exact call_below hC hw (H1.out _)) | (with_reducible exact call_below hC hw (H2.out _))))); (simp only [Act.put, List.setIfInBounds_toArray, List.set_cons_succ, List.set_cons_zero]); (with_reducible refine hK _ ?_); clear hK K)))
    | ((with_reducible refine quiet_skip ?_ ?_); (focus (first | (simp [Region.wanted, yielded]; done) | (simp [Region.wanted, yielded, undef]; done))); simp only [Act.put, List.setIfInBounds_toArray, List.set_cons_succ, List.set_cons_zero])
    | ((with_reducible refine quiet_go ?_ (fun K hK => ?_)); (focus (first | (simp [Region.wanted, yielded]; done) | (simp [Region.wanted, yielded, undef]; done))); (focus (apply quiet_val; (focus (intro w' hw; obtain ⟨hcq, hfq⟩ := bcell ((hC.out _).1 hw); go_simp; (first | done | rfl | (with_reducible exact call_below hC hw (H1.out _)) | (with_reducible exact call_below hC hw (H2.out _))))); (simp only [Act.put, List.setIfInBounds_toArray, List.set_cons_succ, List.set_cons_zero]); (with_reducible refine hK _ ?_); clear hK K))))
  refine wpQuiet_nil ?_
  intro w1 hb1
  replace hb1 := (hC.out _).1 hb1
  clear hC C
  obtain ⟨hc1, hf1⟩ := bcell hb1
  have L_6 : Blk w1 (w.heap.size) 38 #[.int .i64 x1, .int .i64 x2, .int .i64 x3, .int .i64 x4, .int .i64 x5, .int .i64 x6, .int .i64 x7, .int .i64 x8, .int .i64 x9] := (L_5).past hb1
  have A_6 : Blk w1 (qb1) 48 #[.int .i64 p0, .int .i64 q0] := (A_5).past hb1
  have B_6 : Blk w1 (qb2) 48 #[.int .i64 p1, .int .i64 q1] := (B_5).past hb1
  have C_6 : Blk w1 (qb3) 48 #[.int .i64 p2, .int .i64 q2] := (C_5).past hb1
  have M_6 : Blk w1 (w4_.heap.size) 48 #[.int .i64 (-1), .int .i64 (-1)] := (M_5).past hb1
  have N_6 : Blk w1 (w4_.heap.size + 1) 48 #[.int .i64 0, .int .i64 1] := (N_5).past hb1
  have S_6 := pt (S_5) hb1
  clear L_5 A_5 B_5 C_5 M_5 N_5 S_5 Ac0 Ac1 Al Bc0 Bc1 Bl Cc0 Cc1 Cl Mc0 Mc1 Ml Nc0 Nc1 Nl
  have Ac0 := A_6.cellAt 0 rfl
  have Ac1 := A_6.cellAt 1 rfl
  have Al := A_6.lt
  have Bc0 := B_6.cellAt 0 rfl
  have Bc1 := B_6.cellAt 1 rfl
  have Bl := B_6.lt
  have Cc0 := C_6.cellAt 0 rfl
  have Cc1 := C_6.cellAt 1 rfl
  have Cl := C_6.lt
  have Mc0 := M_6.cellAt 0 rfl
  have Mc1 := M_6.cellAt 1 rfl
  have Ml := M_6.lt
  have Nc0 := N_6.cellAt 0 rfl
  have Nc1 := N_6.cellAt 1 rfl
  have Nl := N_6.lt
  clear hb1 hc1 hf1
  obtain ⟨w6_, rfl⟩ : ∃ v, v = w1 := ⟨_, rfl⟩
  go_wp2
  go_ret2
  exact ⟨rfl, by repeat (first | exact S_6 | refine pa ?_)⟩

set_option maxHeartbeats 8000000 in
set_option maxRecDepth 100000 in
theorem refSeq_tf_tt (x1 x2 x3 x4 x5 x6 x7 x8 x9 p0 q0 p1 q1 p2 q2 a1 a2 b1 b2 c1 c2 d1 d2 : Int)
    (ha : ∀ w, Calls Tryd.prog 44 #[.agg #[.int .i64 x1, .int .i64 x2, .int .i64 x3]] w fun e w' => e = .returned (.agg #[.int .i64 p0, .int .i64 q0]) ∧ Below w.heap.size w w')
    (hb : ∀ w, Calls Tryd.prog 44 #[.agg #[.int .i64 x4, .int .i64 x5, .int .i64 x6]] w fun e w' => e = .returned (.agg #[.int .i64 p1, .int .i64 q1]) ∧ Below w.heap.size w w')
    (hc : ∀ w, Calls Tryd.prog 44 #[.agg #[.int .i64 x7, .int .i64 x8, .int .i64 x9]] w fun e w' => e = .returned (.agg #[.int .i64 p2, .int .i64 q2]) ∧ Below w.heap.size w w')
    (h1 : ∀ w, Calls Tryd.prog 25 #[.agg #[.int .i64 p0, .int .i64 q0], .agg #[.int .i64 (-1), .int .i64 (-1)]] w fun e w' => e = .returned (.agg #[.int .i64 a1, .int .i64 a2]) ∧ Below w.heap.size w w')
    (h2 : ∀ w, Calls Tryd.prog 25 #[.agg #[.int .i64 p1, .int .i64 q1], .agg #[.int .i64 (-1), .int .i64 (-1)]] w fun e w' => e = .returned (.agg #[.int .i64 b1, .int .i64 b2]) ∧ Below w.heap.size w w')
    (h3 : ∀ w, Calls Tryd.prog 25 #[.agg #[.int .i64 p0, .int .i64 q0], .agg #[.int .i64 0, .int .i64 1]] w fun e w' => e = .returned (.agg #[.int .i64 c1, .int .i64 c2]) ∧ Below w.heap.size w w')
    (h4 : ∀ w, Calls Tryd.prog 25 #[.agg #[.int .i64 p1, .int .i64 q1], .agg #[.int .i64 0, .int .i64 1]] w fun e w' => e = .returned (.agg #[.int .i64 d1, .int .i64 d2]) ∧ Below w.heap.size w w')
    (hz : phB p0 q0 0 0 = false) (hA : phB p1 q1 a1 a2 = true) (hB : phB p2 q2 b1 b2 = false) (hC : phB p1 q1 c1 c2 = true) (hD : phB p2 q2 d1 d2 = true) (w : World) :
    Calls Tryd.prog 43 #[.agg #[.int .i64 x1, .int .i64 x2, .int .i64 x3, .int .i64 x4, .int .i64 x5, .int .i64 x6, .int .i64 x7, .int .i64 x8, .int .i64 x9]] w fun e w' => e = .returned (.tuple #[.int .i64 (-1), .int .i64 0]) ∧ Below w.heap.size w w' := by
  have HA := Lib.hid ha
  have HB := Lib.hid hb
  have HC := Lib.hid hc
  have H1 := Lib.hid h1
  have H2 := Lib.hid h2
  have H3 := Lib.hid h3
  have H4 := Lib.hid h4
  clear ha hb hc h1 h2 h3 h4
  go_enter Tryd.func43, Tryd.ntmps43
  go_wp2
  refine region_alloc3 (zc1 := (.cells #[.int .i64 0, .int .i64 0] 48)) (zc2 := (.cells #[.int .i64 0, .int .i64 0] 48)) (zc3 := (.cells #[.int .i64 0, .int .i64 0] 48)) 9 follows_mixed (by kernel_rfl) rfl rfl rfl (fun _ _ => by kernel_rfl) (fun _ _ => by kernel_rfl) (fun _ _ => by kernel_rfl) ?_
  simp only [List.take_succ_cons, List.take_zero, List.drop_succ_cons, List.drop_zero]
  repeat (first
    | ((with_reducible apply grow_plain); (focus rfl); (focus (intro w' hw; obtain ⟨hcq, hfq⟩ := bcell hw; go_simp; (first | done | rfl | (with_reducible exact HA.out _) | (with_reducible exact HB.out _) | (with_reducible exact HC.out _)))); (simp only [Act.put, List.setIfInBounds_toArray, List.set_cons_succ, List.set_cons_zero]))
    | ((with_reducible apply grow_skip); (focus (first | (simp [Region.wanted, yielded]; done) | (simp [Region.wanted, yielded, undef]; done))); simp only [Act.put, List.setIfInBounds_toArray, List.set_cons_succ, List.set_cons_zero])
    | ((with_reducible apply grow_go); (focus (first | (simp [Region.wanted, yielded]; done) | (simp [Region.wanted, yielded, undef]; done))); (focus (intro w' hw; obtain ⟨hcq, hfq⟩ := bcell hw; go_simp; (first | done | rfl | (with_reducible exact HA.out _) | (with_reducible exact HB.out _) | (with_reducible exact HC.out _)))); (simp only [Act.put, List.setIfInBounds_toArray, List.set_cons_succ, List.set_cons_zero])))
  refine grow_nil ?_
  intro qb1 qb2 qb3 w1 hb1 hn1 hn2 hn3 hq12 hq13 hq23
  simp only [Act.put, List.setIfInBounds_toArray, List.set_cons_succ, List.set_cons_zero]
  have L_1 : Blk w1 (w.heap.size) 38 #[.int .i64 x1, .int .i64 x2, .int .i64 x3, .int .i64 x4, .int .i64 x5, .int .i64 x6, .int .i64 x7, .int .i64 x8, .int .i64 x9] := (Blk.newAt (by simp)).past hb1
  have ne_L_A : w.heap.size ≠ qb1 := by have := hn1.ge; simp at this; omega
  have ne_L_B : w.heap.size ≠ qb2 := by have := hn2.ge; simp at this; omega
  have ne_L_C : w.heap.size ≠ qb3 := by have := hn3.ge; simp at this; omega
  have A_1 : Blk w1 qb1 48 #[.int .i64 0, .int .i64 0] := hn1.at_
  have ge_A : w.heap.size ≤ qb1 := by have := hn1.ge; simp at this; omega
  have B_1 : Blk w1 qb2 48 #[.int .i64 0, .int .i64 0] := hn2.at_
  have ge_B : w.heap.size ≤ qb2 := by have := hn2.ge; simp at this; omega
  have C_1 : Blk w1 qb3 48 #[.int .i64 0, .int .i64 0] := hn3.at_
  have ge_C : w.heap.size ≤ qb3 := by have := hn3.ge; simp at this; omega
  have ne_A_B := hq12
  have ne_A_C := hq13
  have ne_B_C := hq23
  have S_1 := pt (pa (pr)) hb1
  clear hb1 hn1 hn2 hn3 hq12 hq13 hq23
  obtain ⟨w1_, rfl⟩ : ∃ v, v = w1 := ⟨_, rfl⟩
  go_wp2_with (first
    | ((with_reducible refine store_sub (T := 48) (x := .tmp 4) (y := .tmp 11) (o := 0) (cs' := #[.int .i64 p0, .int .i64 q0]) (vs := #[.int .i64 p0, .int .i64 q0]) (show Blk _ (qb1) 48 #[.int .i64 0, .int .i64 0] from (A_1)) ?_ ?_ ?_ ?_ ?_ ?_ ?_); (focus rfl); (focus rfl); (focus rfl); (focus exact Nat.le_of_ble_eq_true rfl); (focus exact seq2_size); (focus (simp [Value.oneCell']; done)); intro w2_ b2_ h2_; have L_2 : Blk w2_ (w.heap.size) 38 #[.int .i64 x1, .int .i64 x2, .int .i64 x3, .int .i64 x4, .int .i64 x5, .int .i64 x6, .int .i64 x7, .int .i64 x8, .int .i64 x9] := (L_1).put h2_ ne_L_A; have A_2 : Blk w2_ (qb1) 48 #[.int .i64 p0, .int .i64 q0] := b2_; have B_2 : Blk w2_ (qb2) 48 #[.int .i64 0, .int .i64 0] := (B_1).put h2_ (Ne.symm ne_A_B); have C_2 : Blk w2_ (qb3) 48 #[.int .i64 0, .int .i64 0] := (C_1).put h2_ (Ne.symm ne_A_C); have S_2 := pp (S_1) h2_ ge_A; clear L_1 A_1 B_1 C_1 S_1; clear h2_ b2_)
    | ((with_reducible refine store_sub (T := 48) (x := .tmp 5) (y := .tmp 14) (o := 0) (cs' := #[.int .i64 p1, .int .i64 q1]) (vs := #[.int .i64 p1, .int .i64 q1]) (show Blk _ (qb2) 48 #[.int .i64 0, .int .i64 0] from (B_2)) ?_ ?_ ?_ ?_ ?_ ?_ ?_); (focus rfl); (focus rfl); (focus rfl); (focus exact Nat.le_of_ble_eq_true rfl); (focus exact seq2_size); (focus (simp [Value.oneCell']; done)); intro w3_ b3_ h3_; have L_3 : Blk w3_ (w.heap.size) 38 #[.int .i64 x1, .int .i64 x2, .int .i64 x3, .int .i64 x4, .int .i64 x5, .int .i64 x6, .int .i64 x7, .int .i64 x8, .int .i64 x9] := (L_2).put h3_ ne_L_B; have A_3 : Blk w3_ (qb1) 48 #[.int .i64 p0, .int .i64 q0] := (A_2).put h3_ ne_A_B; have B_3 : Blk w3_ (qb2) 48 #[.int .i64 p1, .int .i64 q1] := b3_; have C_3 : Blk w3_ (qb3) 48 #[.int .i64 0, .int .i64 0] := (C_2).put h3_ (Ne.symm ne_B_C); have S_3 := pp (S_2) h3_ ge_B; clear L_2 A_2 B_2 C_2 S_2; clear h3_ b3_)
    | ((with_reducible refine store_sub (T := 48) (x := .tmp 6) (y := .tmp 17) (o := 0) (cs' := #[.int .i64 p2, .int .i64 q2]) (vs := #[.int .i64 p2, .int .i64 q2]) (show Blk _ (qb3) 48 #[.int .i64 0, .int .i64 0] from (C_3)) ?_ ?_ ?_ ?_ ?_ ?_ ?_); (focus rfl); (focus rfl); (focus rfl); (focus exact Nat.le_of_ble_eq_true rfl); (focus exact seq2_size); (focus (simp [Value.oneCell']; done)); intro w4_ b4_ h4_; have L_4 : Blk w4_ (w.heap.size) 38 #[.int .i64 x1, .int .i64 x2, .int .i64 x3, .int .i64 x4, .int .i64 x5, .int .i64 x6, .int .i64 x7, .int .i64 x8, .int .i64 x9] := (L_3).put h4_ ne_L_C; have A_4 : Blk w4_ (qb1) 48 #[.int .i64 p0, .int .i64 q0] := (A_3).put h4_ ne_A_C; have B_4 : Blk w4_ (qb2) 48 #[.int .i64 p1, .int .i64 q1] := (B_3).put h4_ ne_B_C; have C_4 : Blk w4_ (qb3) 48 #[.int .i64 p2, .int .i64 q2] := b4_; have S_4 := pp (S_3) h4_ ge_C; clear L_3 A_3 B_3 C_3 S_3; have Ac0 := A_4.cellAt 0 rfl; have Ac1 := A_4.cellAt 1 rfl; have Al := A_4.lt; have Bc0 := B_4.cellAt 0 rfl; have Bc1 := B_4.cellAt 1 rfl; have Bl := B_4.lt; have Cc0 := C_4.cellAt 0 rfl; have Cc1 := C_4.cellAt 1 rfl; have Cl := C_4.lt; clear h4_ b4_))
  have L_5 : Blk ((w4_.alloc (.cells #[.int .i64 (-1), .int .i64 (-1)] 48)).alloc (.cells #[.int .i64 0, .int .i64 1] 48)) (w.heap.size) 38 #[.int .i64 x1, .int .i64 x2, .int .i64 x3, .int .i64 x4, .int .i64 x5, .int .i64 x6, .int .i64 x7, .int .i64 x8, .int .i64 x9] := (L_4.alloc.alloc)
  have A_5 : Blk ((w4_.alloc (.cells #[.int .i64 (-1), .int .i64 (-1)] 48)).alloc (.cells #[.int .i64 0, .int .i64 1] 48)) (qb1) 48 #[.int .i64 p0, .int .i64 q0] := (A_4.alloc.alloc)
  have B_5 : Blk ((w4_.alloc (.cells #[.int .i64 (-1), .int .i64 (-1)] 48)).alloc (.cells #[.int .i64 0, .int .i64 1] 48)) (qb2) 48 #[.int .i64 p1, .int .i64 q1] := (B_4.alloc.alloc)
  have C_5 : Blk ((w4_.alloc (.cells #[.int .i64 (-1), .int .i64 (-1)] 48)).alloc (.cells #[.int .i64 0, .int .i64 1] 48)) (qb3) 48 #[.int .i64 p2, .int .i64 q2] := (C_4.alloc.alloc)
  have M_5 : Blk ((w4_.alloc (.cells #[.int .i64 (-1), .int .i64 (-1)] 48)).alloc (.cells #[.int .i64 0, .int .i64 1] 48)) (w4_.heap.size) 48 #[.int .i64 (-1), .int .i64 (-1)] := (Blk.newAt (by simp)).alloc
  have N_5 : Blk ((w4_.alloc (.cells #[.int .i64 (-1), .int .i64 (-1)] 48)).alloc (.cells #[.int .i64 0, .int .i64 1] 48)) (w4_.heap.size + 1) 48 #[.int .i64 0, .int .i64 1] := (Blk.newAt (by simp))
  have ne_A_M : qb1 ≠ w4_.heap.size := (by have := A_4.lt; omega)
  have ne_B_M : qb2 ≠ w4_.heap.size := (by have := B_4.lt; omega)
  have ne_C_M : qb3 ≠ w4_.heap.size := (by have := C_4.lt; omega)
  have ne_A_N : qb1 ≠ w4_.heap.size + 1 := (by have := A_4.lt; omega)
  have ne_B_N : qb2 ≠ w4_.heap.size + 1 := (by have := B_4.lt; omega)
  have ne_C_N : qb3 ≠ w4_.heap.size + 1 := (by have := C_4.lt; omega)
  have S_5 := (show Below w.heap.size w ((w4_.alloc (.cells #[.int .i64 (-1), .int .i64 (-1)] 48)).alloc (.cells #[.int .i64 0, .int .i64 1] 48)) from pa (pa (S_4)))
  clear L_4 A_4 B_4 C_4 S_4 Ac0 Ac1 Al Bc0 Bc1 Bl Cc0 Cc1 Cl
  generalize (w4_.alloc (.cells #[.int .i64 (-1), .int .i64 (-1)] 48)).alloc (.cells #[.int .i64 0, .int .i64 1] 48) = w5_ at *
  have Ac0 := A_5.cellAt 0 rfl
  have Ac1 := A_5.cellAt 1 rfl
  have Al := A_5.lt
  have Bc0 := B_5.cellAt 0 rfl
  have Bc1 := B_5.cellAt 1 rfl
  have Bl := B_5.lt
  have Cc0 := C_5.cellAt 0 rfl
  have Cc1 := C_5.cellAt 1 rfl
  have Cl := C_5.lt
  have Mc0 := M_5.cellAt 0 rfl
  have Mc1 := M_5.cellAt 1 rfl
  have Ml := M_5.lt
  have Nc0 := N_5.cellAt 0 rfl
  have Nc1 := N_5.cellAt 1 rfl
  have Nl := N_5.lt
  refine region_below 11 follows_mixed (by kernel_rfl) ?_
  intro C hC
  simp only [List.take_succ_cons, List.take_zero, List.drop_succ_cons, List.drop_zero]
  repeat (first
    | ((with_reducible refine quiet_plain rfl (fun K hK => ?_)); (focus (apply quiet_val; (focus (intro w' hw; obtain ⟨hcq, hfq⟩ := bcell ((hC.out _).1 hw); go_simp; (first | done | rfl | (with_reducible exact call_below hC hw (H1.out _)) | (with_reducible exact call_below hC hw (H2.out _))))); (simp only [Act.put, List.setIfInBounds_toArray, List.set_cons_succ, List.set_cons_zero]); (with_reducible refine hK _ ?_); clear hK K)))
    | ((with_reducible refine quiet_skip ?_ ?_); (focus (first | (simp [Region.wanted, yielded]; done) | (simp [Region.wanted, yielded, undef]; done))); simp only [Act.put, List.setIfInBounds_toArray, List.set_cons_succ, List.set_cons_zero])
    | ((with_reducible refine quiet_go ?_ (fun K hK => ?_)); (focus (first | (simp [Region.wanted, yielded]; done) | (simp [Region.wanted, yielded, undef]; done))); (focus (apply quiet_val; (focus (intro w' hw; obtain ⟨hcq, hfq⟩ := bcell ((hC.out _).1 hw); go_simp; (first | done | rfl | (with_reducible exact call_below hC hw (H1.out _)) | (with_reducible exact call_below hC hw (H2.out _))))); (simp only [Act.put, List.setIfInBounds_toArray, List.set_cons_succ, List.set_cons_zero]); (with_reducible refine hK _ ?_); clear hK K))))
  refine wpQuiet_nil ?_
  intro w1 hb1
  replace hb1 := (hC.out _).1 hb1
  clear hC C
  obtain ⟨hc1, hf1⟩ := bcell hb1
  have L_6 : Blk w1 (w.heap.size) 38 #[.int .i64 x1, .int .i64 x2, .int .i64 x3, .int .i64 x4, .int .i64 x5, .int .i64 x6, .int .i64 x7, .int .i64 x8, .int .i64 x9] := (L_5).past hb1
  have A_6 : Blk w1 (qb1) 48 #[.int .i64 p0, .int .i64 q0] := (A_5).past hb1
  have B_6 : Blk w1 (qb2) 48 #[.int .i64 p1, .int .i64 q1] := (B_5).past hb1
  have C_6 : Blk w1 (qb3) 48 #[.int .i64 p2, .int .i64 q2] := (C_5).past hb1
  have M_6 : Blk w1 (w4_.heap.size) 48 #[.int .i64 (-1), .int .i64 (-1)] := (M_5).past hb1
  have N_6 : Blk w1 (w4_.heap.size + 1) 48 #[.int .i64 0, .int .i64 1] := (N_5).past hb1
  have S_6 := pt (S_5) hb1
  clear L_5 A_5 B_5 C_5 M_5 N_5 S_5 Ac0 Ac1 Al Bc0 Bc1 Bl Cc0 Cc1 Cl Mc0 Mc1 Ml Nc0 Nc1 Nl
  have Ac0 := A_6.cellAt 0 rfl
  have Ac1 := A_6.cellAt 1 rfl
  have Al := A_6.lt
  have Bc0 := B_6.cellAt 0 rfl
  have Bc1 := B_6.cellAt 1 rfl
  have Bl := B_6.lt
  have Cc0 := C_6.cellAt 0 rfl
  have Cc1 := C_6.cellAt 1 rfl
  have Cl := C_6.lt
  have Mc0 := M_6.cellAt 0 rfl
  have Mc1 := M_6.cellAt 1 rfl
  have Ml := M_6.lt
  have Nc0 := N_6.cellAt 0 rfl
  have Nc1 := N_6.cellAt 1 rfl
  have Nl := N_6.lt
  clear hb1 hc1 hf1
  obtain ⟨w6_, rfl⟩ : ∃ v, v = w1 := ⟨_, rfl⟩
  go_wp2
  refine region_below 11 follows_mixed (by kernel_rfl) ?_
  intro C hC
  simp only [List.take_succ_cons, List.take_zero, List.drop_succ_cons, List.drop_zero]
  repeat (first
    | ((with_reducible refine quiet_plain rfl (fun K hK => ?_)); (focus (apply quiet_val; (focus (intro w' hw; obtain ⟨hcq, hfq⟩ := bcell ((hC.out _).1 hw); go_simp; (first | done | rfl | (with_reducible exact call_below hC hw (H3.out _)) | (with_reducible exact call_below hC hw (H4.out _))))); (simp only [Act.put, List.setIfInBounds_toArray, List.set_cons_succ, List.set_cons_zero]); (with_reducible refine hK _ ?_); clear hK K)))
    | ((with_reducible refine quiet_skip ?_ ?_); (focus (first | (simp [Region.wanted, yielded]; done) | (simp [Region.wanted, yielded, undef]; done))); simp only [Act.put, List.setIfInBounds_toArray, List.set_cons_succ, List.set_cons_zero])
    | ((with_reducible refine quiet_go ?_ (fun K hK => ?_)); (focus (first | (simp [Region.wanted, yielded]; done) | (simp [Region.wanted, yielded, undef]; done))); (focus (apply quiet_val; (focus (intro w' hw; obtain ⟨hcq, hfq⟩ := bcell ((hC.out _).1 hw); go_simp; (first | done | rfl | (with_reducible exact call_below hC hw (H3.out _)) | (with_reducible exact call_below hC hw (H4.out _))))); (simp only [Act.put, List.setIfInBounds_toArray, List.set_cons_succ, List.set_cons_zero]); (with_reducible refine hK _ ?_); clear hK K))))
  refine wpQuiet_nil ?_
  intro w1 hb1
  replace hb1 := (hC.out _).1 hb1
  clear hC C
  obtain ⟨hc1, hf1⟩ := bcell hb1
  have L_7 : Blk w1 (w.heap.size) 38 #[.int .i64 x1, .int .i64 x2, .int .i64 x3, .int .i64 x4, .int .i64 x5, .int .i64 x6, .int .i64 x7, .int .i64 x8, .int .i64 x9] := (L_6).past hb1
  have A_7 : Blk w1 (qb1) 48 #[.int .i64 p0, .int .i64 q0] := (A_6).past hb1
  have B_7 : Blk w1 (qb2) 48 #[.int .i64 p1, .int .i64 q1] := (B_6).past hb1
  have C_7 : Blk w1 (qb3) 48 #[.int .i64 p2, .int .i64 q2] := (C_6).past hb1
  have M_7 : Blk w1 (w4_.heap.size) 48 #[.int .i64 (-1), .int .i64 (-1)] := (M_6).past hb1
  have N_7 : Blk w1 (w4_.heap.size + 1) 48 #[.int .i64 0, .int .i64 1] := (N_6).past hb1
  have S_7 := pt (S_6) hb1
  clear L_6 A_6 B_6 C_6 M_6 N_6 S_6 Ac0 Ac1 Al Bc0 Bc1 Bl Cc0 Cc1 Cl Mc0 Mc1 Ml Nc0 Nc1 Nl
  clear hb1 hc1 hf1
  obtain ⟨w7_, rfl⟩ : ∃ v, v = w1 := ⟨_, rfl⟩
  go_wp2
  go_ret2
  exact ⟨rfl, by repeat (first | exact S_7 | refine pa ?_)⟩

set_option maxHeartbeats 8000000 in
set_option maxRecDepth 100000 in
theorem refSeq_tf_tf (x1 x2 x3 x4 x5 x6 x7 x8 x9 p0 q0 p1 q1 p2 q2 a1 a2 b1 b2 c1 c2 d1 d2 : Int)
    (ha : ∀ w, Calls Tryd.prog 44 #[.agg #[.int .i64 x1, .int .i64 x2, .int .i64 x3]] w fun e w' => e = .returned (.agg #[.int .i64 p0, .int .i64 q0]) ∧ Below w.heap.size w w')
    (hb : ∀ w, Calls Tryd.prog 44 #[.agg #[.int .i64 x4, .int .i64 x5, .int .i64 x6]] w fun e w' => e = .returned (.agg #[.int .i64 p1, .int .i64 q1]) ∧ Below w.heap.size w w')
    (hc : ∀ w, Calls Tryd.prog 44 #[.agg #[.int .i64 x7, .int .i64 x8, .int .i64 x9]] w fun e w' => e = .returned (.agg #[.int .i64 p2, .int .i64 q2]) ∧ Below w.heap.size w w')
    (h1 : ∀ w, Calls Tryd.prog 25 #[.agg #[.int .i64 p0, .int .i64 q0], .agg #[.int .i64 (-1), .int .i64 (-1)]] w fun e w' => e = .returned (.agg #[.int .i64 a1, .int .i64 a2]) ∧ Below w.heap.size w w')
    (h2 : ∀ w, Calls Tryd.prog 25 #[.agg #[.int .i64 p1, .int .i64 q1], .agg #[.int .i64 (-1), .int .i64 (-1)]] w fun e w' => e = .returned (.agg #[.int .i64 b1, .int .i64 b2]) ∧ Below w.heap.size w w')
    (h3 : ∀ w, Calls Tryd.prog 25 #[.agg #[.int .i64 p0, .int .i64 q0], .agg #[.int .i64 0, .int .i64 1]] w fun e w' => e = .returned (.agg #[.int .i64 c1, .int .i64 c2]) ∧ Below w.heap.size w w')
    (h4 : ∀ w, Calls Tryd.prog 25 #[.agg #[.int .i64 p1, .int .i64 q1], .agg #[.int .i64 0, .int .i64 1]] w fun e w' => e = .returned (.agg #[.int .i64 d1, .int .i64 d2]) ∧ Below w.heap.size w w')
    (hz : phB p0 q0 0 0 = false) (hA : phB p1 q1 a1 a2 = true) (hB : phB p2 q2 b1 b2 = false) (hC : phB p1 q1 c1 c2 = true) (hD : phB p2 q2 d1 d2 = false) (w : World) :
    Calls Tryd.prog 43 #[.agg #[.int .i64 x1, .int .i64 x2, .int .i64 x3, .int .i64 x4, .int .i64 x5, .int .i64 x6, .int .i64 x7, .int .i64 x8, .int .i64 x9]] w fun e w' => e = .returned (.tuple #[.int .i64 0, .int .i64 12]) ∧ Below w.heap.size w w' := by
  have HA := Lib.hid ha
  have HB := Lib.hid hb
  have HC := Lib.hid hc
  have H1 := Lib.hid h1
  have H2 := Lib.hid h2
  have H3 := Lib.hid h3
  have H4 := Lib.hid h4
  clear ha hb hc h1 h2 h3 h4
  go_enter Tryd.func43, Tryd.ntmps43
  go_wp2
  refine region_alloc3 (zc1 := (.cells #[.int .i64 0, .int .i64 0] 48)) (zc2 := (.cells #[.int .i64 0, .int .i64 0] 48)) (zc3 := (.cells #[.int .i64 0, .int .i64 0] 48)) 9 follows_mixed (by kernel_rfl) rfl rfl rfl (fun _ _ => by kernel_rfl) (fun _ _ => by kernel_rfl) (fun _ _ => by kernel_rfl) ?_
  simp only [List.take_succ_cons, List.take_zero, List.drop_succ_cons, List.drop_zero]
  repeat (first
    | ((with_reducible apply grow_plain); (focus rfl); (focus (intro w' hw; obtain ⟨hcq, hfq⟩ := bcell hw; go_simp; (first | done | rfl | (with_reducible exact HA.out _) | (with_reducible exact HB.out _) | (with_reducible exact HC.out _)))); (simp only [Act.put, List.setIfInBounds_toArray, List.set_cons_succ, List.set_cons_zero]))
    | ((with_reducible apply grow_skip); (focus (first | (simp [Region.wanted, yielded]; done) | (simp [Region.wanted, yielded, undef]; done))); simp only [Act.put, List.setIfInBounds_toArray, List.set_cons_succ, List.set_cons_zero])
    | ((with_reducible apply grow_go); (focus (first | (simp [Region.wanted, yielded]; done) | (simp [Region.wanted, yielded, undef]; done))); (focus (intro w' hw; obtain ⟨hcq, hfq⟩ := bcell hw; go_simp; (first | done | rfl | (with_reducible exact HA.out _) | (with_reducible exact HB.out _) | (with_reducible exact HC.out _)))); (simp only [Act.put, List.setIfInBounds_toArray, List.set_cons_succ, List.set_cons_zero])))
  refine grow_nil ?_
  intro qb1 qb2 qb3 w1 hb1 hn1 hn2 hn3 hq12 hq13 hq23
  simp only [Act.put, List.setIfInBounds_toArray, List.set_cons_succ, List.set_cons_zero]
  have L_1 : Blk w1 (w.heap.size) 38 #[.int .i64 x1, .int .i64 x2, .int .i64 x3, .int .i64 x4, .int .i64 x5, .int .i64 x6, .int .i64 x7, .int .i64 x8, .int .i64 x9] := (Blk.newAt (by simp)).past hb1
  have ne_L_A : w.heap.size ≠ qb1 := by have := hn1.ge; simp at this; omega
  have ne_L_B : w.heap.size ≠ qb2 := by have := hn2.ge; simp at this; omega
  have ne_L_C : w.heap.size ≠ qb3 := by have := hn3.ge; simp at this; omega
  have A_1 : Blk w1 qb1 48 #[.int .i64 0, .int .i64 0] := hn1.at_
  have ge_A : w.heap.size ≤ qb1 := by have := hn1.ge; simp at this; omega
  have B_1 : Blk w1 qb2 48 #[.int .i64 0, .int .i64 0] := hn2.at_
  have ge_B : w.heap.size ≤ qb2 := by have := hn2.ge; simp at this; omega
  have C_1 : Blk w1 qb3 48 #[.int .i64 0, .int .i64 0] := hn3.at_
  have ge_C : w.heap.size ≤ qb3 := by have := hn3.ge; simp at this; omega
  have ne_A_B := hq12
  have ne_A_C := hq13
  have ne_B_C := hq23
  have S_1 := pt (pa (pr)) hb1
  clear hb1 hn1 hn2 hn3 hq12 hq13 hq23
  obtain ⟨w1_, rfl⟩ : ∃ v, v = w1 := ⟨_, rfl⟩
  go_wp2_with (first
    | ((with_reducible refine store_sub (T := 48) (x := .tmp 4) (y := .tmp 11) (o := 0) (cs' := #[.int .i64 p0, .int .i64 q0]) (vs := #[.int .i64 p0, .int .i64 q0]) (show Blk _ (qb1) 48 #[.int .i64 0, .int .i64 0] from (A_1)) ?_ ?_ ?_ ?_ ?_ ?_ ?_); (focus rfl); (focus rfl); (focus rfl); (focus exact Nat.le_of_ble_eq_true rfl); (focus exact seq2_size); (focus (simp [Value.oneCell']; done)); intro w2_ b2_ h2_; have L_2 : Blk w2_ (w.heap.size) 38 #[.int .i64 x1, .int .i64 x2, .int .i64 x3, .int .i64 x4, .int .i64 x5, .int .i64 x6, .int .i64 x7, .int .i64 x8, .int .i64 x9] := (L_1).put h2_ ne_L_A; have A_2 : Blk w2_ (qb1) 48 #[.int .i64 p0, .int .i64 q0] := b2_; have B_2 : Blk w2_ (qb2) 48 #[.int .i64 0, .int .i64 0] := (B_1).put h2_ (Ne.symm ne_A_B); have C_2 : Blk w2_ (qb3) 48 #[.int .i64 0, .int .i64 0] := (C_1).put h2_ (Ne.symm ne_A_C); have S_2 := pp (S_1) h2_ ge_A; clear L_1 A_1 B_1 C_1 S_1; clear h2_ b2_)
    | ((with_reducible refine store_sub (T := 48) (x := .tmp 5) (y := .tmp 14) (o := 0) (cs' := #[.int .i64 p1, .int .i64 q1]) (vs := #[.int .i64 p1, .int .i64 q1]) (show Blk _ (qb2) 48 #[.int .i64 0, .int .i64 0] from (B_2)) ?_ ?_ ?_ ?_ ?_ ?_ ?_); (focus rfl); (focus rfl); (focus rfl); (focus exact Nat.le_of_ble_eq_true rfl); (focus exact seq2_size); (focus (simp [Value.oneCell']; done)); intro w3_ b3_ h3_; have L_3 : Blk w3_ (w.heap.size) 38 #[.int .i64 x1, .int .i64 x2, .int .i64 x3, .int .i64 x4, .int .i64 x5, .int .i64 x6, .int .i64 x7, .int .i64 x8, .int .i64 x9] := (L_2).put h3_ ne_L_B; have A_3 : Blk w3_ (qb1) 48 #[.int .i64 p0, .int .i64 q0] := (A_2).put h3_ ne_A_B; have B_3 : Blk w3_ (qb2) 48 #[.int .i64 p1, .int .i64 q1] := b3_; have C_3 : Blk w3_ (qb3) 48 #[.int .i64 0, .int .i64 0] := (C_2).put h3_ (Ne.symm ne_B_C); have S_3 := pp (S_2) h3_ ge_B; clear L_2 A_2 B_2 C_2 S_2; clear h3_ b3_)
    | ((with_reducible refine store_sub (T := 48) (x := .tmp 6) (y := .tmp 17) (o := 0) (cs' := #[.int .i64 p2, .int .i64 q2]) (vs := #[.int .i64 p2, .int .i64 q2]) (show Blk _ (qb3) 48 #[.int .i64 0, .int .i64 0] from (C_3)) ?_ ?_ ?_ ?_ ?_ ?_ ?_); (focus rfl); (focus rfl); (focus rfl); (focus exact Nat.le_of_ble_eq_true rfl); (focus exact seq2_size); (focus (simp [Value.oneCell']; done)); intro w4_ b4_ h4_; have L_4 : Blk w4_ (w.heap.size) 38 #[.int .i64 x1, .int .i64 x2, .int .i64 x3, .int .i64 x4, .int .i64 x5, .int .i64 x6, .int .i64 x7, .int .i64 x8, .int .i64 x9] := (L_3).put h4_ ne_L_C; have A_4 : Blk w4_ (qb1) 48 #[.int .i64 p0, .int .i64 q0] := (A_3).put h4_ ne_A_C; have B_4 : Blk w4_ (qb2) 48 #[.int .i64 p1, .int .i64 q1] := (B_3).put h4_ ne_B_C; have C_4 : Blk w4_ (qb3) 48 #[.int .i64 p2, .int .i64 q2] := b4_; have S_4 := pp (S_3) h4_ ge_C; clear L_3 A_3 B_3 C_3 S_3; have Ac0 := A_4.cellAt 0 rfl; have Ac1 := A_4.cellAt 1 rfl; have Al := A_4.lt; have Bc0 := B_4.cellAt 0 rfl; have Bc1 := B_4.cellAt 1 rfl; have Bl := B_4.lt; have Cc0 := C_4.cellAt 0 rfl; have Cc1 := C_4.cellAt 1 rfl; have Cl := C_4.lt; clear h4_ b4_))
  have L_5 : Blk ((w4_.alloc (.cells #[.int .i64 (-1), .int .i64 (-1)] 48)).alloc (.cells #[.int .i64 0, .int .i64 1] 48)) (w.heap.size) 38 #[.int .i64 x1, .int .i64 x2, .int .i64 x3, .int .i64 x4, .int .i64 x5, .int .i64 x6, .int .i64 x7, .int .i64 x8, .int .i64 x9] := (L_4.alloc.alloc)
  have A_5 : Blk ((w4_.alloc (.cells #[.int .i64 (-1), .int .i64 (-1)] 48)).alloc (.cells #[.int .i64 0, .int .i64 1] 48)) (qb1) 48 #[.int .i64 p0, .int .i64 q0] := (A_4.alloc.alloc)
  have B_5 : Blk ((w4_.alloc (.cells #[.int .i64 (-1), .int .i64 (-1)] 48)).alloc (.cells #[.int .i64 0, .int .i64 1] 48)) (qb2) 48 #[.int .i64 p1, .int .i64 q1] := (B_4.alloc.alloc)
  have C_5 : Blk ((w4_.alloc (.cells #[.int .i64 (-1), .int .i64 (-1)] 48)).alloc (.cells #[.int .i64 0, .int .i64 1] 48)) (qb3) 48 #[.int .i64 p2, .int .i64 q2] := (C_4.alloc.alloc)
  have M_5 : Blk ((w4_.alloc (.cells #[.int .i64 (-1), .int .i64 (-1)] 48)).alloc (.cells #[.int .i64 0, .int .i64 1] 48)) (w4_.heap.size) 48 #[.int .i64 (-1), .int .i64 (-1)] := (Blk.newAt (by simp)).alloc
  have N_5 : Blk ((w4_.alloc (.cells #[.int .i64 (-1), .int .i64 (-1)] 48)).alloc (.cells #[.int .i64 0, .int .i64 1] 48)) (w4_.heap.size + 1) 48 #[.int .i64 0, .int .i64 1] := (Blk.newAt (by simp))
  have ne_A_M : qb1 ≠ w4_.heap.size := (by have := A_4.lt; omega)
  have ne_B_M : qb2 ≠ w4_.heap.size := (by have := B_4.lt; omega)
  have ne_C_M : qb3 ≠ w4_.heap.size := (by have := C_4.lt; omega)
  have ne_A_N : qb1 ≠ w4_.heap.size + 1 := (by have := A_4.lt; omega)
  have ne_B_N : qb2 ≠ w4_.heap.size + 1 := (by have := B_4.lt; omega)
  have ne_C_N : qb3 ≠ w4_.heap.size + 1 := (by have := C_4.lt; omega)
  have S_5 := (show Below w.heap.size w ((w4_.alloc (.cells #[.int .i64 (-1), .int .i64 (-1)] 48)).alloc (.cells #[.int .i64 0, .int .i64 1] 48)) from pa (pa (S_4)))
  clear L_4 A_4 B_4 C_4 S_4 Ac0 Ac1 Al Bc0 Bc1 Bl Cc0 Cc1 Cl
  generalize (w4_.alloc (.cells #[.int .i64 (-1), .int .i64 (-1)] 48)).alloc (.cells #[.int .i64 0, .int .i64 1] 48) = w5_ at *
  have Ac0 := A_5.cellAt 0 rfl
  have Ac1 := A_5.cellAt 1 rfl
  have Al := A_5.lt
  have Bc0 := B_5.cellAt 0 rfl
  have Bc1 := B_5.cellAt 1 rfl
  have Bl := B_5.lt
  have Cc0 := C_5.cellAt 0 rfl
  have Cc1 := C_5.cellAt 1 rfl
  have Cl := C_5.lt
  have Mc0 := M_5.cellAt 0 rfl
  have Mc1 := M_5.cellAt 1 rfl
  have Ml := M_5.lt
  have Nc0 := N_5.cellAt 0 rfl
  have Nc1 := N_5.cellAt 1 rfl
  have Nl := N_5.lt
  refine region_below 11 follows_mixed (by kernel_rfl) ?_
  intro C hC
  simp only [List.take_succ_cons, List.take_zero, List.drop_succ_cons, List.drop_zero]
  repeat (first
    | ((with_reducible refine quiet_plain rfl (fun K hK => ?_)); (focus (apply quiet_val; (focus (intro w' hw; obtain ⟨hcq, hfq⟩ := bcell ((hC.out _).1 hw); go_simp; (first | done | rfl | (with_reducible exact call_below hC hw (H1.out _)) | (with_reducible exact call_below hC hw (H2.out _))))); (simp only [Act.put, List.setIfInBounds_toArray, List.set_cons_succ, List.set_cons_zero]); (with_reducible refine hK _ ?_); clear hK K)))
    | ((with_reducible refine quiet_skip ?_ ?_); (focus (first | (simp [Region.wanted, yielded]; done) | (simp [Region.wanted, yielded, undef]; done))); simp only [Act.put, List.setIfInBounds_toArray, List.set_cons_succ, List.set_cons_zero])
    | ((with_reducible refine quiet_go ?_ (fun K hK => ?_)); (focus (first | (simp [Region.wanted, yielded]; done) | (simp [Region.wanted, yielded, undef]; done))); (focus (apply quiet_val; (focus (intro w' hw; obtain ⟨hcq, hfq⟩ := bcell ((hC.out _).1 hw); go_simp; (first | done | rfl | (with_reducible exact call_below hC hw (H1.out _)) | (with_reducible exact call_below hC hw (H2.out _))))); (simp only [Act.put, List.setIfInBounds_toArray, List.set_cons_succ, List.set_cons_zero]); (with_reducible refine hK _ ?_); clear hK K))))
  refine wpQuiet_nil ?_
  intro w1 hb1
  replace hb1 := (hC.out _).1 hb1
  clear hC C
  obtain ⟨hc1, hf1⟩ := bcell hb1
  have L_6 : Blk w1 (w.heap.size) 38 #[.int .i64 x1, .int .i64 x2, .int .i64 x3, .int .i64 x4, .int .i64 x5, .int .i64 x6, .int .i64 x7, .int .i64 x8, .int .i64 x9] := (L_5).past hb1
  have A_6 : Blk w1 (qb1) 48 #[.int .i64 p0, .int .i64 q0] := (A_5).past hb1
  have B_6 : Blk w1 (qb2) 48 #[.int .i64 p1, .int .i64 q1] := (B_5).past hb1
  have C_6 : Blk w1 (qb3) 48 #[.int .i64 p2, .int .i64 q2] := (C_5).past hb1
  have M_6 : Blk w1 (w4_.heap.size) 48 #[.int .i64 (-1), .int .i64 (-1)] := (M_5).past hb1
  have N_6 : Blk w1 (w4_.heap.size + 1) 48 #[.int .i64 0, .int .i64 1] := (N_5).past hb1
  have S_6 := pt (S_5) hb1
  clear L_5 A_5 B_5 C_5 M_5 N_5 S_5 Ac0 Ac1 Al Bc0 Bc1 Bl Cc0 Cc1 Cl Mc0 Mc1 Ml Nc0 Nc1 Nl
  have Ac0 := A_6.cellAt 0 rfl
  have Ac1 := A_6.cellAt 1 rfl
  have Al := A_6.lt
  have Bc0 := B_6.cellAt 0 rfl
  have Bc1 := B_6.cellAt 1 rfl
  have Bl := B_6.lt
  have Cc0 := C_6.cellAt 0 rfl
  have Cc1 := C_6.cellAt 1 rfl
  have Cl := C_6.lt
  have Mc0 := M_6.cellAt 0 rfl
  have Mc1 := M_6.cellAt 1 rfl
  have Ml := M_6.lt
  have Nc0 := N_6.cellAt 0 rfl
  have Nc1 := N_6.cellAt 1 rfl
  have Nl := N_6.lt
  clear hb1 hc1 hf1
  obtain ⟨w6_, rfl⟩ : ∃ v, v = w1 := ⟨_, rfl⟩
  go_wp2
  refine region_below 11 follows_mixed (by kernel_rfl) ?_
  intro C hC
  simp only [List.take_succ_cons, List.take_zero, List.drop_succ_cons, List.drop_zero]
  repeat (first
    | ((with_reducible refine quiet_plain rfl (fun K hK => ?_)); (focus (apply quiet_val; (focus (intro w' hw; obtain ⟨hcq, hfq⟩ := bcell ((hC.out _).1 hw); go_simp; (first | done | rfl | (with_reducible exact call_below hC hw (H3.out _)) | (with_reducible exact call_below hC hw (H4.out _))))); (simp only [Act.put, List.setIfInBounds_toArray, List.set_cons_succ, List.set_cons_zero]); (with_reducible refine hK _ ?_); clear hK K)))
    | ((with_reducible refine quiet_skip ?_ ?_); (focus (first | (simp [Region.wanted, yielded]; done) | (simp [Region.wanted, yielded, undef]; done))); simp only [Act.put, List.setIfInBounds_toArray, List.set_cons_succ, List.set_cons_zero])
    | ((with_reducible refine quiet_go ?_ (fun K hK => ?_)); (focus (first | (simp [Region.wanted, yielded]; done) | (simp [Region.wanted, yielded, undef]; done))); (focus (apply quiet_val; (focus (intro w' hw; obtain ⟨hcq, hfq⟩ := bcell ((hC.out _).1 hw); go_simp; (first | done | rfl | (with_reducible exact call_below hC hw (H3.out _)) | (with_reducible exact call_below hC hw (H4.out _))))); (simp only [Act.put, List.setIfInBounds_toArray, List.set_cons_succ, List.set_cons_zero]); (with_reducible refine hK _ ?_); clear hK K))))
  refine wpQuiet_nil ?_
  intro w1 hb1
  replace hb1 := (hC.out _).1 hb1
  clear hC C
  obtain ⟨hc1, hf1⟩ := bcell hb1
  have L_7 : Blk w1 (w.heap.size) 38 #[.int .i64 x1, .int .i64 x2, .int .i64 x3, .int .i64 x4, .int .i64 x5, .int .i64 x6, .int .i64 x7, .int .i64 x8, .int .i64 x9] := (L_6).past hb1
  have A_7 : Blk w1 (qb1) 48 #[.int .i64 p0, .int .i64 q0] := (A_6).past hb1
  have B_7 : Blk w1 (qb2) 48 #[.int .i64 p1, .int .i64 q1] := (B_6).past hb1
  have C_7 : Blk w1 (qb3) 48 #[.int .i64 p2, .int .i64 q2] := (C_6).past hb1
  have M_7 : Blk w1 (w4_.heap.size) 48 #[.int .i64 (-1), .int .i64 (-1)] := (M_6).past hb1
  have N_7 : Blk w1 (w4_.heap.size + 1) 48 #[.int .i64 0, .int .i64 1] := (N_6).past hb1
  have S_7 := pt (S_6) hb1
  clear L_6 A_6 B_6 C_6 M_6 N_6 S_6 Ac0 Ac1 Al Bc0 Bc1 Bl Cc0 Cc1 Cl Mc0 Mc1 Ml Nc0 Nc1 Nl
  clear hb1 hc1 hf1
  obtain ⟨w7_, rfl⟩ : ∃ v, v = w1 := ⟨_, rfl⟩
  go_wp2
  go_ret2
  exact ⟨rfl, by repeat (first | exact S_7 | refine pa ?_)⟩

set_option maxHeartbeats 8000000 in
set_option maxRecDepth 100000 in
theorem refSeq_tf_f (x1 x2 x3 x4 x5 x6 x7 x8 x9 p0 q0 p1 q1 p2 q2 a1 a2 b1 b2 c1 c2 d1 d2 : Int)
    (ha : ∀ w, Calls Tryd.prog 44 #[.agg #[.int .i64 x1, .int .i64 x2, .int .i64 x3]] w fun e w' => e = .returned (.agg #[.int .i64 p0, .int .i64 q0]) ∧ Below w.heap.size w w')
    (hb : ∀ w, Calls Tryd.prog 44 #[.agg #[.int .i64 x4, .int .i64 x5, .int .i64 x6]] w fun e w' => e = .returned (.agg #[.int .i64 p1, .int .i64 q1]) ∧ Below w.heap.size w w')
    (hc : ∀ w, Calls Tryd.prog 44 #[.agg #[.int .i64 x7, .int .i64 x8, .int .i64 x9]] w fun e w' => e = .returned (.agg #[.int .i64 p2, .int .i64 q2]) ∧ Below w.heap.size w w')
    (h1 : ∀ w, Calls Tryd.prog 25 #[.agg #[.int .i64 p0, .int .i64 q0], .agg #[.int .i64 (-1), .int .i64 (-1)]] w fun e w' => e = .returned (.agg #[.int .i64 a1, .int .i64 a2]) ∧ Below w.heap.size w w')
    (h2 : ∀ w, Calls Tryd.prog 25 #[.agg #[.int .i64 p1, .int .i64 q1], .agg #[.int .i64 (-1), .int .i64 (-1)]] w fun e w' => e = .returned (.agg #[.int .i64 b1, .int .i64 b2]) ∧ Below w.heap.size w w')
    (h3 : ∀ w, Calls Tryd.prog 25 #[.agg #[.int .i64 p0, .int .i64 q0], .agg #[.int .i64 0, .int .i64 1]] w fun e w' => e = .returned (.agg #[.int .i64 c1, .int .i64 c2]) ∧ Below w.heap.size w w')
    (h4 : ∀ w, Calls Tryd.prog 25 #[.agg #[.int .i64 p1, .int .i64 q1], .agg #[.int .i64 0, .int .i64 1]] w fun e w' => e = .returned (.agg #[.int .i64 d1, .int .i64 d2]) ∧ Below w.heap.size w w')
    (hz : phB p0 q0 0 0 = false) (hA : phB p1 q1 a1 a2 = true) (hB : phB p2 q2 b1 b2 = false) (hC : phB p1 q1 c1 c2 = false) (w : World) :
    Calls Tryd.prog 43 #[.agg #[.int .i64 x1, .int .i64 x2, .int .i64 x3, .int .i64 x4, .int .i64 x5, .int .i64 x6, .int .i64 x7, .int .i64 x8, .int .i64 x9]] w fun e w' => e = .returned (.tuple #[.int .i64 0, .int .i64 12]) ∧ Below w.heap.size w w' := by
  have HA := Lib.hid ha
  have HB := Lib.hid hb
  have HC := Lib.hid hc
  have H1 := Lib.hid h1
  have H2 := Lib.hid h2
  have H3 := Lib.hid h3
  have H4 := Lib.hid h4
  clear ha hb hc h1 h2 h3 h4
  go_enter Tryd.func43, Tryd.ntmps43
  go_wp2
  refine region_alloc3 (zc1 := (.cells #[.int .i64 0, .int .i64 0] 48)) (zc2 := (.cells #[.int .i64 0, .int .i64 0] 48)) (zc3 := (.cells #[.int .i64 0, .int .i64 0] 48)) 9 follows_mixed (by kernel_rfl) rfl rfl rfl (fun _ _ => by kernel_rfl) (fun _ _ => by kernel_rfl) (fun _ _ => by kernel_rfl) ?_
  simp only [List.take_succ_cons, List.take_zero, List.drop_succ_cons, List.drop_zero]
  repeat (first
    | ((with_reducible apply grow_plain); (focus rfl); (focus (intro w' hw; obtain ⟨hcq, hfq⟩ := bcell hw; go_simp; (first | done | rfl | (with_reducible exact HA.out _) | (with_reducible exact HB.out _) | (with_reducible exact HC.out _)))); (simp only [Act.put, List.setIfInBounds_toArray, List.set_cons_succ, List.set_cons_zero]))
    | ((with_reducible apply grow_skip); (focus (first | (simp [Region.wanted, yielded]; done) | (simp [Region.wanted, yielded, undef]; done))); simp only [Act.put, List.setIfInBounds_toArray, List.set_cons_succ, List.set_cons_zero])
    | ((with_reducible apply grow_go); (focus (first | (simp [Region.wanted, yielded]; done) | (simp [Region.wanted, yielded, undef]; done))); (focus (intro w' hw; obtain ⟨hcq, hfq⟩ := bcell hw; go_simp; (first | done | rfl | (with_reducible exact HA.out _) | (with_reducible exact HB.out _) | (with_reducible exact HC.out _)))); (simp only [Act.put, List.setIfInBounds_toArray, List.set_cons_succ, List.set_cons_zero])))
  refine grow_nil ?_
  intro qb1 qb2 qb3 w1 hb1 hn1 hn2 hn3 hq12 hq13 hq23
  simp only [Act.put, List.setIfInBounds_toArray, List.set_cons_succ, List.set_cons_zero]
  have L_1 : Blk w1 (w.heap.size) 38 #[.int .i64 x1, .int .i64 x2, .int .i64 x3, .int .i64 x4, .int .i64 x5, .int .i64 x6, .int .i64 x7, .int .i64 x8, .int .i64 x9] := (Blk.newAt (by simp)).past hb1
  have ne_L_A : w.heap.size ≠ qb1 := by have := hn1.ge; simp at this; omega
  have ne_L_B : w.heap.size ≠ qb2 := by have := hn2.ge; simp at this; omega
  have ne_L_C : w.heap.size ≠ qb3 := by have := hn3.ge; simp at this; omega
  have A_1 : Blk w1 qb1 48 #[.int .i64 0, .int .i64 0] := hn1.at_
  have ge_A : w.heap.size ≤ qb1 := by have := hn1.ge; simp at this; omega
  have B_1 : Blk w1 qb2 48 #[.int .i64 0, .int .i64 0] := hn2.at_
  have ge_B : w.heap.size ≤ qb2 := by have := hn2.ge; simp at this; omega
  have C_1 : Blk w1 qb3 48 #[.int .i64 0, .int .i64 0] := hn3.at_
  have ge_C : w.heap.size ≤ qb3 := by have := hn3.ge; simp at this; omega
  have ne_A_B := hq12
  have ne_A_C := hq13
  have ne_B_C := hq23
  have S_1 := pt (pa (pr)) hb1
  clear hb1 hn1 hn2 hn3 hq12 hq13 hq23
  obtain ⟨w1_, rfl⟩ : ∃ v, v = w1 := ⟨_, rfl⟩
  go_wp2_with (first
    | ((with_reducible refine store_sub (T := 48) (x := .tmp 4) (y := .tmp 11) (o := 0) (cs' := #[.int .i64 p0, .int .i64 q0]) (vs := #[.int .i64 p0, .int .i64 q0]) (show Blk _ (qb1) 48 #[.int .i64 0, .int .i64 0] from (A_1)) ?_ ?_ ?_ ?_ ?_ ?_ ?_); (focus rfl); (focus rfl); (focus rfl); (focus exact Nat.le_of_ble_eq_true rfl); (focus exact seq2_size); (focus (simp [Value.oneCell']; done)); intro w2_ b2_ h2_; have L_2 : Blk w2_ (w.heap.size) 38 #[.int .i64 x1, .int .i64 x2, .int .i64 x3, .int .i64 x4, .int .i64 x5, .int .i64 x6, .int .i64 x7, .int .i64 x8, .int .i64 x9] := (L_1).put h2_ ne_L_A; have A_2 : Blk w2_ (qb1) 48 #[.int .i64 p0, .int .i64 q0] := b2_; have B_2 : Blk w2_ (qb2) 48 #[.int .i64 0, .int .i64 0] := (B_1).put h2_ (Ne.symm ne_A_B); have C_2 : Blk w2_ (qb3) 48 #[.int .i64 0, .int .i64 0] := (C_1).put h2_ (Ne.symm ne_A_C); have S_2 := pp (S_1) h2_ ge_A; clear L_1 A_1 B_1 C_1 S_1; clear h2_ b2_)
    | ((with_reducible refine store_sub (T := 48) (x := .tmp 5) (y := .tmp 14) (o := 0) (cs' := #[.int .i64 p1, .int .i64 q1]) (vs := #[.int .i64 p1, .int .i64 q1]) (show Blk _ (qb2) 48 #[.int .i64 0, .int .i64 0] from (B_2)) ?_ ?_ ?_ ?_ ?_ ?_ ?_); (focus rfl); (focus rfl); (focus rfl); (focus exact Nat.le_of_ble_eq_true rfl); (focus exact seq2_size); (focus (simp [Value.oneCell']; done)); intro w3_ b3_ h3_; have L_3 : Blk w3_ (w.heap.size) 38 #[.int .i64 x1, .int .i64 x2, .int .i64 x3, .int .i64 x4, .int .i64 x5, .int .i64 x6, .int .i64 x7, .int .i64 x8, .int .i64 x9] := (L_2).put h3_ ne_L_B; have A_3 : Blk w3_ (qb1) 48 #[.int .i64 p0, .int .i64 q0] := (A_2).put h3_ ne_A_B; have B_3 : Blk w3_ (qb2) 48 #[.int .i64 p1, .int .i64 q1] := b3_; have C_3 : Blk w3_ (qb3) 48 #[.int .i64 0, .int .i64 0] := (C_2).put h3_ (Ne.symm ne_B_C); have S_3 := pp (S_2) h3_ ge_B; clear L_2 A_2 B_2 C_2 S_2; clear h3_ b3_)
    | ((with_reducible refine store_sub (T := 48) (x := .tmp 6) (y := .tmp 17) (o := 0) (cs' := #[.int .i64 p2, .int .i64 q2]) (vs := #[.int .i64 p2, .int .i64 q2]) (show Blk _ (qb3) 48 #[.int .i64 0, .int .i64 0] from (C_3)) ?_ ?_ ?_ ?_ ?_ ?_ ?_); (focus rfl); (focus rfl); (focus rfl); (focus exact Nat.le_of_ble_eq_true rfl); (focus exact seq2_size); (focus (simp [Value.oneCell']; done)); intro w4_ b4_ h4_; have L_4 : Blk w4_ (w.heap.size) 38 #[.int .i64 x1, .int .i64 x2, .int .i64 x3, .int .i64 x4, .int .i64 x5, .int .i64 x6, .int .i64 x7, .int .i64 x8, .int .i64 x9] := (L_3).put h4_ ne_L_C; have A_4 : Blk w4_ (qb1) 48 #[.int .i64 p0, .int .i64 q0] := (A_3).put h4_ ne_A_C; have B_4 : Blk w4_ (qb2) 48 #[.int .i64 p1, .int .i64 q1] := (B_3).put h4_ ne_B_C; have C_4 : Blk w4_ (qb3) 48 #[.int .i64 p2, .int .i64 q2] := b4_; have S_4 := pp (S_3) h4_ ge_C; clear L_3 A_3 B_3 C_3 S_3; have Ac0 := A_4.cellAt 0 rfl; have Ac1 := A_4.cellAt 1 rfl; have Al := A_4.lt; have Bc0 := B_4.cellAt 0 rfl; have Bc1 := B_4.cellAt 1 rfl; have Bl := B_4.lt; have Cc0 := C_4.cellAt 0 rfl; have Cc1 := C_4.cellAt 1 rfl; have Cl := C_4.lt; clear h4_ b4_))
  have L_5 : Blk ((w4_.alloc (.cells #[.int .i64 (-1), .int .i64 (-1)] 48)).alloc (.cells #[.int .i64 0, .int .i64 1] 48)) (w.heap.size) 38 #[.int .i64 x1, .int .i64 x2, .int .i64 x3, .int .i64 x4, .int .i64 x5, .int .i64 x6, .int .i64 x7, .int .i64 x8, .int .i64 x9] := (L_4.alloc.alloc)
  have A_5 : Blk ((w4_.alloc (.cells #[.int .i64 (-1), .int .i64 (-1)] 48)).alloc (.cells #[.int .i64 0, .int .i64 1] 48)) (qb1) 48 #[.int .i64 p0, .int .i64 q0] := (A_4.alloc.alloc)
  have B_5 : Blk ((w4_.alloc (.cells #[.int .i64 (-1), .int .i64 (-1)] 48)).alloc (.cells #[.int .i64 0, .int .i64 1] 48)) (qb2) 48 #[.int .i64 p1, .int .i64 q1] := (B_4.alloc.alloc)
  have C_5 : Blk ((w4_.alloc (.cells #[.int .i64 (-1), .int .i64 (-1)] 48)).alloc (.cells #[.int .i64 0, .int .i64 1] 48)) (qb3) 48 #[.int .i64 p2, .int .i64 q2] := (C_4.alloc.alloc)
  have M_5 : Blk ((w4_.alloc (.cells #[.int .i64 (-1), .int .i64 (-1)] 48)).alloc (.cells #[.int .i64 0, .int .i64 1] 48)) (w4_.heap.size) 48 #[.int .i64 (-1), .int .i64 (-1)] := (Blk.newAt (by simp)).alloc
  have N_5 : Blk ((w4_.alloc (.cells #[.int .i64 (-1), .int .i64 (-1)] 48)).alloc (.cells #[.int .i64 0, .int .i64 1] 48)) (w4_.heap.size + 1) 48 #[.int .i64 0, .int .i64 1] := (Blk.newAt (by simp))
  have ne_A_M : qb1 ≠ w4_.heap.size := (by have := A_4.lt; omega)
  have ne_B_M : qb2 ≠ w4_.heap.size := (by have := B_4.lt; omega)
  have ne_C_M : qb3 ≠ w4_.heap.size := (by have := C_4.lt; omega)
  have ne_A_N : qb1 ≠ w4_.heap.size + 1 := (by have := A_4.lt; omega)
  have ne_B_N : qb2 ≠ w4_.heap.size + 1 := (by have := B_4.lt; omega)
  have ne_C_N : qb3 ≠ w4_.heap.size + 1 := (by have := C_4.lt; omega)
  have S_5 := (show Below w.heap.size w ((w4_.alloc (.cells #[.int .i64 (-1), .int .i64 (-1)] 48)).alloc (.cells #[.int .i64 0, .int .i64 1] 48)) from pa (pa (S_4)))
  clear L_4 A_4 B_4 C_4 S_4 Ac0 Ac1 Al Bc0 Bc1 Bl Cc0 Cc1 Cl
  generalize (w4_.alloc (.cells #[.int .i64 (-1), .int .i64 (-1)] 48)).alloc (.cells #[.int .i64 0, .int .i64 1] 48) = w5_ at *
  have Ac0 := A_5.cellAt 0 rfl
  have Ac1 := A_5.cellAt 1 rfl
  have Al := A_5.lt
  have Bc0 := B_5.cellAt 0 rfl
  have Bc1 := B_5.cellAt 1 rfl
  have Bl := B_5.lt
  have Cc0 := C_5.cellAt 0 rfl
  have Cc1 := C_5.cellAt 1 rfl
  have Cl := C_5.lt
  have Mc0 := M_5.cellAt 0 rfl
  have Mc1 := M_5.cellAt 1 rfl
  have Ml := M_5.lt
  have Nc0 := N_5.cellAt 0 rfl
  have Nc1 := N_5.cellAt 1 rfl
  have Nl := N_5.lt
  refine region_below 11 follows_mixed (by kernel_rfl) ?_
  intro C hC
  simp only [List.take_succ_cons, List.take_zero, List.drop_succ_cons, List.drop_zero]
  repeat (first
    | ((with_reducible refine quiet_plain rfl (fun K hK => ?_)); (focus (apply quiet_val; (focus (intro w' hw; obtain ⟨hcq, hfq⟩ := bcell ((hC.out _).1 hw); go_simp; (first | done | rfl | (with_reducible exact call_below hC hw (H1.out _)) | (with_reducible exact call_below hC hw (H2.out _))))); (simp only [Act.put, List.setIfInBounds_toArray, List.set_cons_succ, List.set_cons_zero]); (with_reducible refine hK _ ?_); clear hK K)))
    | ((with_reducible refine quiet_skip ?_ ?_); (focus (first | (simp [Region.wanted, yielded]; done) | (simp [Region.wanted, yielded, undef]; done))); simp only [Act.put, List.setIfInBounds_toArray, List.set_cons_succ, List.set_cons_zero])
    | ((with_reducible refine quiet_go ?_ (fun K hK => ?_)); (focus (first | (simp [Region.wanted, yielded]; done) | (simp [Region.wanted, yielded, undef]; done))); (focus (apply quiet_val; (focus (intro w' hw; obtain ⟨hcq, hfq⟩ := bcell ((hC.out _).1 hw); go_simp; (first | done | rfl | (with_reducible exact call_below hC hw (H1.out _)) | (with_reducible exact call_below hC hw (H2.out _))))); (simp only [Act.put, List.setIfInBounds_toArray, List.set_cons_succ, List.set_cons_zero]); (with_reducible refine hK _ ?_); clear hK K))))
  refine wpQuiet_nil ?_
  intro w1 hb1
  replace hb1 := (hC.out _).1 hb1
  clear hC C
  obtain ⟨hc1, hf1⟩ := bcell hb1
  have L_6 : Blk w1 (w.heap.size) 38 #[.int .i64 x1, .int .i64 x2, .int .i64 x3, .int .i64 x4, .int .i64 x5, .int .i64 x6, .int .i64 x7, .int .i64 x8, .int .i64 x9] := (L_5).past hb1
  have A_6 : Blk w1 (qb1) 48 #[.int .i64 p0, .int .i64 q0] := (A_5).past hb1
  have B_6 : Blk w1 (qb2) 48 #[.int .i64 p1, .int .i64 q1] := (B_5).past hb1
  have C_6 : Blk w1 (qb3) 48 #[.int .i64 p2, .int .i64 q2] := (C_5).past hb1
  have M_6 : Blk w1 (w4_.heap.size) 48 #[.int .i64 (-1), .int .i64 (-1)] := (M_5).past hb1
  have N_6 : Blk w1 (w4_.heap.size + 1) 48 #[.int .i64 0, .int .i64 1] := (N_5).past hb1
  have S_6 := pt (S_5) hb1
  clear L_5 A_5 B_5 C_5 M_5 N_5 S_5 Ac0 Ac1 Al Bc0 Bc1 Bl Cc0 Cc1 Cl Mc0 Mc1 Ml Nc0 Nc1 Nl
  have Ac0 := A_6.cellAt 0 rfl
  have Ac1 := A_6.cellAt 1 rfl
  have Al := A_6.lt
  have Bc0 := B_6.cellAt 0 rfl
  have Bc1 := B_6.cellAt 1 rfl
  have Bl := B_6.lt
  have Cc0 := C_6.cellAt 0 rfl
  have Cc1 := C_6.cellAt 1 rfl
  have Cl := C_6.lt
  have Mc0 := M_6.cellAt 0 rfl
  have Mc1 := M_6.cellAt 1 rfl
  have Ml := M_6.lt
  have Nc0 := N_6.cellAt 0 rfl
  have Nc1 := N_6.cellAt 1 rfl
  have Nl := N_6.lt
  clear hb1 hc1 hf1
  obtain ⟨w6_, rfl⟩ : ∃ v, v = w1 := ⟨_, rfl⟩
  go_wp2
  refine region_below 11 follows_mixed (by kernel_rfl) ?_
  intro C hC
  simp only [List.take_succ_cons, List.take_zero, List.drop_succ_cons, List.drop_zero]
  repeat (first
    | ((with_reducible refine quiet_plain rfl (fun K hK => ?_)); (focus (apply quiet_val; (focus (intro w' hw; obtain ⟨hcq, hfq⟩ := bcell ((hC.out _).1 hw); go_simp; (first | done | rfl | (with_reducible exact call_below hC hw (H3.out _)) | (with_reducible exact call_below hC hw (H4.out _))))); (simp only [Act.put, List.setIfInBounds_toArray, List.set_cons_succ, List.set_cons_zero]); (with_reducible refine hK _ ?_); clear hK K)))
    | ((with_reducible refine quiet_skip ?_ ?_); (focus (first | (simp [Region.wanted, yielded]; done) | (simp [Region.wanted, yielded, undef]; done))); simp only [Act.put, List.setIfInBounds_toArray, List.set_cons_succ, List.set_cons_zero])
    | ((with_reducible refine quiet_go ?_ (fun K hK => ?_)); (focus (first | (simp [Region.wanted, yielded]; done) | (simp [Region.wanted, yielded, undef]; done))); (focus (apply quiet_val; (focus (intro w' hw; obtain ⟨hcq, hfq⟩ := bcell ((hC.out _).1 hw); go_simp; (first | done | rfl | (with_reducible exact call_below hC hw (H3.out _)) | (with_reducible exact call_below hC hw (H4.out _))))); (simp only [Act.put, List.setIfInBounds_toArray, List.set_cons_succ, List.set_cons_zero]); (with_reducible refine hK _ ?_); clear hK K))))
  refine wpQuiet_nil ?_
  intro w1 hb1
  replace hb1 := (hC.out _).1 hb1
  clear hC C
  obtain ⟨hc1, hf1⟩ := bcell hb1
  have L_7 : Blk w1 (w.heap.size) 38 #[.int .i64 x1, .int .i64 x2, .int .i64 x3, .int .i64 x4, .int .i64 x5, .int .i64 x6, .int .i64 x7, .int .i64 x8, .int .i64 x9] := (L_6).past hb1
  have A_7 : Blk w1 (qb1) 48 #[.int .i64 p0, .int .i64 q0] := (A_6).past hb1
  have B_7 : Blk w1 (qb2) 48 #[.int .i64 p1, .int .i64 q1] := (B_6).past hb1
  have C_7 : Blk w1 (qb3) 48 #[.int .i64 p2, .int .i64 q2] := (C_6).past hb1
  have M_7 : Blk w1 (w4_.heap.size) 48 #[.int .i64 (-1), .int .i64 (-1)] := (M_6).past hb1
  have N_7 : Blk w1 (w4_.heap.size + 1) 48 #[.int .i64 0, .int .i64 1] := (N_6).past hb1
  have S_7 := pt (S_6) hb1
  clear L_6 A_6 B_6 C_6 M_6 N_6 S_6 Ac0 Ac1 Al Bc0 Bc1 Bl Cc0 Cc1 Cl Mc0 Mc1 Ml Nc0 Nc1 Nl
  clear hb1 hc1 hf1
  obtain ⟨w7_, rfl⟩ : ∃ v, v = w1 := ⟨_, rfl⟩
  go_wp2
  go_ret2
  exact ⟨rfl, by repeat (first | exact S_7 | refine pa ?_)⟩

set_option maxHeartbeats 8000000 in
set_option maxRecDepth 100000 in
theorem refSeq_f_tt (x1 x2 x3 x4 x5 x6 x7 x8 x9 p0 q0 p1 q1 p2 q2 a1 a2 b1 b2 c1 c2 d1 d2 : Int)
    (ha : ∀ w, Calls Tryd.prog 44 #[.agg #[.int .i64 x1, .int .i64 x2, .int .i64 x3]] w fun e w' => e = .returned (.agg #[.int .i64 p0, .int .i64 q0]) ∧ Below w.heap.size w w')
    (hb : ∀ w, Calls Tryd.prog 44 #[.agg #[.int .i64 x4, .int .i64 x5, .int .i64 x6]] w fun e w' => e = .returned (.agg #[.int .i64 p1, .int .i64 q1]) ∧ Below w.heap.size w w')
    (hc : ∀ w, Calls Tryd.prog 44 #[.agg #[.int .i64 x7, .int .i64 x8, .int .i64 x9]] w fun e w' => e = .returned (.agg #[.int .i64 p2, .int .i64 q2]) ∧ Below w.heap.size w w')
    (h1 : ∀ w, Calls Tryd.prog 25 #[.agg #[.int .i64 p0, .int .i64 q0], .agg #[.int .i64 (-1), .int .i64 (-1)]] w fun e w' => e = .returned (.agg #[.int .i64 a1, .int .i64 a2]) ∧ Below w.heap.size w w')
    (h2 : ∀ w, Calls Tryd.prog 25 #[.agg #[.int .i64 p1, .int .i64 q1], .agg #[.int .i64 (-1), .int .i64 (-1)]] w fun e w' => e = .returned (.agg #[.int .i64 b1, .int .i64 b2]) ∧ Below w.heap.size w w')
    (h3 : ∀ w, Calls Tryd.prog 25 #[.agg #[.int .i64 p0, .int .i64 q0], .agg #[.int .i64 0, .int .i64 1]] w fun e w' => e = .returned (.agg #[.int .i64 c1, .int .i64 c2]) ∧ Below w.heap.size w w')
    (h4 : ∀ w, Calls Tryd.prog 25 #[.agg #[.int .i64 p1, .int .i64 q1], .agg #[.int .i64 0, .int .i64 1]] w fun e w' => e = .returned (.agg #[.int .i64 d1, .int .i64 d2]) ∧ Below w.heap.size w w')
    (hz : phB p0 q0 0 0 = false) (hA : phB p1 q1 a1 a2 = false) (hC : phB p1 q1 c1 c2 = true) (hD : phB p2 q2 d1 d2 = true) (w : World) :
    Calls Tryd.prog 43 #[.agg #[.int .i64 x1, .int .i64 x2, .int .i64 x3, .int .i64 x4, .int .i64 x5, .int .i64 x6, .int .i64 x7, .int .i64 x8, .int .i64 x9]] w fun e w' => e = .returned (.tuple #[.int .i64 (-1), .int .i64 0]) ∧ Below w.heap.size w w' := by
  have HA := Lib.hid ha
  have HB := Lib.hid hb
  have HC := Lib.hid hc
  have H1 := Lib.hid h1
  have H2 := Lib.hid h2
  have H3 := Lib.hid h3
  have H4 := Lib.hid h4
  clear ha hb hc h1 h2 h3 h4
  go_enter Tryd.func43, Tryd.ntmps43
  go_wp2
  refine region_alloc3 (zc1 := (.cells #[.int .i64 0, .int .i64 0] 48)) (zc2 := (.cells #[.int .i64 0, .int .i64 0] 48)) (zc3 := (.cells #[.int .i64 0, .int .i64 0] 48)) 9 follows_mixed (by kernel_rfl) rfl rfl rfl (fun _ _ => by kernel_rfl) (fun _ _ => by kernel_rfl) (fun _ _ => by kernel_rfl) ?_
  simp only [List.take_succ_cons, List.take_zero, List.drop_succ_cons, List.drop_zero]
  repeat (first
    | ((with_reducible apply grow_plain); (focus rfl); (focus (intro w' hw; obtain ⟨hcq, hfq⟩ := bcell hw; go_simp; (first | done | rfl | (with_reducible exact HA.out _) | (with_reducible exact HB.out _) | (with_reducible exact HC.out _)))); (simp only [Act.put, List.setIfInBounds_toArray, List.set_cons_succ, List.set_cons_zero]))
    | ((with_reducible apply grow_skip); (focus (first | (simp [Region.wanted, yielded]; done) | (simp [Region.wanted, yielded, undef]; done))); simp only [Act.put, List.setIfInBounds_toArray, List.set_cons_succ, List.set_cons_zero])
    | ((with_reducible apply grow_go); (focus (first | (simp [Region.wanted, yielded]; done) | (simp [Region.wanted, yielded, undef]; done))); (focus (intro w' hw; obtain ⟨hcq, hfq⟩ := bcell hw; go_simp; (first | done | rfl | (with_reducible exact HA.out _) | (with_reducible exact HB.out _) | (with_reducible exact HC.out _)))); (simp only [Act.put, List.setIfInBounds_toArray, List.set_cons_succ, List.set_cons_zero])))
  refine grow_nil ?_
  intro qb1 qb2 qb3 w1 hb1 hn1 hn2 hn3 hq12 hq13 hq23
  simp only [Act.put, List.setIfInBounds_toArray, List.set_cons_succ, List.set_cons_zero]
  have L_1 : Blk w1 (w.heap.size) 38 #[.int .i64 x1, .int .i64 x2, .int .i64 x3, .int .i64 x4, .int .i64 x5, .int .i64 x6, .int .i64 x7, .int .i64 x8, .int .i64 x9] := (Blk.newAt (by simp)).past hb1
  have ne_L_A : w.heap.size ≠ qb1 := by have := hn1.ge; simp at this; omega
  have ne_L_B : w.heap.size ≠ qb2 := by have := hn2.ge; simp at this; omega
  have ne_L_C : w.heap.size ≠ qb3 := by have := hn3.ge; simp at this; omega
  have A_1 : Blk w1 qb1 48 #[.int .i64 0, .int .i64 0] := hn1.at_
  have ge_A : w.heap.size ≤ qb1 := by have := hn1.ge; simp at this; omega
  have B_1 : Blk w1 qb2 48 #[.int .i64 0, .int .i64 0] := hn2.at_
  have ge_B : w.heap.size ≤ qb2 := by have := hn2.ge; simp at this; omega
  have C_1 : Blk w1 qb3 48 #[.int .i64 0, .int .i64 0] := hn3.at_
  have ge_C : w.heap.size ≤ qb3 := by have := hn3.ge; simp at this; omega
  have ne_A_B := hq12
  have ne_A_C := hq13
  have ne_B_C := hq23
  have S_1 := pt (pa (pr)) hb1
  clear hb1 hn1 hn2 hn3 hq12 hq13 hq23
  obtain ⟨w1_, rfl⟩ : ∃ v, v = w1 := ⟨_, rfl⟩
  go_wp2_with (first
    | ((with_reducible refine store_sub (T := 48) (x := .tmp 4) (y := .tmp 11) (o := 0) (cs' := #[.int .i64 p0, .int .i64 q0]) (vs := #[.int .i64 p0, .int .i64 q0]) (show Blk _ (qb1) 48 #[.int .i64 0, .int .i64 0] from (A_1)) ?_ ?_ ?_ ?_ ?_ ?_ ?_); (focus rfl); (focus rfl); (focus rfl); (focus exact Nat.le_of_ble_eq_true rfl); (focus exact seq2_size); (focus (simp [Value.oneCell']; done)); intro w2_ b2_ h2_; have L_2 : Blk w2_ (w.heap.size) 38 #[.int .i64 x1, .int .i64 x2, .int .i64 x3, .int .i64 x4, .int .i64 x5, .int .i64 x6, .int .i64 x7, .int .i64 x8, .int .i64 x9] := (L_1).put h2_ ne_L_A; have A_2 : Blk w2_ (qb1) 48 #[.int .i64 p0, .int .i64 q0] := b2_; have B_2 : Blk w2_ (qb2) 48 #[.int .i64 0, .int .i64 0] := (B_1).put h2_ (Ne.symm ne_A_B); have C_2 : Blk w2_ (qb3) 48 #[.int .i64 0, .int .i64 0] := (C_1).put h2_ (Ne.symm ne_A_C); have S_2 := pp (S_1) h2_ ge_A; clear L_1 A_1 B_1 C_1 S_1; clear h2_ b2_)
    | ((with_reducible refine store_sub (T := 48) (x := .tmp 5) (y := .tmp 14) (o := 0) (cs' := #[.int .i64 p1, .int .i64 q1]) (vs := #[.int .i64 p1, .int .i64 q1]) (show Blk _ (qb2) 48 #[.int .i64 0, .int .i64 0] from (B_2)) ?_ ?_ ?_ ?_ ?_ ?_ ?_); (focus rfl); (focus rfl); (focus rfl); (focus exact Nat.le_of_ble_eq_true rfl); (focus exact seq2_size); (focus (simp [Value.oneCell']; done)); intro w3_ b3_ h3_; have L_3 : Blk w3_ (w.heap.size) 38 #[.int .i64 x1, .int .i64 x2, .int .i64 x3, .int .i64 x4, .int .i64 x5, .int .i64 x6, .int .i64 x7, .int .i64 x8, .int .i64 x9] := (L_2).put h3_ ne_L_B; have A_3 : Blk w3_ (qb1) 48 #[.int .i64 p0, .int .i64 q0] := (A_2).put h3_ ne_A_B; have B_3 : Blk w3_ (qb2) 48 #[.int .i64 p1, .int .i64 q1] := b3_; have C_3 : Blk w3_ (qb3) 48 #[.int .i64 0, .int .i64 0] := (C_2).put h3_ (Ne.symm ne_B_C); have S_3 := pp (S_2) h3_ ge_B; clear L_2 A_2 B_2 C_2 S_2; clear h3_ b3_)
    | ((with_reducible refine store_sub (T := 48) (x := .tmp 6) (y := .tmp 17) (o := 0) (cs' := #[.int .i64 p2, .int .i64 q2]) (vs := #[.int .i64 p2, .int .i64 q2]) (show Blk _ (qb3) 48 #[.int .i64 0, .int .i64 0] from (C_3)) ?_ ?_ ?_ ?_ ?_ ?_ ?_); (focus rfl); (focus rfl); (focus rfl); (focus exact Nat.le_of_ble_eq_true rfl); (focus exact seq2_size); (focus (simp [Value.oneCell']; done)); intro w4_ b4_ h4_; have L_4 : Blk w4_ (w.heap.size) 38 #[.int .i64 x1, .int .i64 x2, .int .i64 x3, .int .i64 x4, .int .i64 x5, .int .i64 x6, .int .i64 x7, .int .i64 x8, .int .i64 x9] := (L_3).put h4_ ne_L_C; have A_4 : Blk w4_ (qb1) 48 #[.int .i64 p0, .int .i64 q0] := (A_3).put h4_ ne_A_C; have B_4 : Blk w4_ (qb2) 48 #[.int .i64 p1, .int .i64 q1] := (B_3).put h4_ ne_B_C; have C_4 : Blk w4_ (qb3) 48 #[.int .i64 p2, .int .i64 q2] := b4_; have S_4 := pp (S_3) h4_ ge_C; clear L_3 A_3 B_3 C_3 S_3; have Ac0 := A_4.cellAt 0 rfl; have Ac1 := A_4.cellAt 1 rfl; have Al := A_4.lt; have Bc0 := B_4.cellAt 0 rfl; have Bc1 := B_4.cellAt 1 rfl; have Bl := B_4.lt; have Cc0 := C_4.cellAt 0 rfl; have Cc1 := C_4.cellAt 1 rfl; have Cl := C_4.lt; clear h4_ b4_))
  have L_5 : Blk ((w4_.alloc (.cells #[.int .i64 (-1), .int .i64 (-1)] 48)).alloc (.cells #[.int .i64 0, .int .i64 1] 48)) (w.heap.size) 38 #[.int .i64 x1, .int .i64 x2, .int .i64 x3, .int .i64 x4, .int .i64 x5, .int .i64 x6, .int .i64 x7, .int .i64 x8, .int .i64 x9] := (L_4.alloc.alloc)
  have A_5 : Blk ((w4_.alloc (.cells #[.int .i64 (-1), .int .i64 (-1)] 48)).alloc (.cells #[.int .i64 0, .int .i64 1] 48)) (qb1) 48 #[.int .i64 p0, .int .i64 q0] := (A_4.alloc.alloc)
  have B_5 : Blk ((w4_.alloc (.cells #[.int .i64 (-1), .int .i64 (-1)] 48)).alloc (.cells #[.int .i64 0, .int .i64 1] 48)) (qb2) 48 #[.int .i64 p1, .int .i64 q1] := (B_4.alloc.alloc)
  have C_5 : Blk ((w4_.alloc (.cells #[.int .i64 (-1), .int .i64 (-1)] 48)).alloc (.cells #[.int .i64 0, .int .i64 1] 48)) (qb3) 48 #[.int .i64 p2, .int .i64 q2] := (C_4.alloc.alloc)
  have M_5 : Blk ((w4_.alloc (.cells #[.int .i64 (-1), .int .i64 (-1)] 48)).alloc (.cells #[.int .i64 0, .int .i64 1] 48)) (w4_.heap.size) 48 #[.int .i64 (-1), .int .i64 (-1)] := (Blk.newAt (by simp)).alloc
  have N_5 : Blk ((w4_.alloc (.cells #[.int .i64 (-1), .int .i64 (-1)] 48)).alloc (.cells #[.int .i64 0, .int .i64 1] 48)) (w4_.heap.size + 1) 48 #[.int .i64 0, .int .i64 1] := (Blk.newAt (by simp))
  have ne_A_M : qb1 ≠ w4_.heap.size := (by have := A_4.lt; omega)
  have ne_B_M : qb2 ≠ w4_.heap.size := (by have := B_4.lt; omega)
  have ne_C_M : qb3 ≠ w4_.heap.size := (by have := C_4.lt; omega)
  have ne_A_N : qb1 ≠ w4_.heap.size + 1 := (by have := A_4.lt; omega)
  have ne_B_N : qb2 ≠ w4_.heap.size + 1 := (by have := B_4.lt; omega)
  have ne_C_N : qb3 ≠ w4_.heap.size + 1 := (by have := C_4.lt; omega)
  have S_5 := (show Below w.heap.size w ((w4_.alloc (.cells #[.int .i64 (-1), .int .i64 (-1)] 48)).alloc (.cells #[.int .i64 0, .int .i64 1] 48)) from pa (pa (S_4)))
  clear L_4 A_4 B_4 C_4 S_4 Ac0 Ac1 Al Bc0 Bc1 Bl Cc0 Cc1 Cl
  generalize (w4_.alloc (.cells #[.int .i64 (-1), .int .i64 (-1)] 48)).alloc (.cells #[.int .i64 0, .int .i64 1] 48) = w5_ at *
  have Ac0 := A_5.cellAt 0 rfl
  have Ac1 := A_5.cellAt 1 rfl
  have Al := A_5.lt
  have Bc0 := B_5.cellAt 0 rfl
  have Bc1 := B_5.cellAt 1 rfl
  have Bl := B_5.lt
  have Cc0 := C_5.cellAt 0 rfl
  have Cc1 := C_5.cellAt 1 rfl
  have Cl := C_5.lt
  have Mc0 := M_5.cellAt 0 rfl
  have Mc1 := M_5.cellAt 1 rfl
  have Ml := M_5.lt
  have Nc0 := N_5.cellAt 0 rfl
  have Nc1 := N_5.cellAt 1 rfl
  have Nl := N_5.lt
  refine region_below 11 follows_mixed (by kernel_rfl) ?_
  intro C hC
  simp only [List.take_succ_cons, List.take_zero, List.drop_succ_cons, List.drop_zero]
  repeat (first
    | ((with_reducible refine quiet_plain rfl (fun K hK => ?_)); (focus (apply quiet_val; (focus (intro w' hw; obtain ⟨hcq, hfq⟩ := bcell ((hC.out _).1 hw); go_simp; (first | done | rfl | (with_reducible exact call_below hC hw (H1.out _)) | (with_reducible exact call_below hC hw (H2.out _))))); (simp only [Act.put, List.setIfInBounds_toArray, List.set_cons_succ, List.set_cons_zero]); (with_reducible refine hK _ ?_); clear hK K)))
    | ((with_reducible refine quiet_skip ?_ ?_); (focus (first | (simp [Region.wanted, yielded]; done) | (simp [Region.wanted, yielded, undef]; done))); simp only [Act.put, List.setIfInBounds_toArray, List.set_cons_succ, List.set_cons_zero])
    | ((with_reducible refine quiet_go ?_ (fun K hK => ?_)); (focus (first | (simp [Region.wanted, yielded]; done) | (simp [Region.wanted, yielded, undef]; done))); (focus (apply quiet_val; (focus (intro w' hw; obtain ⟨hcq, hfq⟩ := bcell ((hC.out _).1 hw); go_simp; (first | done | rfl | (with_reducible exact call_below hC hw (H1.out _)) | (with_reducible exact call_below hC hw (H2.out _))))); (simp only [Act.put, List.setIfInBounds_toArray, List.set_cons_succ, List.set_cons_zero]); (with_reducible refine hK _ ?_); clear hK K))))
  refine wpQuiet_nil ?_
  intro w1 hb1
  replace hb1 := (hC.out _).1 hb1
  clear hC C
  obtain ⟨hc1, hf1⟩ := bcell hb1
  have L_6 : Blk w1 (w.heap.size) 38 #[.int .i64 x1, .int .i64 x2, .int .i64 x3, .int .i64 x4, .int .i64 x5, .int .i64 x6, .int .i64 x7, .int .i64 x8, .int .i64 x9] := (L_5).past hb1
  have A_6 : Blk w1 (qb1) 48 #[.int .i64 p0, .int .i64 q0] := (A_5).past hb1
  have B_6 : Blk w1 (qb2) 48 #[.int .i64 p1, .int .i64 q1] := (B_5).past hb1
  have C_6 : Blk w1 (qb3) 48 #[.int .i64 p2, .int .i64 q2] := (C_5).past hb1
  have M_6 : Blk w1 (w4_.heap.size) 48 #[.int .i64 (-1), .int .i64 (-1)] := (M_5).past hb1
  have N_6 : Blk w1 (w4_.heap.size + 1) 48 #[.int .i64 0, .int .i64 1] := (N_5).past hb1
  have S_6 := pt (S_5) hb1
  clear L_5 A_5 B_5 C_5 M_5 N_5 S_5 Ac0 Ac1 Al Bc0 Bc1 Bl Cc0 Cc1 Cl Mc0 Mc1 Ml Nc0 Nc1 Nl
  have Ac0 := A_6.cellAt 0 rfl
  have Ac1 := A_6.cellAt 1 rfl
  have Al := A_6.lt
  have Bc0 := B_6.cellAt 0 rfl
  have Bc1 := B_6.cellAt 1 rfl
  have Bl := B_6.lt
  have Cc0 := C_6.cellAt 0 rfl
  have Cc1 := C_6.cellAt 1 rfl
  have Cl := C_6.lt
  have Mc0 := M_6.cellAt 0 rfl
  have Mc1 := M_6.cellAt 1 rfl
  have Ml := M_6.lt
  have Nc0 := N_6.cellAt 0 rfl
  have Nc1 := N_6.cellAt 1 rfl
  have Nl := N_6.lt
  clear hb1 hc1 hf1
  obtain ⟨w6_, rfl⟩ : ∃ v, v = w1 := ⟨_, rfl⟩
  go_wp2
  refine region_below 11 follows_mixed (by kernel_rfl) ?_
  intro C hC
  simp only [List.take_succ_cons, List.take_zero, List.drop_succ_cons, List.drop_zero]
  repeat (first
    | ((with_reducible refine quiet_plain rfl (fun K hK => ?_)); (focus (apply quiet_val; (focus (intro w' hw; obtain ⟨hcq, hfq⟩ := bcell ((hC.out _).1 hw); go_simp; (first | done | rfl | (with_reducible exact call_below hC hw (H3.out _)) | (with_reducible exact call_below hC hw (H4.out _))))); (simp only [Act.put, List.setIfInBounds_toArray, List.set_cons_succ, List.set_cons_zero]); (with_reducible refine hK _ ?_); clear hK K)))
    | ((with_reducible refine quiet_skip ?_ ?_); (focus (first | (simp [Region.wanted, yielded]; done) | (simp [Region.wanted, yielded, undef]; done))); simp only [Act.put, List.setIfInBounds_toArray, List.set_cons_succ, List.set_cons_zero])
    | ((with_reducible refine quiet_go ?_ (fun K hK => ?_)); (focus (first | (simp [Region.wanted, yielded]; done) | (simp [Region.wanted, yielded, undef]; done))); (focus (apply quiet_val; (focus (intro w' hw; obtain ⟨hcq, hfq⟩ := bcell ((hC.out _).1 hw); go_simp; (first | done | rfl | (with_reducible exact call_below hC hw (H3.out _)) | (with_reducible exact call_below hC hw (H4.out _))))); (simp only [Act.put, List.setIfInBounds_toArray, List.set_cons_succ, List.set_cons_zero]); (with_reducible refine hK _ ?_); clear hK K))))
  refine wpQuiet_nil ?_
  intro w1 hb1
  replace hb1 := (hC.out _).1 hb1
  clear hC C
  obtain ⟨hc1, hf1⟩ := bcell hb1
  have L_7 : Blk w1 (w.heap.size) 38 #[.int .i64 x1, .int .i64 x2, .int .i64 x3, .int .i64 x4, .int .i64 x5, .int .i64 x6, .int .i64 x7, .int .i64 x8, .int .i64 x9] := (L_6).past hb1
  have A_7 : Blk w1 (qb1) 48 #[.int .i64 p0, .int .i64 q0] := (A_6).past hb1
  have B_7 : Blk w1 (qb2) 48 #[.int .i64 p1, .int .i64 q1] := (B_6).past hb1
  have C_7 : Blk w1 (qb3) 48 #[.int .i64 p2, .int .i64 q2] := (C_6).past hb1
  have M_7 : Blk w1 (w4_.heap.size) 48 #[.int .i64 (-1), .int .i64 (-1)] := (M_6).past hb1
  have N_7 : Blk w1 (w4_.heap.size + 1) 48 #[.int .i64 0, .int .i64 1] := (N_6).past hb1
  have S_7 := pt (S_6) hb1
  clear L_6 A_6 B_6 C_6 M_6 N_6 S_6 Ac0 Ac1 Al Bc0 Bc1 Bl Cc0 Cc1 Cl Mc0 Mc1 Ml Nc0 Nc1 Nl
  clear hb1 hc1 hf1
  obtain ⟨w7_, rfl⟩ : ∃ v, v = w1 := ⟨_, rfl⟩
  go_wp2
  go_ret2
  exact ⟨rfl, by repeat (first | exact S_7 | refine pa ?_)⟩

set_option maxHeartbeats 8000000 in
set_option maxRecDepth 100000 in
theorem refSeq_f_tf (x1 x2 x3 x4 x5 x6 x7 x8 x9 p0 q0 p1 q1 p2 q2 a1 a2 b1 b2 c1 c2 d1 d2 : Int)
    (ha : ∀ w, Calls Tryd.prog 44 #[.agg #[.int .i64 x1, .int .i64 x2, .int .i64 x3]] w fun e w' => e = .returned (.agg #[.int .i64 p0, .int .i64 q0]) ∧ Below w.heap.size w w')
    (hb : ∀ w, Calls Tryd.prog 44 #[.agg #[.int .i64 x4, .int .i64 x5, .int .i64 x6]] w fun e w' => e = .returned (.agg #[.int .i64 p1, .int .i64 q1]) ∧ Below w.heap.size w w')
    (hc : ∀ w, Calls Tryd.prog 44 #[.agg #[.int .i64 x7, .int .i64 x8, .int .i64 x9]] w fun e w' => e = .returned (.agg #[.int .i64 p2, .int .i64 q2]) ∧ Below w.heap.size w w')
    (h1 : ∀ w, Calls Tryd.prog 25 #[.agg #[.int .i64 p0, .int .i64 q0], .agg #[.int .i64 (-1), .int .i64 (-1)]] w fun e w' => e = .returned (.agg #[.int .i64 a1, .int .i64 a2]) ∧ Below w.heap.size w w')
    (h2 : ∀ w, Calls Tryd.prog 25 #[.agg #[.int .i64 p1, .int .i64 q1], .agg #[.int .i64 (-1), .int .i64 (-1)]] w fun e w' => e = .returned (.agg #[.int .i64 b1, .int .i64 b2]) ∧ Below w.heap.size w w')
    (h3 : ∀ w, Calls Tryd.prog 25 #[.agg #[.int .i64 p0, .int .i64 q0], .agg #[.int .i64 0, .int .i64 1]] w fun e w' => e = .returned (.agg #[.int .i64 c1, .int .i64 c2]) ∧ Below w.heap.size w w')
    (h4 : ∀ w, Calls Tryd.prog 25 #[.agg #[.int .i64 p1, .int .i64 q1], .agg #[.int .i64 0, .int .i64 1]] w fun e w' => e = .returned (.agg #[.int .i64 d1, .int .i64 d2]) ∧ Below w.heap.size w w')
    (hz : phB p0 q0 0 0 = false) (hA : phB p1 q1 a1 a2 = false) (hC : phB p1 q1 c1 c2 = true) (hD : phB p2 q2 d1 d2 = false) (w : World) :
    Calls Tryd.prog 43 #[.agg #[.int .i64 x1, .int .i64 x2, .int .i64 x3, .int .i64 x4, .int .i64 x5, .int .i64 x6, .int .i64 x7, .int .i64 x8, .int .i64 x9]] w fun e w' => e = .returned (.tuple #[.int .i64 0, .int .i64 12]) ∧ Below w.heap.size w w' := by
  have HA := Lib.hid ha
  have HB := Lib.hid hb
  have HC := Lib.hid hc
  have H1 := Lib.hid h1
  have H2 := Lib.hid h2
  have H3 := Lib.hid h3
  have H4 := Lib.hid h4
  clear ha hb hc h1 h2 h3 h4
  go_enter Tryd.func43, Tryd.ntmps43
  go_wp2
  refine region_alloc3 (zc1 := (.cells #[.int .i64 0, .int .i64 0] 48)) (zc2 := (.cells #[.int .i64 0, .int .i64 0] 48)) (zc3 := (.cells #[.int .i64 0, .int .i64 0] 48)) 9 follows_mixed (by kernel_rfl) rfl rfl rfl (fun _ _ => by kernel_rfl) (fun _ _ => by kernel_rfl) (fun _ _ => by kernel_rfl) ?_
  simp only [List.take_succ_cons, List.take_zero, List.drop_succ_cons, List.drop_zero]
  repeat (first
    | ((with_reducible apply grow_plain); (focus rfl); (focus (intro w' hw; obtain ⟨hcq, hfq⟩ := bcell hw; go_simp; (first | done | rfl | (with_reducible exact HA.out _) | (with_reducible exact HB.out _) | (with_reducible exact HC.out _)))); (simp only [Act.put, List.setIfInBounds_toArray, List.set_cons_succ, List.set_cons_zero]))
    | ((with_reducible apply grow_skip); (focus (first | (simp [Region.wanted, yielded]; done) | (simp [Region.wanted, yielded, undef]; done))); simp only [Act.put, List.setIfInBounds_toArray, List.set_cons_succ, List.set_cons_zero])
    | ((with_reducible apply grow_go); (focus (first | (simp [Region.wanted, yielded]; done) | (simp [Region.wanted, yielded, undef]; done))); (focus (intro w' hw; obtain ⟨hcq, hfq⟩ := bcell hw; go_simp; (first | done | rfl | (with_reducible exact HA.out _) | (with_reducible exact HB.out _) | (with_reducible exact HC.out _)))); (simp only [Act.put, List.setIfInBounds_toArray, List.set_cons_succ, List.set_cons_zero])))
  refine grow_nil ?_
  intro qb1 qb2 qb3 w1 hb1 hn1 hn2 hn3 hq12 hq13 hq23
  simp only [Act.put, List.setIfInBounds_toArray, List.set_cons_succ, List.set_cons_zero]
  have L_1 : Blk w1 (w.heap.size) 38 #[.int .i64 x1, .int .i64 x2, .int .i64 x3, .int .i64 x4, .int .i64 x5, .int .i64 x6, .int .i64 x7, .int .i64 x8, .int .i64 x9] := (Blk.newAt (by simp)).past hb1
  have ne_L_A : w.heap.size ≠ qb1 := by have := hn1.ge; simp at this; omega
  have ne_L_B : w.heap.size ≠ qb2 := by have := hn2.ge; simp at this; omega
  have ne_L_C : w.heap.size ≠ qb3 := by have := hn3.ge; simp at this; omega
  have A_1 : Blk w1 qb1 48 #[.int .i64 0, .int .i64 0] := hn1.at_
  have ge_A : w.heap.size ≤ qb1 := by have := hn1.ge; simp at this; omega
  have B_1 : Blk w1 qb2 48 #[.int .i64 0, .int .i64 0] := hn2.at_
  have ge_B : w.heap.size ≤ qb2 := by have := hn2.ge; simp at this; omega
  have C_1 : Blk w1 qb3 48 #[.int .i64 0, .int .i64 0] := hn3.at_
  have ge_C : w.heap.size ≤ qb3 := by have := hn3.ge; simp at this; omega
  have ne_A_B := hq12
  have ne_A_C := hq13
  have ne_B_C := hq23
  have S_1 := pt (pa (pr)) hb1
  clear hb1 hn1 hn2 hn3 hq12 hq13 hq23
  obtain ⟨w1_, rfl⟩ : ∃ v, v = w1 := ⟨_, rfl⟩
  go_wp2_with (first
    | ((with_reducible refine store_sub (T := 48) (x := .tmp 4) (y := .tmp 11) (o := 0) (cs' := #[.int .i64 p0, .int .i64 q0]) (vs := #[.int .i64 p0, .int .i64 q0]) (show Blk _ (qb1) 48 #[.int .i64 0, .int .i64 0] from (A_1)) ?_ ?_ ?_ ?_ ?_ ?_ ?_); (focus rfl); (focus rfl); (focus rfl); (focus exact Nat.le_of_ble_eq_true rfl); (focus exact seq2_size); (focus (simp [Value.oneCell']; done)); intro w2_ b2_ h2_; have L_2 : Blk w2_ (w.heap.size) 38 #[.int .i64 x1, .int .i64 x2, .int .i64 x3, .int .i64 x4, .int .i64 x5, .int .i64 x6, .int .i64 x7, .int .i64 x8, .int .i64 x9] := (L_1).put h2_ ne_L_A; have A_2 : Blk w2_ (qb1) 48 #[.int .i64 p0, .int .i64 q0] := b2_; have B_2 : Blk w2_ (qb2) 48 #[.int .i64 0, .int .i64 0] := (B_1).put h2_ (Ne.symm ne_A_B); have C_2 : Blk w2_ (qb3) 48 #[.int .i64 0, .int .i64 0] := (C_1).put h2_ (Ne.symm ne_A_C); have S_2 := pp (S_1) h2_ ge_A; clear L_1 A_1 B_1 C_1 S_1; clear h2_ b2_)
    | ((with_reducible refine store_sub (T := 48) (x := .tmp 5) (y := .tmp 14) (o := 0) (cs' := #[.int .i64 p1, .int .i64 q1]) (vs := #[.int .i64 p1, .int .i64 q1]) (show Blk _ (qb2) 48 #[.int .i64 0, .int .i64 0] from (B_2)) ?_ ?_ ?_ ?_ ?_ ?_ ?_); (focus rfl); (focus rfl); (focus rfl); (focus exact Nat.le_of_ble_eq_true rfl); (focus exact seq2_size); (focus (simp [Value.oneCell']; done)); intro w3_ b3_ h3_; have L_3 : Blk w3_ (w.heap.size) 38 #[.int .i64 x1, .int .i64 x2, .int .i64 x3, .int .i64 x4, .int .i64 x5, .int .i64 x6, .int .i64 x7, .int .i64 x8, .int .i64 x9] := (L_2).put h3_ ne_L_B; have A_3 : Blk w3_ (qb1) 48 #[.int .i64 p0, .int .i64 q0] := (A_2).put h3_ ne_A_B; have B_3 : Blk w3_ (qb2) 48 #[.int .i64 p1, .int .i64 q1] := b3_; have C_3 : Blk w3_ (qb3) 48 #[.int .i64 0, .int .i64 0] := (C_2).put h3_ (Ne.symm ne_B_C); have S_3 := pp (S_2) h3_ ge_B; clear L_2 A_2 B_2 C_2 S_2; clear h3_ b3_)
    | ((with_reducible refine store_sub (T := 48) (x := .tmp 6) (y := .tmp 17) (o := 0) (cs' := #[.int .i64 p2, .int .i64 q2]) (vs := #[.int .i64 p2, .int .i64 q2]) (show Blk _ (qb3) 48 #[.int .i64 0, .int .i64 0] from (C_3)) ?_ ?_ ?_ ?_ ?_ ?_ ?_); (focus rfl); (focus rfl); (focus rfl); (focus exact Nat.le_of_ble_eq_true rfl); (focus exact seq2_size); (focus (simp [Value.oneCell']; done)); intro w4_ b4_ h4_; have L_4 : Blk w4_ (w.heap.size) 38 #[.int .i64 x1, .int .i64 x2, .int .i64 x3, .int .i64 x4, .int .i64 x5, .int .i64 x6, .int .i64 x7, .int .i64 x8, .int .i64 x9] := (L_3).put h4_ ne_L_C; have A_4 : Blk w4_ (qb1) 48 #[.int .i64 p0, .int .i64 q0] := (A_3).put h4_ ne_A_C; have B_4 : Blk w4_ (qb2) 48 #[.int .i64 p1, .int .i64 q1] := (B_3).put h4_ ne_B_C; have C_4 : Blk w4_ (qb3) 48 #[.int .i64 p2, .int .i64 q2] := b4_; have S_4 := pp (S_3) h4_ ge_C; clear L_3 A_3 B_3 C_3 S_3; have Ac0 := A_4.cellAt 0 rfl; have Ac1 := A_4.cellAt 1 rfl; have Al := A_4.lt; have Bc0 := B_4.cellAt 0 rfl; have Bc1 := B_4.cellAt 1 rfl; have Bl := B_4.lt; have Cc0 := C_4.cellAt 0 rfl; have Cc1 := C_4.cellAt 1 rfl; have Cl := C_4.lt; clear h4_ b4_))
  have L_5 : Blk ((w4_.alloc (.cells #[.int .i64 (-1), .int .i64 (-1)] 48)).alloc (.cells #[.int .i64 0, .int .i64 1] 48)) (w.heap.size) 38 #[.int .i64 x1, .int .i64 x2, .int .i64 x3, .int .i64 x4, .int .i64 x5, .int .i64 x6, .int .i64 x7, .int .i64 x8, .int .i64 x9] := (L_4.alloc.alloc)
  have A_5 : Blk ((w4_.alloc (.cells #[.int .i64 (-1), .int .i64 (-1)] 48)).alloc (.cells #[.int .i64 0, .int .i64 1] 48)) (qb1) 48 #[.int .i64 p0, .int .i64 q0] := (A_4.alloc.alloc)
  have B_5 : Blk ((w4_.alloc (.cells #[.int .i64 (-1), .int .i64 (-1)] 48)).alloc (.cells #[.int .i64 0, .int .i64 1] 48)) (qb2) 48 #[.int .i64 p1, .int .i64 q1] := (B_4.alloc.alloc)
  have C_5 : Blk ((w4_.alloc (.cells #[.int .i64 (-1), .int .i64 (-1)] 48)).alloc (.cells #[.int .i64 0, .int .i64 1] 48)) (qb3) 48 #[.int .i64 p2, .int .i64 q2] := (C_4.alloc.alloc)
  have M_5 : Blk ((w4_.alloc (.cells #[.int .i64 (-1), .int .i64 (-1)] 48)).alloc (.cells #[.int .i64 0, .int .i64 1] 48)) (w4_.heap.size) 48 #[.int .i64 (-1), .int .i64 (-1)] := (Blk.newAt (by simp)).alloc
  have N_5 : Blk ((w4_.alloc (.cells #[.int .i64 (-1), .int .i64 (-1)] 48)).alloc (.cells #[.int .i64 0, .int .i64 1] 48)) (w4_.heap.size + 1) 48 #[.int .i64 0, .int .i64 1] := (Blk.newAt (by simp))
  have ne_A_M : qb1 ≠ w4_.heap.size := (by have := A_4.lt; omega)
  have ne_B_M : qb2 ≠ w4_.heap.size := (by have := B_4.lt; omega)
  have ne_C_M : qb3 ≠ w4_.heap.size := (by have := C_4.lt; omega)
  have ne_A_N : qb1 ≠ w4_.heap.size + 1 := (by have := A_4.lt; omega)
  have ne_B_N : qb2 ≠ w4_.heap.size + 1 := (by have := B_4.lt; omega)
  have ne_C_N : qb3 ≠ w4_.heap.size + 1 := (by have := C_4.lt; omega)
  have S_5 := (show Below w.heap.size w ((w4_.alloc (.cells #[.int .i64 (-1), .int .i64 (-1)] 48)).alloc (.cells #[.int .i64 0, .int .i64 1] 48)) from pa (pa (S_4)))
  clear L_4 A_4 B_4 C_4 S_4 Ac0 Ac1 Al Bc0 Bc1 Bl Cc0 Cc1 Cl
  generalize (w4_.alloc (.cells #[.int .i64 (-1), .int .i64 (-1)] 48)).alloc (.cells #[.int .i64 0, .int .i64 1] 48) = w5_ at *
  have Ac0 := A_5.cellAt 0 rfl
  have Ac1 := A_5.cellAt 1 rfl
  have Al := A_5.lt
  have Bc0 := B_5.cellAt 0 rfl
  have Bc1 := B_5.cellAt 1 rfl
  have Bl := B_5.lt
  have Cc0 := C_5.cellAt 0 rfl
  have Cc1 := C_5.cellAt 1 rfl
  have Cl := C_5.lt
  have Mc0 := M_5.cellAt 0 rfl
  have Mc1 := M_5.cellAt 1 rfl
  have Ml := M_5.lt
  have Nc0 := N_5.cellAt 0 rfl
  have Nc1 := N_5.cellAt 1 rfl
  have Nl := N_5.lt
  refine region_below 11 follows_mixed (by kernel_rfl) ?_
  intro C hC
  simp only [List.take_succ_cons, List.take_zero, List.drop_succ_cons, List.drop_zero]
  repeat (first
    | ((with_reducible refine quiet_plain rfl (fun K hK => ?_)); (focus (apply quiet_val; (focus (intro w' hw; obtain ⟨hcq, hfq⟩ := bcell ((hC.out _).1 hw); go_simp; (first | done | rfl | (with_reducible exact call_below hC hw (H1.out _)) | (with_reducible exact call_below hC hw (H2.out _))))); (simp only [Act.put, List.setIfInBounds_toArray, List.set_cons_succ, List.set_cons_zero]); (with_reducible refine hK _ ?_); clear hK K)))
    | ((with_reducible refine quiet_skip ?_ ?_); (focus (first | (simp [Region.wanted, yielded]; done) | (simp [Region.wanted, yielded, undef]; done))); simp only [Act.put, List.setIfInBounds_toArray, List.set_cons_succ, List.set_cons_zero])
    | ((with_reducible refine quiet_go ?_ (fun K hK => ?_)); (focus (first | (simp [Region.wanted, yielded]; done) | (simp [Region.wanted, yielded, undef]; done))); (focus (apply quiet_val; (focus (intro w' hw; obtain ⟨hcq, hfq⟩ := bcell ((hC.out _).1 hw); go_simp; (first | done | rfl | (with_reducible exact call_below hC hw (H1.out _)) | (with_reducible exact call_below hC hw (H2.out _))))); (simp only [Act.put, List.setIfInBounds_toArray, List.set_cons_succ, List.set_cons_zero]); (with_reducible refine hK _ ?_); clear hK K))))
  refine wpQuiet_nil ?_
  intro w1 hb1
  replace hb1 := (hC.out _).1 hb1
  clear hC C
  obtain ⟨hc1, hf1⟩ := bcell hb1
  have L_6 : Blk w1 (w.heap.size) 38 #[.int .i64 x1, .int .i64 x2, .int .i64 x3, .int .i64 x4, .int .i64 x5, .int .i64 x6, .int .i64 x7, .int .i64 x8, .int .i64 x9] := (L_5).past hb1
  have A_6 : Blk w1 (qb1) 48 #[.int .i64 p0, .int .i64 q0] := (A_5).past hb1
  have B_6 : Blk w1 (qb2) 48 #[.int .i64 p1, .int .i64 q1] := (B_5).past hb1
  have C_6 : Blk w1 (qb3) 48 #[.int .i64 p2, .int .i64 q2] := (C_5).past hb1
  have M_6 : Blk w1 (w4_.heap.size) 48 #[.int .i64 (-1), .int .i64 (-1)] := (M_5).past hb1
  have N_6 : Blk w1 (w4_.heap.size + 1) 48 #[.int .i64 0, .int .i64 1] := (N_5).past hb1
  have S_6 := pt (S_5) hb1
  clear L_5 A_5 B_5 C_5 M_5 N_5 S_5 Ac0 Ac1 Al Bc0 Bc1 Bl Cc0 Cc1 Cl Mc0 Mc1 Ml Nc0 Nc1 Nl
  have Ac0 := A_6.cellAt 0 rfl
  have Ac1 := A_6.cellAt 1 rfl
  have Al := A_6.lt
  have Bc0 := B_6.cellAt 0 rfl
  have Bc1 := B_6.cellAt 1 rfl
  have Bl := B_6.lt
  have Cc0 := C_6.cellAt 0 rfl
  have Cc1 := C_6.cellAt 1 rfl
  have Cl := C_6.lt
  have Mc0 := M_6.cellAt 0 rfl
  have Mc1 := M_6.cellAt 1 rfl
  have Ml := M_6.lt
  have Nc0 := N_6.cellAt 0 rfl
  have Nc1 := N_6.cellAt 1 rfl
  have Nl := N_6.lt
  clear hb1 hc1 hf1
  obtain ⟨w6_, rfl⟩ : ∃ v, v = w1 := ⟨_, rfl⟩
  go_wp2
  refine region_below 11 follows_mixed (by kernel_rfl) ?_
  intro C hC
  simp only [List.take_succ_cons, List.take_zero, List.drop_succ_cons, List.drop_zero]
  repeat (first
    | ((with_reducible refine quiet_plain rfl (fun K hK => ?_)); (focus (apply quiet_val; (focus (intro w' hw; obtain ⟨hcq, hfq⟩ := bcell ((hC.out _).1 hw); go_simp; (first | done | rfl | (with_reducible exact call_below hC hw (H3.out _)) | (with_reducible exact call_below hC hw (H4.out _))))); (simp only [Act.put, List.setIfInBounds_toArray, List.set_cons_succ, List.set_cons_zero]); (with_reducible refine hK _ ?_); clear hK K)))
    | ((with_reducible refine quiet_skip ?_ ?_); (focus (first | (simp [Region.wanted, yielded]; done) | (simp [Region.wanted, yielded, undef]; done))); simp only [Act.put, List.setIfInBounds_toArray, List.set_cons_succ, List.set_cons_zero])
    | ((with_reducible refine quiet_go ?_ (fun K hK => ?_)); (focus (first | (simp [Region.wanted, yielded]; done) | (simp [Region.wanted, yielded, undef]; done))); (focus (apply quiet_val; (focus (intro w' hw; obtain ⟨hcq, hfq⟩ := bcell ((hC.out _).1 hw); go_simp; (first | done | rfl | (with_reducible exact call_below hC hw (H3.out _)) | (with_reducible exact call_below hC hw (H4.out _))))); (simp only [Act.put, List.setIfInBounds_toArray, List.set_cons_succ, List.set_cons_zero]); (with_reducible refine hK _ ?_); clear hK K))))
  refine wpQuiet_nil ?_
  intro w1 hb1
  replace hb1 := (hC.out _).1 hb1
  clear hC C
  obtain ⟨hc1, hf1⟩ := bcell hb1
  have L_7 : Blk w1 (w.heap.size) 38 #[.int .i64 x1, .int .i64 x2, .int .i64 x3, .int .i64 x4, .int .i64 x5, .int .i64 x6, .int .i64 x7, .int .i64 x8, .int .i64 x9] := (L_6).past hb1
  have A_7 : Blk w1 (qb1) 48 #[.int .i64 p0, .int .i64 q0] := (A_6).past hb1
  have B_7 : Blk w1 (qb2) 48 #[.int .i64 p1, .int .i64 q1] := (B_6).past hb1
  have C_7 : Blk w1 (qb3) 48 #[.int .i64 p2, .int .i64 q2] := (C_6).past hb1
  have M_7 : Blk w1 (w4_.heap.size) 48 #[.int .i64 (-1), .int .i64 (-1)] := (M_6).past hb1
  have N_7 : Blk w1 (w4_.heap.size + 1) 48 #[.int .i64 0, .int .i64 1] := (N_6).past hb1
  have S_7 := pt (S_6) hb1
  clear L_6 A_6 B_6 C_6 M_6 N_6 S_6 Ac0 Ac1 Al Bc0 Bc1 Bl Cc0 Cc1 Cl Mc0 Mc1 Ml Nc0 Nc1 Nl
  clear hb1 hc1 hf1
  obtain ⟨w7_, rfl⟩ : ∃ v, v = w1 := ⟨_, rfl⟩
  go_wp2
  go_ret2
  exact ⟨rfl, by repeat (first | exact S_7 | refine pa ?_)⟩

set_option maxHeartbeats 8000000 in
set_option maxRecDepth 100000 in
theorem refSeq_f_f (x1 x2 x3 x4 x5 x6 x7 x8 x9 p0 q0 p1 q1 p2 q2 a1 a2 b1 b2 c1 c2 d1 d2 : Int)
    (ha : ∀ w, Calls Tryd.prog 44 #[.agg #[.int .i64 x1, .int .i64 x2, .int .i64 x3]] w fun e w' => e = .returned (.agg #[.int .i64 p0, .int .i64 q0]) ∧ Below w.heap.size w w')
    (hb : ∀ w, Calls Tryd.prog 44 #[.agg #[.int .i64 x4, .int .i64 x5, .int .i64 x6]] w fun e w' => e = .returned (.agg #[.int .i64 p1, .int .i64 q1]) ∧ Below w.heap.size w w')
    (hc : ∀ w, Calls Tryd.prog 44 #[.agg #[.int .i64 x7, .int .i64 x8, .int .i64 x9]] w fun e w' => e = .returned (.agg #[.int .i64 p2, .int .i64 q2]) ∧ Below w.heap.size w w')
    (h1 : ∀ w, Calls Tryd.prog 25 #[.agg #[.int .i64 p0, .int .i64 q0], .agg #[.int .i64 (-1), .int .i64 (-1)]] w fun e w' => e = .returned (.agg #[.int .i64 a1, .int .i64 a2]) ∧ Below w.heap.size w w')
    (h2 : ∀ w, Calls Tryd.prog 25 #[.agg #[.int .i64 p1, .int .i64 q1], .agg #[.int .i64 (-1), .int .i64 (-1)]] w fun e w' => e = .returned (.agg #[.int .i64 b1, .int .i64 b2]) ∧ Below w.heap.size w w')
    (h3 : ∀ w, Calls Tryd.prog 25 #[.agg #[.int .i64 p0, .int .i64 q0], .agg #[.int .i64 0, .int .i64 1]] w fun e w' => e = .returned (.agg #[.int .i64 c1, .int .i64 c2]) ∧ Below w.heap.size w w')
    (h4 : ∀ w, Calls Tryd.prog 25 #[.agg #[.int .i64 p1, .int .i64 q1], .agg #[.int .i64 0, .int .i64 1]] w fun e w' => e = .returned (.agg #[.int .i64 d1, .int .i64 d2]) ∧ Below w.heap.size w w')
    (hz : phB p0 q0 0 0 = false) (hA : phB p1 q1 a1 a2 = false) (hC : phB p1 q1 c1 c2 = false) (w : World) :
    Calls Tryd.prog 43 #[.agg #[.int .i64 x1, .int .i64 x2, .int .i64 x3, .int .i64 x4, .int .i64 x5, .int .i64 x6, .int .i64 x7, .int .i64 x8, .int .i64 x9]] w fun e w' => e = .returned (.tuple #[.int .i64 0, .int .i64 12]) ∧ Below w.heap.size w w' := by
  have HA := Lib.hid ha
  have HB := Lib.hid hb
  have HC := Lib.hid hc
  have H1 := Lib.hid h1
  have H2 := Lib.hid h2
  have H3 := Lib.hid h3
  have H4 := Lib.hid h4
  clear ha hb hc h1 h2 h3 h4
  go_enter Tryd.func43, Tryd.ntmps43
  go_wp2
  refine region_alloc3 (zc1 := (.cells #[.int .i64 0, .int .i64 0] 48)) (zc2 := (.cells #[.int .i64 0, .int .i64 0] 48)) (zc3 := (.cells #[.int .i64 0, .int .i64 0] 48)) 9 follows_mixed (by kernel_rfl) rfl rfl rfl (fun _ _ => by kernel_rfl) (fun _ _ => by kernel_rfl) (fun _ _ => by kernel_rfl) ?_
  simp only [List.take_succ_cons, List.take_zero, List.drop_succ_cons, List.drop_zero]
  repeat (first
    | ((with_reducible apply grow_plain); (focus rfl); (focus (intro w' hw; obtain ⟨hcq, hfq⟩ := bcell hw; go_simp; (first | done | rfl | (with_reducible exact HA.out _) | (with_reducible exact HB.out _) | (with_reducible exact HC.out _)))); (simp only [Act.put, List.setIfInBounds_toArray, List.set_cons_succ, List.set_cons_zero]))
    | ((with_reducible apply grow_skip); (focus (first | (simp [Region.wanted, yielded]; done) | (simp [Region.wanted, yielded, undef]; done))); simp only [Act.put, List.setIfInBounds_toArray, List.set_cons_succ, List.set_cons_zero])
    | ((with_reducible apply grow_go); (focus (first | (simp [Region.wanted, yielded]; done) | (simp [Region.wanted, yielded, undef]; done))); (focus (intro w' hw; obtain ⟨hcq, hfq⟩ := bcell hw; go_simp; (first | done | rfl | (with_reducible exact HA.out _) | (with_reducible exact HB.out _) | (with_reducible exact HC.out _)))); (simp only [Act.put, List.setIfInBounds_toArray, List.set_cons_succ, List.set_cons_zero])))
  refine grow_nil ?_
  intro qb1 qb2 qb3 w1 hb1 hn1 hn2 hn3 hq12 hq13 hq23
  simp only [Act.put, List.setIfInBounds_toArray, List.set_cons_succ, List.set_cons_zero]
  have L_1 : Blk w1 (w.heap.size) 38 #[.int .i64 x1, .int .i64 x2, .int .i64 x3, .int .i64 x4, .int .i64 x5, .int .i64 x6, .int .i64 x7, .int .i64 x8, .int .i64 x9] := (Blk.newAt (by simp)).past hb1
  have ne_L_A : w.heap.size ≠ qb1 := by have := hn1.ge; simp at this; omega
  have ne_L_B : w.heap.size ≠ qb2 := by have := hn2.ge; simp at this; omega
  have ne_L_C : w.heap.size ≠ qb3 := by have := hn3.ge; simp at this; omega
  have A_1 : Blk w1 qb1 48 #[.int .i64 0, .int .i64 0] := hn1.at_
  have ge_A : w.heap.size ≤ qb1 := by have := hn1.ge; simp at this; omega
  have B_1 : Blk w1 qb2 48 #[.int .i64 0, .int .i64 0] := hn2.at_
  have ge_B : w.heap.size ≤ qb2 := by have := hn2.ge; simp at this; omega
  have C_1 : Blk w1 qb3 48 #[.int .i64 0, .int .i64 0] := hn3.at_
  have ge_C : w.heap.size ≤ qb3 := by have := hn3.ge; simp at this; omega
  have ne_A_B := hq12
  have ne_A_C := hq13
  have ne_B_C := hq23
  have S_1 := pt (pa (pr)) hb1
  clear hb1 hn1 hn2 hn3 hq12 hq13 hq23
  obtain ⟨w1_, rfl⟩ : ∃ v, v = w1 := ⟨_, rfl⟩
  go_wp2_with (first
    | ((with_reducible refine store_sub (T := 48) (x := .tmp 4) (y := .tmp 11) (o := 0) (cs' := #[.int .i64 p0, .int .i64 q0]) (vs := #[.int .i64 p0, .int .i64 q0]) (show Blk _ (qb1) 48 #[.int .i64 0, .int .i64 0] from (A_1)) ?_ ?_ ?_ ?_ ?_ ?_ ?_); (focus rfl); (focus rfl); (focus rfl); (focus exact Nat.le_of_ble_eq_true rfl); (focus exact seq2_size); (focus (simp [Value.oneCell']; done)); intro w2_ b2_ h2_; have L_2 : Blk w2_ (w.heap.size) 38 #[.int .i64 x1, .int .i64 x2, .int .i64 x3, .int .i64 x4, .int .i64 x5, .int .i64 x6, .int .i64 x7, .int .i64 x8, .int .i64 x9] := (L_1).put h2_ ne_L_A; have A_2 : Blk w2_ (qb1) 48 #[.int .i64 p0, .int .i64 q0] := b2_; have B_2 : Blk w2_ (qb2) 48 #[.int .i64 0, .int .i64 0] := (B_1).put h2_ (Ne.symm ne_A_B); have C_2 : Blk w2_ (qb3) 48 #[.int .i64 0, .int .i64 0] := (C_1).put h2_ (Ne.symm ne_A_C); have S_2 := pp (S_1) h2_ ge_A; clear L_1 A_1 B_1 C_1 S_1; clear h2_ b2_)
    | ((with_reducible refine store_sub (T := 48) (x := .tmp 5) (y := .tmp 14) (o := 0) (cs' := #[.int .i64 p1, .int .i64 q1]) (vs := #[.int .i64 p1, .int .i64 q1]) (show Blk _ (qb2) 48 #[.int .i64 0, .int .i64 0] from (B_2)) ?_ ?_ ?_ ?_ ?_ ?_ ?_); (focus rfl); (focus rfl); (focus rfl); (focus exact Nat.le_of_ble_eq_true rfl); (focus exact seq2_size); (focus (simp [Value.oneCell']; done)); intro w3_ b3_ h3_; have L_3 : Blk w3_ (w.heap.size) 38 #[.int .i64 x1, .int .i64 x2, .int .i64 x3, .int .i64 x4, .int .i64 x5, .int .i64 x6, .int .i64 x7, .int .i64 x8, .int .i64 x9] := (L_2).put h3_ ne_L_B; have A_3 : Blk w3_ (qb1) 48 #[.int .i64 p0, .int .i64 q0] := (A_2).put h3_ ne_A_B; have B_3 : Blk w3_ (qb2) 48 #[.int .i64 p1, .int .i64 q1] := b3_; have C_3 : Blk w3_ (qb3) 48 #[.int .i64 0, .int .i64 0] := (C_2).put h3_ (Ne.symm ne_B_C); have S_3 := pp (S_2) h3_ ge_B; clear L_2 A_2 B_2 C_2 S_2; clear h3_ b3_)
    | ((with_reducible refine store_sub (T := 48) (x := .tmp 6) (y := .tmp 17) (o := 0) (cs' := #[.int .i64 p2, .int .i64 q2]) (vs := #[.int .i64 p2, .int .i64 q2]) (show Blk _ (qb3) 48 #[.int .i64 0, .int .i64 0] from (C_3)) ?_ ?_ ?_ ?_ ?_ ?_ ?_); (focus rfl); (focus rfl); (focus rfl); (focus exact Nat.le_of_ble_eq_true rfl); (focus exact seq2_size); (focus (simp [Value.oneCell']; done)); intro w4_ b4_ h4_; have L_4 : Blk w4_ (w.heap.size) 38 #[.int .i64 x1, .int .i64 x2, .int .i64 x3, .int .i64 x4, .int .i64 x5, .int .i64 x6, .int .i64 x7, .int .i64 x8, .int .i64 x9] := (L_3).put h4_ ne_L_C; have A_4 : Blk w4_ (qb1) 48 #[.int .i64 p0, .int .i64 q0] := (A_3).put h4_ ne_A_C; have B_4 : Blk w4_ (qb2) 48 #[.int .i64 p1, .int .i64 q1] := (B_3).put h4_ ne_B_C; have C_4 : Blk w4_ (qb3) 48 #[.int .i64 p2, .int .i64 q2] := b4_; have S_4 := pp (S_3) h4_ ge_C; clear L_3 A_3 B_3 C_3 S_3; have Ac0 := A_4.cellAt 0 rfl; have Ac1 := A_4.cellAt 1 rfl; have Al := A_4.lt; have Bc0 := B_4.cellAt 0 rfl; have Bc1 := B_4.cellAt 1 rfl; have Bl := B_4.lt; have Cc0 := C_4.cellAt 0 rfl; have Cc1 := C_4.cellAt 1 rfl; have Cl := C_4.lt; clear h4_ b4_))
  have L_5 : Blk ((w4_.alloc (.cells #[.int .i64 (-1), .int .i64 (-1)] 48)).alloc (.cells #[.int .i64 0, .int .i64 1] 48)) (w.heap.size) 38 #[.int .i64 x1, .int .i64 x2, .int .i64 x3, .int .i64 x4, .int .i64 x5, .int .i64 x6, .int .i64 x7, .int .i64 x8, .int .i64 x9] := (L_4.alloc.alloc)
  have A_5 : Blk ((w4_.alloc (.cells #[.int .i64 (-1), .int .i64 (-1)] 48)).alloc (.cells #[.int .i64 0, .int .i64 1] 48)) (qb1) 48 #[.int .i64 p0, .int .i64 q0] := (A_4.alloc.alloc)
  have B_5 : Blk ((w4_.alloc (.cells #[.int .i64 (-1), .int .i64 (-1)] 48)).alloc (.cells #[.int .i64 0, .int .i64 1] 48)) (qb2) 48 #[.int .i64 p1, .int .i64 q1] := (B_4.alloc.alloc)
  have C_5 : Blk ((w4_.alloc (.cells #[.int .i64 (-1), .int .i64 (-1)] 48)).alloc (.cells #[.int .i64 0, .int .i64 1] 48)) (qb3) 48 #[.int .i64 p2, .int .i64 q2] := (C_4.alloc.alloc)
  have M_5 : Blk ((w4_.alloc (.cells #[.int .i64 (-1), .int .i64 (-1)] 48)).alloc (.cells #[.int .i64 0, .int .i64 1] 48)) (w4_.heap.size) 48 #[.int .i64 (-1), .int .i64 (-1)] := (Blk.newAt (by simp)).alloc
  have N_5 : Blk ((w4_.alloc (.cells #[.int .i64 (-1), .int .i64 (-1)] 48)).alloc (.cells #[.int .i64 0, .int .i64 1] 48)) (w4_.heap.size + 1) 48 #[.int .i64 0, .int .i64 1] := (Blk.newAt (by simp))
  have ne_A_M : qb1 ≠ w4_.heap.size := (by have := A_4.lt; omega)
  have ne_B_M : qb2 ≠ w4_.heap.size := (by have := B_4.lt; omega)
  have ne_C_M : qb3 ≠ w4_.heap.size := (by have := C_4.lt; omega)
  have ne_A_N : qb1 ≠ w4_.heap.size + 1 := (by have := A_4.lt; omega)
  have ne_B_N : qb2 ≠ w4_.heap.size + 1 := (by have := B_4.lt; omega)
  have ne_C_N : qb3 ≠ w4_.heap.size + 1 := (by have := C_4.lt; omega)
  have S_5 := (show Below w.heap.size w ((w4_.alloc (.cells #[.int .i64 (-1), .int .i64 (-1)] 48)).alloc (.cells #[.int .i64 0, .int .i64 1] 48)) from pa (pa (S_4)))
  clear L_4 A_4 B_4 C_4 S_4 Ac0 Ac1 Al Bc0 Bc1 Bl Cc0 Cc1 Cl
  generalize (w4_.alloc (.cells #[.int .i64 (-1), .int .i64 (-1)] 48)).alloc (.cells #[.int .i64 0, .int .i64 1] 48) = w5_ at *
  have Ac0 := A_5.cellAt 0 rfl
  have Ac1 := A_5.cellAt 1 rfl
  have Al := A_5.lt
  have Bc0 := B_5.cellAt 0 rfl
  have Bc1 := B_5.cellAt 1 rfl
  have Bl := B_5.lt
  have Cc0 := C_5.cellAt 0 rfl
  have Cc1 := C_5.cellAt 1 rfl
  have Cl := C_5.lt
  have Mc0 := M_5.cellAt 0 rfl
  have Mc1 := M_5.cellAt 1 rfl
  have Ml := M_5.lt
  have Nc0 := N_5.cellAt 0 rfl
  have Nc1 := N_5.cellAt 1 rfl
  have Nl := N_5.lt
  refine region_below 11 follows_mixed (by kernel_rfl) ?_
  intro C hC
  simp only [List.take_succ_cons, List.take_zero, List.drop_succ_cons, List.drop_zero]
  repeat (first
    | ((with_reducible refine quiet_plain rfl (fun K hK => ?_)); (focus (apply quiet_val; (focus (intro w' hw; obtain ⟨hcq, hfq⟩ := bcell ((hC.out _).1 hw); go_simp; (first | done | rfl | (with_reducible exact call_below hC hw (H1.out _)) | (with_reducible exact call_below hC hw (H2.out _))))); (simp only [Act.put, List.setIfInBounds_toArray, List.set_cons_succ, List.set_cons_zero]); (with_reducible refine hK _ ?_); clear hK K)))
    | ((with_reducible refine quiet_skip ?_ ?_); (focus (first | (simp [Region.wanted, yielded]; done) | (simp [Region.wanted, yielded, undef]; done))); simp only [Act.put, List.setIfInBounds_toArray, List.set_cons_succ, List.set_cons_zero])
    | ((with_reducible refine quiet_go ?_ (fun K hK => ?_)); (focus (first | (simp [Region.wanted, yielded]; done) | (simp [Region.wanted, yielded, undef]; done))); (focus (apply quiet_val; (focus (intro w' hw; obtain ⟨hcq, hfq⟩ := bcell ((hC.out _).1 hw); go_simp; (first | done | rfl | (with_reducible exact call_below hC hw (H1.out _)) | (with_reducible exact call_below hC hw (H2.out _))))); (simp only [Act.put, List.setIfInBounds_toArray, List.set_cons_succ, List.set_cons_zero]); (with_reducible refine hK _ ?_); clear hK K))))
  refine wpQuiet_nil ?_
  intro w1 hb1
  replace hb1 := (hC.out _).1 hb1
  clear hC C
  obtain ⟨hc1, hf1⟩ := bcell hb1
  have L_6 : Blk w1 (w.heap.size) 38 #[.int .i64 x1, .int .i64 x2, .int .i64 x3, .int .i64 x4, .int .i64 x5, .int .i64 x6, .int .i64 x7, .int .i64 x8, .int .i64 x9] := (L_5).past hb1
  have A_6 : Blk w1 (qb1) 48 #[.int .i64 p0, .int .i64 q0] := (A_5).past hb1
  have B_6 : Blk w1 (qb2) 48 #[.int .i64 p1, .int .i64 q1] := (B_5).past hb1
  have C_6 : Blk w1 (qb3) 48 #[.int .i64 p2, .int .i64 q2] := (C_5).past hb1
  have M_6 : Blk w1 (w4_.heap.size) 48 #[.int .i64 (-1), .int .i64 (-1)] := (M_5).past hb1
  have N_6 : Blk w1 (w4_.heap.size + 1) 48 #[.int .i64 0, .int .i64 1] := (N_5).past hb1
  have S_6 := pt (S_5) hb1
  clear L_5 A_5 B_5 C_5 M_5 N_5 S_5 Ac0 Ac1 Al Bc0 Bc1 Bl Cc0 Cc1 Cl Mc0 Mc1 Ml Nc0 Nc1 Nl
  have Ac0 := A_6.cellAt 0 rfl
  have Ac1 := A_6.cellAt 1 rfl
  have Al := A_6.lt
  have Bc0 := B_6.cellAt 0 rfl
  have Bc1 := B_6.cellAt 1 rfl
  have Bl := B_6.lt
  have Cc0 := C_6.cellAt 0 rfl
  have Cc1 := C_6.cellAt 1 rfl
  have Cl := C_6.lt
  have Mc0 := M_6.cellAt 0 rfl
  have Mc1 := M_6.cellAt 1 rfl
  have Ml := M_6.lt
  have Nc0 := N_6.cellAt 0 rfl
  have Nc1 := N_6.cellAt 1 rfl
  have Nl := N_6.lt
  clear hb1 hc1 hf1
  obtain ⟨w6_, rfl⟩ : ∃ v, v = w1 := ⟨_, rfl⟩
  go_wp2
  refine region_below 11 follows_mixed (by kernel_rfl) ?_
  intro C hC
  simp only [List.take_succ_cons, List.take_zero, List.drop_succ_cons, List.drop_zero]
  repeat (first
    | ((with_reducible refine quiet_plain rfl (fun K hK => ?_)); (focus (apply quiet_val; (focus (intro w' hw; obtain ⟨hcq, hfq⟩ := bcell ((hC.out _).1 hw); go_simp; (first | done | rfl | (with_reducible exact call_below hC hw (H3.out _)) | (with_reducible exact call_below hC hw (H4.out _))))); (simp only [Act.put, List.setIfInBounds_toArray, List.set_cons_succ, List.set_cons_zero]); (with_reducible refine hK _ ?_); clear hK K)))
    | ((with_reducible refine quiet_skip ?_ ?_); (focus (first | (simp [Region.wanted, yielded]; done) | (simp [Region.wanted, yielded, undef]; done))); simp only [Act.put, List.setIfInBounds_toArray, List.set_cons_succ, List.set_cons_zero])
    | ((with_reducible refine quiet_go ?_ (fun K hK => ?_)); (focus (first | (simp [Region.wanted, yielded]; done) | (simp [Region.wanted, yielded, undef]; done))); (focus (apply quiet_val; (focus (intro w' hw; obtain ⟨hcq, hfq⟩ := bcell ((hC.out _).1 hw); go_simp; (first | done | rfl | (with_reducible exact call_below hC hw (H3.out _)) | (with_reducible exact call_below hC hw (H4.out _))))); (simp only [Act.put, List.setIfInBounds_toArray, List.set_cons_succ, List.set_cons_zero]); (with_reducible refine hK _ ?_); clear hK K))))
  refine wpQuiet_nil ?_
  intro w1 hb1
  replace hb1 := (hC.out _).1 hb1
  clear hC C
  obtain ⟨hc1, hf1⟩ := bcell hb1
  have L_7 : Blk w1 (w.heap.size) 38 #[.int .i64 x1, .int .i64 x2, .int .i64 x3, .int .i64 x4, .int .i64 x5, .int .i64 x6, .int .i64 x7, .int .i64 x8, .int .i64 x9] := (L_6).past hb1
  have A_7 : Blk w1 (qb1) 48 #[.int .i64 p0, .int .i64 q0] := (A_6).past hb1
  have B_7 : Blk w1 (qb2) 48 #[.int .i64 p1, .int .i64 q1] := (B_6).past hb1
  have C_7 : Blk w1 (qb3) 48 #[.int .i64 p2, .int .i64 q2] := (C_6).past hb1
  have M_7 : Blk w1 (w4_.heap.size) 48 #[.int .i64 (-1), .int .i64 (-1)] := (M_6).past hb1
  have N_7 : Blk w1 (w4_.heap.size + 1) 48 #[.int .i64 0, .int .i64 1] := (N_6).past hb1
  have S_7 := pt (S_6) hb1
  clear L_6 A_6 B_6 C_6 M_6 N_6 S_6 Ac0 Ac1 Al Bc0 Bc1 Bl Cc0 Cc1 Cl Mc0 Mc1 Ml Nc0 Nc1 Nl
  clear hb1 hc1 hf1
  obtain ⟨w7_, rfl⟩ : ∃ v, v = w1 := ⟨_, rfl⟩
  go_wp2
  go_ret2
  exact ⟨rfl, by repeat (first | exact S_7 | refine pa ?_)⟩

end Go.Proofs.YtnhcamokcggnkaaDoor
