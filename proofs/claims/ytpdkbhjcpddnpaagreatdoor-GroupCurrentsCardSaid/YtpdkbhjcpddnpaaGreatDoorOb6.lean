/- Contracts: ratios: from ints and fractions, opposite, sum, difference, product, quotient, comparison. Printed by a program (gen_ratio2.py). -/
import Derived.Test.YtpdkbhjcpddnpaaGreatDoorOb5

section
namespace Go.Proofs.YtpdkbhjcpddnpaaGreatDoor
open Go.RowKit
attribute [local go_sem ↓] Go.wp_at_zero Go.wp_at_succ

theorem rb_sums {r s : Rat} {K : Nat} (h : RB K r) (g : RB K s) (hK : 4 * K + 8 ≤ wL) :
    (dl r.num + dl (s.den : Int) + 1 ≤ wL ∧ dl s.num + dl (r.den : Int) + 1 ≤ wL ∧ dl (r.den : Int) + dl (s.den : Int) + 1 ≤ wL ∧ dl r.num + dl s.num + 1 ≤ wL) ∧
    (dl (r.num * s.den) ≤ 2 * K + 1 ∧ dl (s.num * r.den) ≤ 2 * K + 1 ∧ dl ((r.den : Int) * s.den) ≤ 2 * K + 1 ∧ dl (r.num * s.num) ≤ 2 * K + 1 ∧ dl (r.num * s.den + s.num * r.den) ≤ 2 * K + 1) ∧
    (dl (r.num * s.den) < wL ∧ dl (s.num * r.den) < wL) ∧ 2 * (2 * K + 1) + 6 ≤ wL ∧ dl ((r.den : Int) * s.num) ≤ 2 * K + 1 ∧ dl (r.den : Int) + dl s.num + 1 ≤ wL := by
  obtain ⟨h1, h2⟩ := h
  obtain ⟨g1, g2⟩ := g
  have a1 := dl_mul r.num (s.den : Int)
  have a2 := dl_mul s.num (r.den : Int)
  have a3 := dl_mul (r.den : Int) (s.den : Int)
  have a4 := dl_mul r.num s.num
  have a6 := dl_mul (r.den : Int) s.num
  have a5 := dl_add (a := r.num * s.den) (b := s.num * r.den) (L := 2 * K) (by omega) (by omega)
  refine ⟨⟨by omega, by omega, by omega, by omega⟩, ⟨by omega, by omega, by omega, by omega, a5⟩, ⟨by omega, by omega⟩, by omega, by omega, by omega⟩
theorem den_ne2 (r s : Rat) : (r.den : Int) * s.den ≠ 0 := Int.mul_ne_zero (rden_ne r) (rden_ne s)


set_option maxHeartbeats 16000000 in
set_option maxRecDepth 100000 in
theorem ratioNeg_any (r : Rat) (A : Option Addr) (c : Nat) (A2 : Option Addr) (c2 : Nat) (w : World) (hr : RatAt w A c A2 c2 r) :
    Calls Tryz.prog 129 #[ratV r A c A2 c2] w (RatRet w (-r)) := by
  have HR := Lib.hid hr
  clear hr
  unfold ratV
  have HN := Lib.hid (show ∀ W, Calls Tryz.prog 106 #[.agg #[.int .i64 (signD r.num), .slice A (dl r.num) c]] W fun e w' => e = .returned (.agg #[.int .i64 (signD (-r.num)), .slice A (dl (-r.num)) c]) ∧ Below W.heap.size W w' from fun W => wideNeg_any r.num A c W)
  have HV := Lib.hid (show .agg #[.int .i64 (signD (-r.num)), .slice A (dl (-r.num)) c, .int .i64 (signD (r.den : Int)), .slice A2 (dl (r.den : Int)) c2] = ratV (-r) A c A2 c2 by unfold ratV; rw [Rat.neg_num, Rat.neg_den])
  have H8 := Lib.hid (show RatAt w A c A2 c2 (-r) from ⟨by rw [Rat.neg_num]; exact HR.out.1.neg, by rw [Rat.neg_den]; exact HR.out.2⟩)
  go_enter Tryz.func129, Tryz.ntmps129
  have X1 := Lib.hid (show Blk ((w.alloc (.cells #[.int .i64 (signD r.num), .slice A (dl r.num) c, .int .i64 (signD (r.den : Int)), .slice A2 (dl (r.den : Int)) c2] 55)).alloc (.cells #[.int .i64 0, .slice none 0 0, .int .i64 0, .slice none 0 0] 55)) w.heap.size 55 #[.int .i64 (signD r.num), .slice A (dl r.num) c, .int .i64 (signD (r.den : Int)), .slice A2 (dl (r.den : Int)) c2] from (Blk.newAt rfl).alloc)
  have X3 := Lib.hid (show Blk ((w.alloc (.cells #[.int .i64 (signD r.num), .slice A (dl r.num) c, .int .i64 (signD (r.den : Int)), .slice A2 (dl (r.den : Int)) c2] 55)).alloc (.cells #[.int .i64 0, .slice none 0 0, .int .i64 0, .slice none 0 0] 55)) (w.heap.size + 1) 55 #[.int .i64 0, .slice none 0 0, .int .i64 0, .slice none 0 0] from Blk.newAt (by simp))
  have Q3 := Lib.hid (show Below w.heap.size w ((w.alloc (.cells #[.int .i64 (signD r.num), .slice A (dl r.num) c, .int .i64 (signD (r.den : Int)), .slice A2 (dl (r.den : Int)) c2] 55)).alloc (.cells #[.int .i64 0, .slice none 0 0, .int .i64 0, .slice none 0 0] 55)) from pa (pa pr))
  go_wp2
  generalize ((w.alloc (.cells #[.int .i64 (signD r.num), .slice A (dl r.num) c, .int .i64 (signD (r.den : Int)), .slice A2 (dl (r.den : Int)) c2] 55)).alloc (.cells #[.int .i64 0, .slice none 0 0, .int .i64 0, .slice none 0 0] 55)) = v at *
  have HSS := Lib.hid (show ∀ W, Below v.heap.size v W → W.cell? ⟨w.heap.size, 0, none⟩ = some (.int .i64 (signD r.num)) ∧ W.cell? ⟨w.heap.size, 1, none⟩ = some (.slice A (dl r.num) c) ∧ W.cell? ⟨w.heap.size, 2, none⟩ = some (.int .i64 (signD (r.den : Int))) ∧ W.cell? ⟨w.heap.size, 3, none⟩ = some (.slice A2 (dl (r.den : Int)) c2) from fun W hW => ⟨(X1.out.past hW).cellAt 0 rfl, (X1.out.past hW).cellAt 1 rfl, (X1.out.past hW).cellAt 2 rfl, (X1.out.past hW).cellAt 3 rfl⟩)
  refine wp_region_G 6 follows_mixed (fun W => W.cell? ⟨w.heap.size, 0, none⟩ = some (.int .i64 (signD r.num)) ∧ W.cell? ⟨w.heap.size, 1, none⟩ = some (.slice A (dl r.num) c) ∧ W.cell? ⟨w.heap.size, 2, none⟩ = some (.int .i64 (signD (r.den : Int))) ∧ W.cell? ⟨w.heap.size, 3, none⟩ = some (.slice A2 (dl (r.den : Int)) c2)) (HSS.out _ (pd pr)) ?_
  intro hSd inv
  have HSd := Lib.hid hSd
  clear hSd
  have HB0 := Lib.hid (show Below v.heap.size v v.drew from pd pr)
  refine wpAnyG_take (i := 0) (v := ?_) rfl (by kernel_rfl) (by kernel_rfl) (by kernel_rfl) (by kernel_rfl) (by kernel_rfl) (by decide) (by decide) inv (fun _ _ _ h => h) (Or.inl ⟨by rfl, ?_⟩) HSd.out ?_; rotate_left; (focus (intro W y1; obtain ⟨y1, y2, y3, y4⟩ := y1; go_simp; (first | done | with_reducible rfl))); clear inv; intro inv; simp only [List.getElem_toArray, List.getElem_cons_zero, Act.put, List.setIfInBounds_toArray, List.set_cons_zero, List.set_cons_succ]
  refine wpAnyG_take (i := 1) (v := ?_) rfl (by kernel_rfl) (by kernel_rfl) (by kernel_rfl) (by kernel_rfl) (by kernel_rfl) (by decide) (by decide) inv (fun _ _ _ h => h) (Or.inl ⟨by rfl, ?_⟩) HSd.out ?_; rotate_left; (focus (intro W y1; obtain ⟨y1, y2, y3, y4⟩ := y1; go_simp; (first | done | with_reducible rfl))); clear inv; intro inv; simp only [List.getElem_toArray, List.getElem_cons_zero, List.getElem_cons_succ, Act.put, List.setIfInBounds_toArray, List.set_cons_zero, List.set_cons_succ]
  refine wpAnyG_take (i := 3) (v := ?_) rfl (by kernel_rfl) (by kernel_rfl) (by kernel_rfl) (by kernel_rfl) (by kernel_rfl) (by decide) (by decide) inv (fun _ _ _ h => h) (Or.inl ⟨by rfl, ?_⟩) HSd.out ?_; rotate_left; (focus (intro W y1; obtain ⟨y1, y2, y3, y4⟩ := y1; go_simp; (first | done | with_reducible rfl))); clear inv; intro inv; simp only [List.getElem_toArray, List.getElem_cons_zero, List.getElem_cons_succ, Act.put, List.setIfInBounds_toArray, List.set_cons_zero, List.set_cons_succ]
  refine wpAnyG_take (i := 4) (v := ?_) rfl (by kernel_rfl) (by kernel_rfl) (by kernel_rfl) (by kernel_rfl) (by kernel_rfl) (by decide) (by decide) inv (fun _ _ _ h => h) (Or.inl ⟨by rfl, ?_⟩) HSd.out ?_; rotate_left; (focus (intro W y1; obtain ⟨y1, y2, y3, y4⟩ := y1; go_simp; (first | done | with_reducible rfl))); clear inv; intro inv; simp only [List.getElem_toArray, List.getElem_cons_zero, List.getElem_cons_succ, Act.put, List.setIfInBounds_toArray, List.set_cons_zero, List.set_cons_succ]
  have HInv := Lib.hid inv
  clear inv
  refine wpAnyG_one (i := 2) (by kernel_rfl) rfl rfl fun K hK => ?_
  go_simp
  refine (HN.out _).mono ?_
  rintro e w4 ⟨rfl, hb⟩
  have HBx2 := Lib.hid (show Below v.heap.size v w4 from pt HB0.out hb)
  refine hK.out _ _ (fun _ => HSS.out _ HBx2.out) ?_
  clear hK K hb
  replace HInv := Lib.hid (inv_one (i := 2) HInv.out (by kernel_rfl) (by decide))
  refine wpAnyG_one (i := 5) (by kernel_rfl) rfl rfl fun K hK => ?_
  go_simp
  refine hK.out _ _ (fun _ => HSS.out _ HBx2.out) ?_
  clear hK K
  replace HInv := Lib.hid (inv_one (i := 5) HInv.out (by kernel_rfl) (by decide))
  have R7 := Lib.hid (X3.out.past HBx2.out)
  have Q7 := Lib.hid (pt Q3.out HBx2.out)
  have H8 := Lib.hid (show WideAt w4 A c (-r.num) ∧ WideAt w4 A2 c2 (r.den : Int) from ⟨by have h := (H8.out.past Q7.out).1; rw [Rat.neg_num] at h; exact h, by have h := (H8.out.past Q7.out).2; rw [Rat.neg_den] at h; exact h⟩)
  have f0 := R7.out.frozen 0; have f1 := R7.out.frozen 1; have f2 := R7.out.frozen 2; have f3 := R7.out.frozen 3; have fl := R7.out.lt; have h0_ := R7.out.cellAt 0 rfl; have h1_ := R7.out.cellAt 1 rfl; have h2_ := R7.out.cellAt 2 rfl; have h3_ := R7.out.cellAt 3 rfl
  refine wpAnyG_one (i := 6) (by kernel_rfl) rfl rfl fun K hK => ?_
  go_simp
  refine hK.out _ _ (fun h => absurd h (by decide)) ?_
  clear hK K
  refine wpAnyG_done (by kernel_rfl) ?_
  clear HInv
  clear HSS HSd HB0
  clear f0 f1 f2 f3 fl h0_ h1_ h2_ h3_
  have hR := (((R7.out.set_ 0 (.int .i64 (signD (-r.num)))).set_ 1 (.slice A (dl (-r.num)) c)).set_ 2 (.int .i64 (signD (r.den : Int)))).set_ 3 (.slice A2 (dl (r.den : Int)) c2)
  have hA := rat_far R7.out H8.out.1 (u0 := (.int .i64 (signD (-r.num)))) (u1 := (.slice A (dl (-r.num)) c)) (u2 := (.int .i64 (signD (r.den : Int)))) (u3 := (.slice A2 (dl (r.den : Int)) c2))
  have hA2 := rat_far R7.out H8.out.2 (u0 := (.int .i64 (signD (-r.num)))) (u1 := (.slice A (dl (-r.num)) c)) (u2 := (.int .i64 (signD (r.den : Int)))) (u3 := (.slice A2 (dl (r.den : Int)) c2))
  have hQ := ps (ps (ps (ps Q7.out (p := ⟨w.heap.size + 1, 0, none⟩) (u := (.int .i64 (signD (-r.num)))) (Nat.le_add_right _ 1)) (p := ⟨w.heap.size + 1, 1, none⟩) (u := (.slice A (dl (-r.num)) c)) (Nat.le_add_right _ 1)) (p := ⟨w.heap.size + 1, 2, none⟩) (u := (.int .i64 (signD (r.den : Int)))) (Nat.le_add_right _ 1)) (p := ⟨w.heap.size + 1, 3, none⟩) (u := (.slice A2 (dl (r.den : Int)) c2)) (Nat.le_add_right _ 1)
  generalize (((w4.setCell ⟨w.heap.size + 1, 0, none⟩ (.int .i64 (signD (-r.num)))).setCell ⟨w.heap.size + 1, 1, none⟩ (.slice A (dl (-r.num)) c)).setCell ⟨w.heap.size + 1, 2, none⟩ (.int .i64 (signD (r.den : Int)))).setCell ⟨w.heap.size + 1, 3, none⟩ (.slice A2 (dl (r.den : Int)) c2) = wz at *
  have g0 := hR.cellAt 0 rfl
  have g1 := hR.cellAt 1 rfl
  have g2 := hR.cellAt 2 rfl
  have g3 := hR.cellAt 3 rfl
  go_wp2
  exact bodyPost_ret (v := .agg #[.int .i64 (signD (-r.num)), .slice A (dl (-r.num)) c, .int .i64 (signD (r.den : Int)), .slice A2 (dl (r.den : Int)) c2]) (by simp [results, Tryz.results129, go_sem, g0, g1, g2, g3]) rfl ⟨A, c, A2, c2, by rw [HV.out], ⟨by rw [Rat.neg_num]; exact hA, by rw [Rat.neg_den]; exact hA2⟩, hQ⟩

set_option maxHeartbeats 16000000 in
set_option maxRecDepth 100000 in
theorem ratioInt_any (n : Int) (w : World) (hlo : -9223372036854775807 ≤ n) (hhi : n ≤ 9223372036854775807) : Calls Tryz.prog 25 #[.int .i64 n] w (RatRet w (n : Rat)) := by
  have HO := Lib.hid (fun W => wideOfInt_any n W hlo hhi)
  have HO1 := Lib.hid (fun W => wideOfInt_any 1 W (by decide) (by decide))
  have HV := Lib.hid (fun A c A2 c2 => show ratV (n : Rat) A c A2 c2 = .agg #[.int .i64 (signD n), .slice A (dl n) c, .int .i64 (signD 1), .slice A2 (dl 1) c2] by unfold ratV; rw [Rat.num_intCast, Rat.den_intCast]; rfl)
  clear hlo hhi
  go_enter Tryz.func25, Tryz.ntmps25
  by_cases hn : n = 1
  · subst hn
    go_wp2_with (first
      | (go_at_call 64; (with_reducible refine (HO1.out _).mono ?_); (first | (rintro e w2 ⟨A2, c2, rfl, h2, hb2⟩; have R2 := Lib.hid (R1.out.past hb2); have Q2 := Lib.hid (pt Q1.out hb2); have H1_ := Lib.hid (H1.out.past hb2); have H2 := Lib.hid h2; clear hb2 h2; unfold wideV) | (rintro e w1 ⟨A, c, rfl, h1, hb1⟩; have R1 := Lib.hid ((Blk.newAt (w := w) (t := 55) (cs := #[.int .i64 0, .slice none 0 0, .int .i64 0, .slice none 0 0]) rfl).past hb1); have Q1 := Lib.hid (pt (pa (pr (w := w))) hb1); have H1 := Lib.hid h1; clear hb1 h1)))
      | ((with_reducible refine store_blk (T := 55) (x := .tmp 2) (y := .tmp 6) (vs := #[.int .i64 (signD 1), .slice A (dl 1) c, .int .i64 (signD 1), .slice A2 (dl 1) c2]) R2.out ?_ ?_ ?_ ?_ ?_ ?_); (focus rfl); (focus exact ratio_size); (focus (simp [Value.oneCell']; done)); (focus rfl); (focus rfl); intro WF RF PF))
    have g0 := RF.cellAt 0 rfl
    have g1 := RF.cellAt 1 rfl
    have g2 := RF.cellAt 2 rfl
    have g3 := RF.cellAt 3 rfl
    exact bodyPost_ret (v := .agg #[.int .i64 (signD 1), .slice A (dl 1) c, .int .i64 (signD 1), .slice A2 (dl 1) c2]) (by simp [results, Tryz.results25, go_sem, g0, g1, g2, g3]) rfl ⟨A, c, A2, c2, by rw [HV.out], ⟨by rw [Rat.num_intCast]; exact H1_.out.put R2.out (by decide) PF, by rw [Rat.den_intCast]; exact H2.out.put R2.out (by decide) PF⟩, pp Q2.out PF (Nat.le_refl _)⟩
  · clear hn
    go_wp2_with (first
      | (go_at_call 64; (with_reducible refine (HO.out _).mono ?_); rintro e w1 ⟨A, c, rfl, h1, hb1⟩; have R1 := Lib.hid ((Blk.newAt (w := w) (t := 55) (cs := #[.int .i64 0, .slice none 0 0, .int .i64 0, .slice none 0 0]) rfl).past hb1); have Q1 := Lib.hid (pt (pa (pr (w := w))) hb1); have H1 := Lib.hid h1; clear hb1 h1)
      | (go_at_call 64; (with_reducible refine (HO1.out _).mono ?_); rintro e w2 ⟨A2, c2, rfl, h2, hb2⟩; have R2 := Lib.hid (R1.out.past hb2); have Q2 := Lib.hid (pt Q1.out hb2); have H1_ := Lib.hid (H1.out.past hb2); have H2 := Lib.hid h2; clear hb2 h2; unfold wideV)
      | ((with_reducible refine store_blk (T := 55) (x := .tmp 2) (y := .tmp 6) (vs := #[.int .i64 (signD n), .slice A (dl n) c, .int .i64 (signD 1), .slice A2 (dl 1) c2]) R2.out ?_ ?_ ?_ ?_ ?_ ?_); (focus rfl); (focus exact ratio_size); (focus (simp [Value.oneCell']; done)); (focus rfl); (focus rfl); intro WF RF PF))
    have g0 := RF.cellAt 0 rfl
    have g1 := RF.cellAt 1 rfl
    have g2 := RF.cellAt 2 rfl
    have g3 := RF.cellAt 3 rfl
    exact bodyPost_ret (v := .agg #[.int .i64 (signD n), .slice A (dl n) c, .int .i64 (signD 1), .slice A2 (dl 1) c2]) (by simp [results, Tryz.results25, go_sem, g0, g1, g2, g3]) rfl ⟨A, c, A2, c2, by rw [HV.out], ⟨by rw [Rat.num_intCast]; exact H1_.out.put R2.out (by decide) PF, by rw [Rat.den_intCast]; exact H2.out.put R2.out (by decide) PF⟩, pp Q2.out PF (Nat.le_refl _)⟩

set_option maxHeartbeats 16000000 in
set_option maxRecDepth 100000 in
theorem ratioOf_any (n m : Int) (w : World) (hn : -9223372036854775807 ≤ n ∧ n ≤ 9223372036854775807) (hm : -9223372036854775807 ≤ m ∧ m ≤ 9223372036854775807) (h0 : m ≠ 0) : Calls Tryz.prog 60 #[.int .i64 n, .int .i64 m] w (RatRet w (Rat.divInt n m)) := by
  have HO := Lib.hid (fun W => wideOfInt_any n W (by omega) (by omega))
  have HO1 := Lib.hid (fun W => wideOfInt_any m W (by omega) (by omega))
  have HM := Lib.hid (fun W A c A2 c2 (ha : WideAt W A c n) (hb : WideAt W A2 c2 m) => ratioMake_any n m h0 3 A A2 c c2 W ha hb (dl_small (by omega)) (dl_small (by omega)) (by decide))
  clear hn hm h0
  go_enter Tryz.func60, Tryz.ntmps60
  go_wp2_with (first
    | (go_at_call 64; (with_reducible refine (HO.out _).mono ?_); rintro e w1 ⟨A, c, rfl, h1, hb1⟩; have R1 := Lib.hid ((Blk.newAt (w := w) (t := 55) (cs := #[.int .i64 0, .slice none 0 0, .int .i64 0, .slice none 0 0]) rfl).past hb1); have Q1 := Lib.hid (pt (pa (pr (w := w))) hb1); have H1 := Lib.hid h1; clear hb1 h1 HO)
    | (go_at_call 64; (with_reducible refine (HO1.out _).mono ?_); rintro e w2 ⟨A2, c2, rfl, h2, hb2⟩; have R2 := Lib.hid (R1.out.past hb2); have Q2 := Lib.hid (pt Q1.out hb2); have H1_ := Lib.hid (H1.out.past hb2); have H2 := Lib.hid h2; clear hb2 h2)
    | (go_at_call 63; (with_reducible refine (HM.out _ A c A2 c2 H1_.out H2.out).mono ?_); rintro e w3 ⟨A3, c3, A4, c4, rfl, h3, hb3⟩; have R3 := Lib.hid (R2.out.past hb3); have Q3 := Lib.hid (pt Q2.out hb3); have H3 := Lib.hid h3; clear hb3 h3; unfold ratV)
    | ((with_reducible refine store_blk (T := 55) (x := .tmp 4) (y := .tmp 9) (vs := #[.int .i64 (signD (Rat.divInt n m).num), .slice A3 (dl (Rat.divInt n m).num) c3, .int .i64 (signD ((Rat.divInt n m).den : Int)), .slice A4 (dl ((Rat.divInt n m).den : Int)) c4]) R3.out ?_ ?_ ?_ ?_ ?_ ?_); (focus rfl); (focus exact ratio_size); (focus (simp [Value.oneCell']; done)); (focus rfl); (focus rfl); intro WF RF PF))
  have g0 := RF.cellAt 0 rfl
  have g1 := RF.cellAt 1 rfl
  have g2 := RF.cellAt 2 rfl
  have g3 := RF.cellAt 3 rfl
  exact bodyPost_ret (v := .agg #[.int .i64 (signD (Rat.divInt n m).num), .slice A3 (dl (Rat.divInt n m).num) c3, .int .i64 (signD ((Rat.divInt n m).den : Int)), .slice A4 (dl ((Rat.divInt n m).den : Int)) c4]) (by simp [results, Tryz.results60, go_sem, g0, g1, g2, g3]) rfl ⟨A3, c3, A4, c4, rfl, ⟨H3.out.1.put R3.out (by decide) PF, H3.out.2.put R3.out (by decide) PF⟩, pp Q3.out PF (Nat.le_refl _)⟩

set_option maxHeartbeats 16000000 in
set_option maxRecDepth 100000 in
theorem ratioFrom_any (n m : Int) (w : World) (hn : -9223372036854775807 ≤ n ∧ n ≤ 9223372036854775807) (hm : -9223372036854775807 ≤ m ∧ m ≤ 9223372036854775807) (h0 : m ≠ 0) : Calls Tryz.prog 22 #[.agg #[.int .i64 n, .int .i64 m]] w (RatRet w (Rat.divInt n m)) := by
  have HO := Lib.hid (fun W => ratioOf_any n m W hn hm h0)
  clear hn hm h0
  go_enter Tryz.func22, Tryz.ntmps22
  go_wp2_with (first
    | (go_at_call 60; (with_reducible refine (HO.out _).mono ?_); rintro e w3 ⟨A3, c3, A4, c4, rfl, h3, hb3⟩; have R3 := Lib.hid ((Blk.newAt (w := w.alloc (.cells #[.int .i64 n, .int .i64 m] 59)) (t := 55) (cs := #[.int .i64 0, .slice none 0 0, .int .i64 0, .slice none 0 0]) (n := w.heap.size + 1) (by simp)).past hb3); have Q3 := Lib.hid (pt (pa (pa (pr (w := w)))) hb3); have H3 := Lib.hid h3; clear hb3 h3; unfold ratV)
    | ((with_reducible refine store_blk (T := 55) (x := .tmp 2) (y := .tmp 7) (vs := #[.int .i64 (signD (Rat.divInt n m).num), .slice A3 (dl (Rat.divInt n m).num) c3, .int .i64 (signD ((Rat.divInt n m).den : Int)), .slice A4 (dl ((Rat.divInt n m).den : Int)) c4]) R3.out ?_ ?_ ?_ ?_ ?_ ?_); (focus rfl); (focus exact ratio_size); (focus (simp [Value.oneCell']; done)); (focus rfl); (focus rfl); intro WF RF PF))
  have g0 := RF.cellAt 0 rfl
  have g1 := RF.cellAt 1 rfl
  have g2 := RF.cellAt 2 rfl
  have g3 := RF.cellAt 3 rfl
  exact bodyPost_ret (v := .agg #[.int .i64 (signD (Rat.divInt n m).num), .slice A3 (dl (Rat.divInt n m).num) c3, .int .i64 (signD ((Rat.divInt n m).den : Int)), .slice A4 (dl ((Rat.divInt n m).den : Int)) c4]) (by simp [results, Tryz.results22, go_sem, g0, g1, g2, g3]) rfl ⟨A3, c3, A4, c4, rfl, ⟨H3.out.1.put R3.out (by decide) PF, H3.out.2.put R3.out (by decide) PF⟩, pp Q3.out PF (Nat.le_succ _)⟩


set_option maxHeartbeats 16000000 in
set_option maxRecDepth 100000 in
theorem ratioMul_any (r s : Rat) (K : Nat) (A : Option Addr) (c : Nat) (A2 : Option Addr) (c2 : Nat) (B : Option Addr) (d : Nat) (B2 : Option Addr) (d2 : Nat) (w : World) (hr : RatAt w A c A2 c2 r) (hs : RatAt w B d B2 d2 s) (h1 : RB K r) (h2 : RB K s) (hK : 4 * K + 8 ≤ wL) :
    Calls Tryz.prog 24 #[ratV r A c A2 c2, ratV s B d B2 d2] w (RatRet w (r * s)) := by
  have HR := Lib.hid hr
  have HS := Lib.hid hs
  have HB := Lib.hid (rb_sums h1 h2 hK)
  have HK := Lib.hid (And.intro h1 (And.intro h2 hK))
  clear hr hs h1 h2 hK
  unfold ratV
  go_enter Tryz.func24, Tryz.ntmps24
  have X1 := Lib.hid (show Blk (((w.alloc (.cells #[.int .i64 (signD r.num), .slice A (dl r.num) c, .int .i64 (signD (r.den : Int)), .slice A2 (dl (r.den : Int)) c2] 55)).alloc (.cells #[.int .i64 (signD s.num), .slice B (dl s.num) d, .int .i64 (signD (s.den : Int)), .slice B2 (dl (s.den : Int)) d2] 55)).alloc (.cells #[.int .i64 0, .slice none 0 0, .int .i64 0, .slice none 0 0] 55)) w.heap.size 55 #[.int .i64 (signD r.num), .slice A (dl r.num) c, .int .i64 (signD (r.den : Int)), .slice A2 (dl (r.den : Int)) c2] from (Blk.newAt rfl).alloc.alloc)
  have X2 := Lib.hid (show Blk (((w.alloc (.cells #[.int .i64 (signD r.num), .slice A (dl r.num) c, .int .i64 (signD (r.den : Int)), .slice A2 (dl (r.den : Int)) c2] 55)).alloc (.cells #[.int .i64 (signD s.num), .slice B (dl s.num) d, .int .i64 (signD (s.den : Int)), .slice B2 (dl (s.den : Int)) d2] 55)).alloc (.cells #[.int .i64 0, .slice none 0 0, .int .i64 0, .slice none 0 0] 55)) (w.heap.size + 1) 55 #[.int .i64 (signD s.num), .slice B (dl s.num) d, .int .i64 (signD (s.den : Int)), .slice B2 (dl (s.den : Int)) d2] from (Blk.newAt (by simp)).alloc)
  have X3 := Lib.hid (show Blk (((w.alloc (.cells #[.int .i64 (signD r.num), .slice A (dl r.num) c, .int .i64 (signD (r.den : Int)), .slice A2 (dl (r.den : Int)) c2] 55)).alloc (.cells #[.int .i64 (signD s.num), .slice B (dl s.num) d, .int .i64 (signD (s.den : Int)), .slice B2 (dl (s.den : Int)) d2] 55)).alloc (.cells #[.int .i64 0, .slice none 0 0, .int .i64 0, .slice none 0 0] 55)) (w.heap.size + 1 + 1) 55 #[.int .i64 0, .slice none 0 0, .int .i64 0, .slice none 0 0] from Blk.newAt (by simp))
  have Q3 := Lib.hid (show Below w.heap.size w (((w.alloc (.cells #[.int .i64 (signD r.num), .slice A (dl r.num) c, .int .i64 (signD (r.den : Int)), .slice A2 (dl (r.den : Int)) c2] 55)).alloc (.cells #[.int .i64 (signD s.num), .slice B (dl s.num) d, .int .i64 (signD (s.den : Int)), .slice B2 (dl (s.den : Int)) d2] 55)).alloc (.cells #[.int .i64 0, .slice none 0 0, .int .i64 0, .slice none 0 0] 55)) from pa (pa (pa pr)))
  go_wp2
  generalize (((w.alloc (.cells #[.int .i64 (signD r.num), .slice A (dl r.num) c, .int .i64 (signD (r.den : Int)), .slice A2 (dl (r.den : Int)) c2] 55)).alloc (.cells #[.int .i64 (signD s.num), .slice B (dl s.num) d, .int .i64 (signD (s.den : Int)), .slice B2 (dl (s.den : Int)) d2] 55)).alloc (.cells #[.int .i64 0, .slice none 0 0, .int .i64 0, .slice none 0 0] 55)) = v at *
  have HR := Lib.hid (HR.out.past Q3.out)
  have HS := Lib.hid (HS.out.past Q3.out)
  have HM1 := Lib.hid (show ∀ W, Below v.heap.size v W → Calls Tryz.prog 62 #[.agg #[.int .i64 (signD r.num), .slice A (dl r.num) c], .agg #[.int .i64 (signD s.num), .slice B (dl s.num) d]] W (WideRet W (r.num * s.num)) from fun W hW => wideMul_any r.num s.num A B c d W (HR.out.1.past hW) (HS.out.1.past hW) HB.out.1.2.2.2)
  have HM2 := Lib.hid (show ∀ W, Below v.heap.size v W → Calls Tryz.prog 62 #[.agg #[.int .i64 (signD (r.den : Int)), .slice A2 (dl (r.den : Int)) c2], .agg #[.int .i64 (signD (s.den : Int)), .slice B2 (dl (s.den : Int)) d2]] W (WideRet W ((r.den : Int) * (s.den : Int))) from fun W hW => wideMul_any (r.den : Int) (s.den : Int) A2 B2 c2 d2 W (HR.out.2.past hW) (HS.out.2.past hW) HB.out.1.2.2.1)
  have HMk := Lib.hid (show ∀ W A5 c5 A6 c6, WideAt W A5 c5 (r.num * s.num) → WideAt W A6 c6 ((r.den : Int) * (s.den : Int)) → Calls Tryz.prog 63 #[.agg #[.int .i64 (signD (r.num * s.num)), .slice A5 (dl (r.num * s.num)) c5], .agg #[.int .i64 (signD ((r.den : Int) * (s.den : Int))), .slice A6 (dl ((r.den : Int) * (s.den : Int))) c6]] W (RatRet W (r * s)) from fun W A5 c5 A6 c6 h5 h6 => by
    have zz := ratioMake_any (r.num * s.num) ((r.den : Int) * (s.den : Int)) (den_ne2 r s) (2 * K + 1) A5 A6 c5 c6 W h5 h6 HB.out.2.1.2.2.2.1 HB.out.2.1.2.2.1 HB.out.2.2.2.1
    rw [← rat_mul] at zz
    exact zz)
  have HSS := Lib.hid (show ∀ W, Below v.heap.size v W → W.cell? ⟨w.heap.size, 0, none⟩ = some (.int .i64 (signD r.num)) ∧ W.cell? ⟨w.heap.size, 1, none⟩ = some (.slice A (dl r.num) c) ∧ W.cell? ⟨w.heap.size, 2, none⟩ = some (.int .i64 (signD (r.den : Int))) ∧ W.cell? ⟨w.heap.size, 3, none⟩ = some (.slice A2 (dl (r.den : Int)) c2) ∧ W.cell? ⟨w.heap.size + 1, 0, none⟩ = some (.int .i64 (signD s.num)) ∧ W.cell? ⟨w.heap.size + 1, 1, none⟩ = some (.slice B (dl s.num) d) ∧ W.cell? ⟨w.heap.size + 1, 2, none⟩ = some (.int .i64 (signD (s.den : Int))) ∧ W.cell? ⟨w.heap.size + 1, 3, none⟩ = some (.slice B2 (dl (s.den : Int)) d2) from fun W hW => ⟨(X1.out.past hW).cellAt 0 rfl, (X1.out.past hW).cellAt 1 rfl, (X1.out.past hW).cellAt 2 rfl, (X1.out.past hW).cellAt 3 rfl, (X2.out.past hW).cellAt 0 rfl, (X2.out.past hW).cellAt 1 rfl, (X2.out.past hW).cellAt 2 rfl, (X2.out.past hW).cellAt 3 rfl⟩)
  refine wp_region_G 11 follows_mixed (fun W => W.cell? ⟨w.heap.size, 0, none⟩ = some (.int .i64 (signD r.num)) ∧ W.cell? ⟨w.heap.size, 1, none⟩ = some (.slice A (dl r.num) c) ∧ W.cell? ⟨w.heap.size, 2, none⟩ = some (.int .i64 (signD (r.den : Int))) ∧ W.cell? ⟨w.heap.size, 3, none⟩ = some (.slice A2 (dl (r.den : Int)) c2) ∧ W.cell? ⟨w.heap.size + 1, 0, none⟩ = some (.int .i64 (signD s.num)) ∧ W.cell? ⟨w.heap.size + 1, 1, none⟩ = some (.slice B (dl s.num) d) ∧ W.cell? ⟨w.heap.size + 1, 2, none⟩ = some (.int .i64 (signD (s.den : Int))) ∧ W.cell? ⟨w.heap.size + 1, 3, none⟩ = some (.slice B2 (dl (s.den : Int)) d2)) (HSS.out _ (pd pr)) ?_
  intro hSd inv
  have HSd := Lib.hid hSd
  clear hSd
  have HB0 := Lib.hid (show Below v.heap.size v v.drew from pd pr)
  refine wpAnyG_take (i := 0) (v := ?_) rfl (by kernel_rfl) (by kernel_rfl) (by kernel_rfl) (by kernel_rfl) (by kernel_rfl) (by decide) (by decide) inv (fun _ _ _ h => h) (Or.inl ⟨by rfl, ?_⟩) HSd.out ?_; rotate_left; (focus (intro W y1; obtain ⟨y1, y2, y3, y4, y5, y6, y7, y8⟩ := y1; go_simp; (first | done | with_reducible rfl))); clear inv; intro inv; simp only [List.getElem_toArray, List.getElem_cons_zero, Act.put, List.setIfInBounds_toArray, List.set_cons_zero, List.set_cons_succ]
  refine wpAnyG_take (i := 1) (v := ?_) rfl (by kernel_rfl) (by kernel_rfl) (by kernel_rfl) (by kernel_rfl) (by kernel_rfl) (by decide) (by decide) inv (fun _ _ _ h => h) (Or.inl ⟨by rfl, ?_⟩) HSd.out ?_; rotate_left; (focus (intro W y1; obtain ⟨y1, y2, y3, y4, y5, y6, y7, y8⟩ := y1; go_simp; (first | done | with_reducible rfl))); clear inv; intro inv; simp only [List.getElem_toArray, List.getElem_cons_zero, List.getElem_cons_succ, Act.put, List.setIfInBounds_toArray, List.set_cons_zero, List.set_cons_succ]
  refine wpAnyG_take (i := 2) (v := ?_) rfl (by kernel_rfl) (by kernel_rfl) (by kernel_rfl) (by kernel_rfl) (by kernel_rfl) (by decide) (by decide) inv (fun _ _ _ h => h) (Or.inl ⟨by rfl, ?_⟩) HSd.out ?_; rotate_left; (focus (intro W y1; obtain ⟨y1, y2, y3, y4, y5, y6, y7, y8⟩ := y1; go_simp; (first | done | with_reducible rfl))); clear inv; intro inv; simp only [List.getElem_toArray, List.getElem_cons_zero, List.getElem_cons_succ, Act.put, List.setIfInBounds_toArray, List.set_cons_zero, List.set_cons_succ]
  refine wpAnyG_take (i := 3) (v := ?_) rfl (by kernel_rfl) (by kernel_rfl) (by kernel_rfl) (by kernel_rfl) (by kernel_rfl) (by decide) (by decide) inv (fun _ _ _ h => h) (Or.inl ⟨by rfl, ?_⟩) HSd.out ?_; rotate_left; (focus (intro W y1; obtain ⟨y1, y2, y3, y4, y5, y6, y7, y8⟩ := y1; go_simp; (first | done | with_reducible rfl))); clear inv; intro inv; simp only [List.getElem_toArray, List.getElem_cons_zero, List.getElem_cons_succ, Act.put, List.setIfInBounds_toArray, List.set_cons_zero, List.set_cons_succ]
  refine wpAnyG_take (i := 5) (v := ?_) rfl (by kernel_rfl) (by kernel_rfl) (by kernel_rfl) (by kernel_rfl) (by kernel_rfl) (by decide) (by decide) inv (fun _ _ _ h => h) (Or.inl ⟨by rfl, ?_⟩) HSd.out ?_; rotate_left; (focus (intro W y1; obtain ⟨y1, y2, y3, y4, y5, y6, y7, y8⟩ := y1; go_simp; (first | done | with_reducible rfl))); clear inv; intro inv; simp only [List.getElem_toArray, List.getElem_cons_zero, List.getElem_cons_succ, Act.put, List.setIfInBounds_toArray, List.set_cons_zero, List.set_cons_succ]
  refine wpAnyG_take (i := 6) (v := ?_) rfl (by kernel_rfl) (by kernel_rfl) (by kernel_rfl) (by kernel_rfl) (by kernel_rfl) (by decide) (by decide) inv (fun _ _ _ h => h) (Or.inl ⟨by rfl, ?_⟩) HSd.out ?_; rotate_left; (focus (intro W y1; obtain ⟨y1, y2, y3, y4, y5, y6, y7, y8⟩ := y1; go_simp; (first | done | with_reducible rfl))); clear inv; intro inv; simp only [List.getElem_toArray, List.getElem_cons_zero, List.getElem_cons_succ, Act.put, List.setIfInBounds_toArray, List.set_cons_zero, List.set_cons_succ]
  refine wpAnyG_take (i := 7) (v := ?_) rfl (by kernel_rfl) (by kernel_rfl) (by kernel_rfl) (by kernel_rfl) (by kernel_rfl) (by decide) (by decide) inv (fun _ _ _ h => h) (Or.inl ⟨by rfl, ?_⟩) HSd.out ?_; rotate_left; (focus (intro W y1; obtain ⟨y1, y2, y3, y4, y5, y6, y7, y8⟩ := y1; go_simp; (first | done | with_reducible rfl))); clear inv; intro inv; simp only [List.getElem_toArray, List.getElem_cons_zero, List.getElem_cons_succ, Act.put, List.setIfInBounds_toArray, List.set_cons_zero, List.set_cons_succ]
  refine wpAnyG_take (i := 8) (v := ?_) rfl (by kernel_rfl) (by kernel_rfl) (by kernel_rfl) (by kernel_rfl) (by kernel_rfl) (by decide) (by decide) inv (fun _ _ _ h => h) (Or.inl ⟨by rfl, ?_⟩) HSd.out ?_; rotate_left; (focus (intro W y1; obtain ⟨y1, y2, y3, y4, y5, y6, y7, y8⟩ := y1; go_simp; (first | done | with_reducible rfl))); clear inv; intro inv; simp only [List.getElem_toArray, List.getElem_cons_zero, List.getElem_cons_succ, Act.put, List.setIfInBounds_toArray, List.set_cons_zero, List.set_cons_succ]
  have HInv := Lib.hid inv
  clear inv
  refine wpAnyG_one (i := 4) (by kernel_rfl) rfl rfl fun K hK => ?_
  go_simp
  refine (HM1.out _ HB0.out).mono ?_
  rintro e w4 ⟨A5, c5, rfl, h5, hb⟩
  have HBx4 := Lib.hid (show Below v.heap.size v w4 from pt HB0.out hb)
  have H5 := Lib.hid h5
  clear h5
  unfold wideV
  refine hK.out _ _ (fun _ => HSS.out _ HBx4.out) ?_
  clear hK K hb
  replace HInv := Lib.hid (inv_one (i := 4) HInv.out (by kernel_rfl) (by decide))
  refine wpAnyG_one (i := 9) (by kernel_rfl) rfl rfl fun K hK => ?_
  go_simp
  refine (HM2.out _ HBx4.out).mono ?_
  rintro e w5 ⟨A6, c6, rfl, h6, hb⟩
  have HBx9 := Lib.hid (show Below v.heap.size v w5 from pt HBx4.out hb)
  have H6 := Lib.hid h6
  have H5 := Lib.hid (H5.out.past hb)
  clear h6
  unfold wideV
  refine hK.out _ _ (fun _ => HSS.out _ HBx9.out) ?_
  clear hK K hb
  replace HInv := Lib.hid (inv_one (i := 9) HInv.out (by kernel_rfl) (by decide))
  refine wpAnyG_one (i := 10) (by kernel_rfl) rfl rfl fun K hK => ?_
  go_simp
  refine (HMk.out _ A5 c5 A6 c6 H5.out H6.out).mono ?_
  rintro e w6 ⟨A7, c7, A8, c8, rfl, h8, hb⟩
  have HBx10 := Lib.hid (show Below v.heap.size v w6 from pt HBx9.out hb)
  have H8 := Lib.hid h8
  clear h8
  unfold ratV
  refine hK.out _ _ (fun _ => HSS.out _ HBx10.out) ?_
  clear hK K hb
  replace HInv := Lib.hid (inv_one (i := 10) HInv.out (by kernel_rfl) (by decide))
  have R7 := Lib.hid (X3.out.past HBx10.out)
  have Q7 := Lib.hid (pt Q3.out HBx10.out)
  have f0 := R7.out.frozen 0; have f1 := R7.out.frozen 1; have f2 := R7.out.frozen 2; have f3 := R7.out.frozen 3; have fl := R7.out.lt; have h0_ := R7.out.cellAt 0 rfl; have h1_ := R7.out.cellAt 1 rfl; have h2_ := R7.out.cellAt 2 rfl; have h3_ := R7.out.cellAt 3 rfl
  refine wpAnyG_one (i := 11) (by kernel_rfl) rfl rfl fun K hK => ?_
  go_simp
  refine hK.out _ _ (fun h => absurd h (by decide)) ?_
  clear hK K
  refine wpAnyG_done (by kernel_rfl) ?_
  clear HInv
  clear HSS HSd HB0
  clear f0 f1 f2 f3 fl h0_ h1_ h2_ h3_
  have hR := (((R7.out.set_ 0 (.int .i64 (signD (r * s).num))).set_ 1 (.slice A7 (dl (r * s).num) c7)).set_ 2 (.int .i64 (signD ((r * s).den : Int)))).set_ 3 (.slice A8 (dl ((r * s).den : Int)) c8)
  have hA := rat_far R7.out H8.out.1 (u0 := (.int .i64 (signD (r * s).num))) (u1 := (.slice A7 (dl (r * s).num) c7)) (u2 := (.int .i64 (signD ((r * s).den : Int)))) (u3 := (.slice A8 (dl ((r * s).den : Int)) c8))
  have hA2 := rat_far R7.out H8.out.2 (u0 := (.int .i64 (signD (r * s).num))) (u1 := (.slice A7 (dl (r * s).num) c7)) (u2 := (.int .i64 (signD ((r * s).den : Int)))) (u3 := (.slice A8 (dl ((r * s).den : Int)) c8))
  have hQ := ps (ps (ps (ps Q7.out (p := ⟨w.heap.size + 1 + 1, 0, none⟩) (u := (.int .i64 (signD (r * s).num))) (Nat.le_add_right _ 2)) (p := ⟨w.heap.size + 1 + 1, 1, none⟩) (u := (.slice A7 (dl (r * s).num) c7)) (Nat.le_add_right _ 2)) (p := ⟨w.heap.size + 1 + 1, 2, none⟩) (u := (.int .i64 (signD ((r * s).den : Int)))) (Nat.le_add_right _ 2)) (p := ⟨w.heap.size + 1 + 1, 3, none⟩) (u := (.slice A8 (dl ((r * s).den : Int)) c8)) (Nat.le_add_right _ 2)
  generalize (((w6.setCell ⟨w.heap.size + 1 + 1, 0, none⟩ (.int .i64 (signD (r * s).num))).setCell ⟨w.heap.size + 1 + 1, 1, none⟩ (.slice A7 (dl (r * s).num) c7)).setCell ⟨w.heap.size + 1 + 1, 2, none⟩ (.int .i64 (signD ((r * s).den : Int)))).setCell ⟨w.heap.size + 1 + 1, 3, none⟩ (.slice A8 (dl ((r * s).den : Int)) c8) = wz at *
  have g0 := hR.cellAt 0 rfl
  have g1 := hR.cellAt 1 rfl
  have g2 := hR.cellAt 2 rfl
  have g3 := hR.cellAt 3 rfl
  go_wp2
  exact bodyPost_ret (v := .agg #[.int .i64 (signD (r * s).num), .slice A7 (dl (r * s).num) c7, .int .i64 (signD ((r * s).den : Int)), .slice A8 (dl ((r * s).den : Int)) c8]) (by simp [results, Tryz.results24, go_sem, g0, g1, g2, g3]) rfl ⟨A7, c7, A8, c8, rfl, ⟨hA, hA2⟩, hQ⟩

set_option maxHeartbeats 16000000 in
set_option maxRecDepth 100000 in
theorem ratioDiv_any (r s : Rat) (K : Nat) (A : Option Addr) (c : Nat) (A2 : Option Addr) (c2 : Nat) (B : Option Addr) (d : Nat) (B2 : Option Addr) (d2 : Nat) (w : World) (hr : RatAt w A c A2 c2 r) (hs : RatAt w B d B2 d2 s) (h1 : RB K r) (h2 : RB K s) (hK : 4 * K + 8 ≤ wL) (h0 : s ≠ 0) :
    Calls Tryz.prog 98 #[ratV r A c A2 c2, ratV s B d B2 d2] w (RatRet w (r / s)) := by
  have HR := Lib.hid hr
  have HS := Lib.hid hs
  have HB := Lib.hid (rb_sums h1 h2 hK)
  have HK := Lib.hid (And.intro h1 (And.intro h2 hK))
  clear hr hs h1 h2 hK
  unfold ratV
  have HNe := Lib.hid (show (r.den : Int) * s.num ≠ 0 from Int.mul_ne_zero (rden_ne r) (fun e => h0 (Rat.num_eq_zero.1 e)))
  clear h0
  go_enter Tryz.func98, Tryz.ntmps98
  have X1 := Lib.hid (show Blk (((w.alloc (.cells #[.int .i64 (signD r.num), .slice A (dl r.num) c, .int .i64 (signD (r.den : Int)), .slice A2 (dl (r.den : Int)) c2] 55)).alloc (.cells #[.int .i64 (signD s.num), .slice B (dl s.num) d, .int .i64 (signD (s.den : Int)), .slice B2 (dl (s.den : Int)) d2] 55)).alloc (.cells #[.int .i64 0, .slice none 0 0, .int .i64 0, .slice none 0 0] 55)) w.heap.size 55 #[.int .i64 (signD r.num), .slice A (dl r.num) c, .int .i64 (signD (r.den : Int)), .slice A2 (dl (r.den : Int)) c2] from (Blk.newAt rfl).alloc.alloc)
  have X2 := Lib.hid (show Blk (((w.alloc (.cells #[.int .i64 (signD r.num), .slice A (dl r.num) c, .int .i64 (signD (r.den : Int)), .slice A2 (dl (r.den : Int)) c2] 55)).alloc (.cells #[.int .i64 (signD s.num), .slice B (dl s.num) d, .int .i64 (signD (s.den : Int)), .slice B2 (dl (s.den : Int)) d2] 55)).alloc (.cells #[.int .i64 0, .slice none 0 0, .int .i64 0, .slice none 0 0] 55)) (w.heap.size + 1) 55 #[.int .i64 (signD s.num), .slice B (dl s.num) d, .int .i64 (signD (s.den : Int)), .slice B2 (dl (s.den : Int)) d2] from (Blk.newAt (by simp)).alloc)
  have X3 := Lib.hid (show Blk (((w.alloc (.cells #[.int .i64 (signD r.num), .slice A (dl r.num) c, .int .i64 (signD (r.den : Int)), .slice A2 (dl (r.den : Int)) c2] 55)).alloc (.cells #[.int .i64 (signD s.num), .slice B (dl s.num) d, .int .i64 (signD (s.den : Int)), .slice B2 (dl (s.den : Int)) d2] 55)).alloc (.cells #[.int .i64 0, .slice none 0 0, .int .i64 0, .slice none 0 0] 55)) (w.heap.size + 1 + 1) 55 #[.int .i64 0, .slice none 0 0, .int .i64 0, .slice none 0 0] from Blk.newAt (by simp))
  have Q3 := Lib.hid (show Below w.heap.size w (((w.alloc (.cells #[.int .i64 (signD r.num), .slice A (dl r.num) c, .int .i64 (signD (r.den : Int)), .slice A2 (dl (r.den : Int)) c2] 55)).alloc (.cells #[.int .i64 (signD s.num), .slice B (dl s.num) d, .int .i64 (signD (s.den : Int)), .slice B2 (dl (s.den : Int)) d2] 55)).alloc (.cells #[.int .i64 0, .slice none 0 0, .int .i64 0, .slice none 0 0] 55)) from pa (pa (pa pr)))
  go_wp2
  generalize (((w.alloc (.cells #[.int .i64 (signD r.num), .slice A (dl r.num) c, .int .i64 (signD (r.den : Int)), .slice A2 (dl (r.den : Int)) c2] 55)).alloc (.cells #[.int .i64 (signD s.num), .slice B (dl s.num) d, .int .i64 (signD (s.den : Int)), .slice B2 (dl (s.den : Int)) d2] 55)).alloc (.cells #[.int .i64 0, .slice none 0 0, .int .i64 0, .slice none 0 0] 55)) = v at *
  have HR := Lib.hid (HR.out.past Q3.out)
  have HS := Lib.hid (HS.out.past Q3.out)
  have HM1 := Lib.hid (show ∀ W, Below v.heap.size v W → Calls Tryz.prog 62 #[.agg #[.int .i64 (signD r.num), .slice A (dl r.num) c], .agg #[.int .i64 (signD (s.den : Int)), .slice B2 (dl (s.den : Int)) d2]] W (WideRet W (r.num * (s.den : Int))) from fun W hW => wideMul_any r.num (s.den : Int) A B2 c d2 W (HR.out.1.past hW) (HS.out.2.past hW) HB.out.1.1)
  have HM2 := Lib.hid (show ∀ W, Below v.heap.size v W → Calls Tryz.prog 62 #[.agg #[.int .i64 (signD (r.den : Int)), .slice A2 (dl (r.den : Int)) c2], .agg #[.int .i64 (signD s.num), .slice B (dl s.num) d]] W (WideRet W ((r.den : Int) * s.num)) from fun W hW => wideMul_any (r.den : Int) s.num A2 B c2 d W (HR.out.2.past hW) (HS.out.1.past hW) HB.out.2.2.2.2.2)
  have HMk := Lib.hid (show ∀ W A5 c5 A6 c6, WideAt W A5 c5 (r.num * (s.den : Int)) → WideAt W A6 c6 ((r.den : Int) * s.num) → Calls Tryz.prog 63 #[.agg #[.int .i64 (signD (r.num * (s.den : Int))), .slice A5 (dl (r.num * (s.den : Int))) c5], .agg #[.int .i64 (signD ((r.den : Int) * s.num)), .slice A6 (dl ((r.den : Int) * s.num)) c6]] W (RatRet W (r / s)) from fun W A5 c5 A6 c6 h5 h6 => by
    have zz := ratioMake_any (r.num * (s.den : Int)) ((r.den : Int) * s.num) HNe.out (2 * K + 1) A5 A6 c5 c6 W h5 h6 HB.out.2.1.1 HB.out.2.2.2.2.1 HB.out.2.2.2.1
    rw [← rat_div] at zz
    exact zz)
  have HSS := Lib.hid (show ∀ W, Below v.heap.size v W → W.cell? ⟨w.heap.size, 0, none⟩ = some (.int .i64 (signD r.num)) ∧ W.cell? ⟨w.heap.size, 1, none⟩ = some (.slice A (dl r.num) c) ∧ W.cell? ⟨w.heap.size, 2, none⟩ = some (.int .i64 (signD (r.den : Int))) ∧ W.cell? ⟨w.heap.size, 3, none⟩ = some (.slice A2 (dl (r.den : Int)) c2) ∧ W.cell? ⟨w.heap.size + 1, 0, none⟩ = some (.int .i64 (signD s.num)) ∧ W.cell? ⟨w.heap.size + 1, 1, none⟩ = some (.slice B (dl s.num) d) ∧ W.cell? ⟨w.heap.size + 1, 2, none⟩ = some (.int .i64 (signD (s.den : Int))) ∧ W.cell? ⟨w.heap.size + 1, 3, none⟩ = some (.slice B2 (dl (s.den : Int)) d2) from fun W hW => ⟨(X1.out.past hW).cellAt 0 rfl, (X1.out.past hW).cellAt 1 rfl, (X1.out.past hW).cellAt 2 rfl, (X1.out.past hW).cellAt 3 rfl, (X2.out.past hW).cellAt 0 rfl, (X2.out.past hW).cellAt 1 rfl, (X2.out.past hW).cellAt 2 rfl, (X2.out.past hW).cellAt 3 rfl⟩)
  refine wp_region_G 11 follows_mixed (fun W => W.cell? ⟨w.heap.size, 0, none⟩ = some (.int .i64 (signD r.num)) ∧ W.cell? ⟨w.heap.size, 1, none⟩ = some (.slice A (dl r.num) c) ∧ W.cell? ⟨w.heap.size, 2, none⟩ = some (.int .i64 (signD (r.den : Int))) ∧ W.cell? ⟨w.heap.size, 3, none⟩ = some (.slice A2 (dl (r.den : Int)) c2) ∧ W.cell? ⟨w.heap.size + 1, 0, none⟩ = some (.int .i64 (signD s.num)) ∧ W.cell? ⟨w.heap.size + 1, 1, none⟩ = some (.slice B (dl s.num) d) ∧ W.cell? ⟨w.heap.size + 1, 2, none⟩ = some (.int .i64 (signD (s.den : Int))) ∧ W.cell? ⟨w.heap.size + 1, 3, none⟩ = some (.slice B2 (dl (s.den : Int)) d2)) (HSS.out _ (pd pr)) ?_
  intro hSd inv
  have HSd := Lib.hid hSd
  clear hSd
  have HB0 := Lib.hid (show Below v.heap.size v v.drew from pd pr)
  refine wpAnyG_take (i := 0) (v := ?_) rfl (by kernel_rfl) (by kernel_rfl) (by kernel_rfl) (by kernel_rfl) (by kernel_rfl) (by decide) (by decide) inv (fun _ _ _ h => h) (Or.inl ⟨by rfl, ?_⟩) HSd.out ?_; rotate_left; (focus (intro W y1; obtain ⟨y1, y2, y3, y4, y5, y6, y7, y8⟩ := y1; go_simp; (first | done | with_reducible rfl))); clear inv; intro inv; simp only [List.getElem_toArray, List.getElem_cons_zero, Act.put, List.setIfInBounds_toArray, List.set_cons_zero, List.set_cons_succ]
  refine wpAnyG_take (i := 1) (v := ?_) rfl (by kernel_rfl) (by kernel_rfl) (by kernel_rfl) (by kernel_rfl) (by kernel_rfl) (by decide) (by decide) inv (fun _ _ _ h => h) (Or.inl ⟨by rfl, ?_⟩) HSd.out ?_; rotate_left; (focus (intro W y1; obtain ⟨y1, y2, y3, y4, y5, y6, y7, y8⟩ := y1; go_simp; (first | done | with_reducible rfl))); clear inv; intro inv; simp only [List.getElem_toArray, List.getElem_cons_zero, List.getElem_cons_succ, Act.put, List.setIfInBounds_toArray, List.set_cons_zero, List.set_cons_succ]
  refine wpAnyG_take (i := 2) (v := ?_) rfl (by kernel_rfl) (by kernel_rfl) (by kernel_rfl) (by kernel_rfl) (by kernel_rfl) (by decide) (by decide) inv (fun _ _ _ h => h) (Or.inl ⟨by rfl, ?_⟩) HSd.out ?_; rotate_left; (focus (intro W y1; obtain ⟨y1, y2, y3, y4, y5, y6, y7, y8⟩ := y1; go_simp; (first | done | with_reducible rfl))); clear inv; intro inv; simp only [List.getElem_toArray, List.getElem_cons_zero, List.getElem_cons_succ, Act.put, List.setIfInBounds_toArray, List.set_cons_zero, List.set_cons_succ]
  refine wpAnyG_take (i := 3) (v := ?_) rfl (by kernel_rfl) (by kernel_rfl) (by kernel_rfl) (by kernel_rfl) (by kernel_rfl) (by decide) (by decide) inv (fun _ _ _ h => h) (Or.inl ⟨by rfl, ?_⟩) HSd.out ?_; rotate_left; (focus (intro W y1; obtain ⟨y1, y2, y3, y4, y5, y6, y7, y8⟩ := y1; go_simp; (first | done | with_reducible rfl))); clear inv; intro inv; simp only [List.getElem_toArray, List.getElem_cons_zero, List.getElem_cons_succ, Act.put, List.setIfInBounds_toArray, List.set_cons_zero, List.set_cons_succ]
  refine wpAnyG_take (i := 5) (v := ?_) rfl (by kernel_rfl) (by kernel_rfl) (by kernel_rfl) (by kernel_rfl) (by kernel_rfl) (by decide) (by decide) inv (fun _ _ _ h => h) (Or.inl ⟨by rfl, ?_⟩) HSd.out ?_; rotate_left; (focus (intro W y1; obtain ⟨y1, y2, y3, y4, y5, y6, y7, y8⟩ := y1; go_simp; (first | done | with_reducible rfl))); clear inv; intro inv; simp only [List.getElem_toArray, List.getElem_cons_zero, List.getElem_cons_succ, Act.put, List.setIfInBounds_toArray, List.set_cons_zero, List.set_cons_succ]
  refine wpAnyG_take (i := 6) (v := ?_) rfl (by kernel_rfl) (by kernel_rfl) (by kernel_rfl) (by kernel_rfl) (by kernel_rfl) (by decide) (by decide) inv (fun _ _ _ h => h) (Or.inl ⟨by rfl, ?_⟩) HSd.out ?_; rotate_left; (focus (intro W y1; obtain ⟨y1, y2, y3, y4, y5, y6, y7, y8⟩ := y1; go_simp; (first | done | with_reducible rfl))); clear inv; intro inv; simp only [List.getElem_toArray, List.getElem_cons_zero, List.getElem_cons_succ, Act.put, List.setIfInBounds_toArray, List.set_cons_zero, List.set_cons_succ]
  refine wpAnyG_take (i := 7) (v := ?_) rfl (by kernel_rfl) (by kernel_rfl) (by kernel_rfl) (by kernel_rfl) (by kernel_rfl) (by decide) (by decide) inv (fun _ _ _ h => h) (Or.inl ⟨by rfl, ?_⟩) HSd.out ?_; rotate_left; (focus (intro W y1; obtain ⟨y1, y2, y3, y4, y5, y6, y7, y8⟩ := y1; go_simp; (first | done | with_reducible rfl))); clear inv; intro inv; simp only [List.getElem_toArray, List.getElem_cons_zero, List.getElem_cons_succ, Act.put, List.setIfInBounds_toArray, List.set_cons_zero, List.set_cons_succ]
  refine wpAnyG_take (i := 8) (v := ?_) rfl (by kernel_rfl) (by kernel_rfl) (by kernel_rfl) (by kernel_rfl) (by kernel_rfl) (by decide) (by decide) inv (fun _ _ _ h => h) (Or.inl ⟨by rfl, ?_⟩) HSd.out ?_; rotate_left; (focus (intro W y1; obtain ⟨y1, y2, y3, y4, y5, y6, y7, y8⟩ := y1; go_simp; (first | done | with_reducible rfl))); clear inv; intro inv; simp only [List.getElem_toArray, List.getElem_cons_zero, List.getElem_cons_succ, Act.put, List.setIfInBounds_toArray, List.set_cons_zero, List.set_cons_succ]
  have HInv := Lib.hid inv
  clear inv
  refine wpAnyG_one (i := 4) (by kernel_rfl) rfl rfl fun K hK => ?_
  go_simp
  refine (HM1.out _ HB0.out).mono ?_
  rintro e w4 ⟨A5, c5, rfl, h5, hb⟩
  have HBx4 := Lib.hid (show Below v.heap.size v w4 from pt HB0.out hb)
  have H5 := Lib.hid h5
  clear h5
  unfold wideV
  refine hK.out _ _ (fun _ => HSS.out _ HBx4.out) ?_
  clear hK K hb
  replace HInv := Lib.hid (inv_one (i := 4) HInv.out (by kernel_rfl) (by decide))
  refine wpAnyG_one (i := 9) (by kernel_rfl) rfl rfl fun K hK => ?_
  go_simp
  refine (HM2.out _ HBx4.out).mono ?_
  rintro e w5 ⟨A6, c6, rfl, h6, hb⟩
  have HBx9 := Lib.hid (show Below v.heap.size v w5 from pt HBx4.out hb)
  have H6 := Lib.hid h6
  have H5 := Lib.hid (H5.out.past hb)
  clear h6
  unfold wideV
  refine hK.out _ _ (fun _ => HSS.out _ HBx9.out) ?_
  clear hK K hb
  replace HInv := Lib.hid (inv_one (i := 9) HInv.out (by kernel_rfl) (by decide))
  refine wpAnyG_one (i := 10) (by kernel_rfl) rfl rfl fun K hK => ?_
  go_simp
  refine (HMk.out _ A5 c5 A6 c6 H5.out H6.out).mono ?_
  rintro e w6 ⟨A7, c7, A8, c8, rfl, h8, hb⟩
  have HBx10 := Lib.hid (show Below v.heap.size v w6 from pt HBx9.out hb)
  have H8 := Lib.hid h8
  clear h8
  unfold ratV
  refine hK.out _ _ (fun _ => HSS.out _ HBx10.out) ?_
  clear hK K hb
  replace HInv := Lib.hid (inv_one (i := 10) HInv.out (by kernel_rfl) (by decide))
  have R7 := Lib.hid (X3.out.past HBx10.out)
  have Q7 := Lib.hid (pt Q3.out HBx10.out)
  have f0 := R7.out.frozen 0; have f1 := R7.out.frozen 1; have f2 := R7.out.frozen 2; have f3 := R7.out.frozen 3; have fl := R7.out.lt; have h0_ := R7.out.cellAt 0 rfl; have h1_ := R7.out.cellAt 1 rfl; have h2_ := R7.out.cellAt 2 rfl; have h3_ := R7.out.cellAt 3 rfl
  refine wpAnyG_one (i := 11) (by kernel_rfl) rfl rfl fun K hK => ?_
  go_simp
  refine hK.out _ _ (fun h => absurd h (by decide)) ?_
  clear hK K
  refine wpAnyG_done (by kernel_rfl) ?_
  clear HInv
  clear HSS HSd HB0
  clear f0 f1 f2 f3 fl h0_ h1_ h2_ h3_
  have hR := (((R7.out.set_ 0 (.int .i64 (signD (r / s).num))).set_ 1 (.slice A7 (dl (r / s).num) c7)).set_ 2 (.int .i64 (signD ((r / s).den : Int)))).set_ 3 (.slice A8 (dl ((r / s).den : Int)) c8)
  have hA := rat_far R7.out H8.out.1 (u0 := (.int .i64 (signD (r / s).num))) (u1 := (.slice A7 (dl (r / s).num) c7)) (u2 := (.int .i64 (signD ((r / s).den : Int)))) (u3 := (.slice A8 (dl ((r / s).den : Int)) c8))
  have hA2 := rat_far R7.out H8.out.2 (u0 := (.int .i64 (signD (r / s).num))) (u1 := (.slice A7 (dl (r / s).num) c7)) (u2 := (.int .i64 (signD ((r / s).den : Int)))) (u3 := (.slice A8 (dl ((r / s).den : Int)) c8))
  have hQ := ps (ps (ps (ps Q7.out (p := ⟨w.heap.size + 1 + 1, 0, none⟩) (u := (.int .i64 (signD (r / s).num))) (Nat.le_add_right _ 2)) (p := ⟨w.heap.size + 1 + 1, 1, none⟩) (u := (.slice A7 (dl (r / s).num) c7)) (Nat.le_add_right _ 2)) (p := ⟨w.heap.size + 1 + 1, 2, none⟩) (u := (.int .i64 (signD ((r / s).den : Int)))) (Nat.le_add_right _ 2)) (p := ⟨w.heap.size + 1 + 1, 3, none⟩) (u := (.slice A8 (dl ((r / s).den : Int)) c8)) (Nat.le_add_right _ 2)
  generalize (((w6.setCell ⟨w.heap.size + 1 + 1, 0, none⟩ (.int .i64 (signD (r / s).num))).setCell ⟨w.heap.size + 1 + 1, 1, none⟩ (.slice A7 (dl (r / s).num) c7)).setCell ⟨w.heap.size + 1 + 1, 2, none⟩ (.int .i64 (signD ((r / s).den : Int)))).setCell ⟨w.heap.size + 1 + 1, 3, none⟩ (.slice A8 (dl ((r / s).den : Int)) c8) = wz at *
  have g0 := hR.cellAt 0 rfl
  have g1 := hR.cellAt 1 rfl
  have g2 := hR.cellAt 2 rfl
  have g3 := hR.cellAt 3 rfl
  go_wp2
  exact bodyPost_ret (v := .agg #[.int .i64 (signD (r / s).num), .slice A7 (dl (r / s).num) c7, .int .i64 (signD ((r / s).den : Int)), .slice A8 (dl ((r / s).den : Int)) c8]) (by simp [results, Tryz.results98, go_sem, g0, g1, g2, g3]) rfl ⟨A7, c7, A8, c8, rfl, ⟨hA, hA2⟩, hQ⟩

set_option maxHeartbeats 16000000 in
set_option maxRecDepth 100000 in
theorem ratioAdd_any (r s : Rat) (K : Nat) (A : Option Addr) (c : Nat) (A2 : Option Addr) (c2 : Nat) (B : Option Addr) (d : Nat) (B2 : Option Addr) (d2 : Nat) (w : World) (hr : RatAt w A c A2 c2 r) (hs : RatAt w B d B2 d2 s) (h1 : RB K r) (h2 : RB K s) (hK : 4 * K + 8 ≤ wL) :
    Calls Tryz.prog 52 #[ratV r A c A2 c2, ratV s B d B2 d2] w (RatRet w (r + s)) := by
  have HR := Lib.hid hr
  have HS := Lib.hid hs
  have HB := Lib.hid (rb_sums h1 h2 hK)
  have HK := Lib.hid (And.intro h1 (And.intro h2 hK))
  clear hr hs h1 h2 hK
  unfold ratV
  go_enter Tryz.func52, Tryz.ntmps52
  have X1 := Lib.hid (show Blk (((w.alloc (.cells #[.int .i64 (signD r.num), .slice A (dl r.num) c, .int .i64 (signD (r.den : Int)), .slice A2 (dl (r.den : Int)) c2] 55)).alloc (.cells #[.int .i64 (signD s.num), .slice B (dl s.num) d, .int .i64 (signD (s.den : Int)), .slice B2 (dl (s.den : Int)) d2] 55)).alloc (.cells #[.int .i64 0, .slice none 0 0, .int .i64 0, .slice none 0 0] 55)) w.heap.size 55 #[.int .i64 (signD r.num), .slice A (dl r.num) c, .int .i64 (signD (r.den : Int)), .slice A2 (dl (r.den : Int)) c2] from (Blk.newAt rfl).alloc.alloc)
  have X2 := Lib.hid (show Blk (((w.alloc (.cells #[.int .i64 (signD r.num), .slice A (dl r.num) c, .int .i64 (signD (r.den : Int)), .slice A2 (dl (r.den : Int)) c2] 55)).alloc (.cells #[.int .i64 (signD s.num), .slice B (dl s.num) d, .int .i64 (signD (s.den : Int)), .slice B2 (dl (s.den : Int)) d2] 55)).alloc (.cells #[.int .i64 0, .slice none 0 0, .int .i64 0, .slice none 0 0] 55)) (w.heap.size + 1) 55 #[.int .i64 (signD s.num), .slice B (dl s.num) d, .int .i64 (signD (s.den : Int)), .slice B2 (dl (s.den : Int)) d2] from (Blk.newAt (by simp)).alloc)
  have X3 := Lib.hid (show Blk (((w.alloc (.cells #[.int .i64 (signD r.num), .slice A (dl r.num) c, .int .i64 (signD (r.den : Int)), .slice A2 (dl (r.den : Int)) c2] 55)).alloc (.cells #[.int .i64 (signD s.num), .slice B (dl s.num) d, .int .i64 (signD (s.den : Int)), .slice B2 (dl (s.den : Int)) d2] 55)).alloc (.cells #[.int .i64 0, .slice none 0 0, .int .i64 0, .slice none 0 0] 55)) (w.heap.size + 1 + 1) 55 #[.int .i64 0, .slice none 0 0, .int .i64 0, .slice none 0 0] from Blk.newAt (by simp))
  have Q3 := Lib.hid (show Below w.heap.size w (((w.alloc (.cells #[.int .i64 (signD r.num), .slice A (dl r.num) c, .int .i64 (signD (r.den : Int)), .slice A2 (dl (r.den : Int)) c2] 55)).alloc (.cells #[.int .i64 (signD s.num), .slice B (dl s.num) d, .int .i64 (signD (s.den : Int)), .slice B2 (dl (s.den : Int)) d2] 55)).alloc (.cells #[.int .i64 0, .slice none 0 0, .int .i64 0, .slice none 0 0] 55)) from pa (pa (pa pr)))
  go_wp2
  generalize (((w.alloc (.cells #[.int .i64 (signD r.num), .slice A (dl r.num) c, .int .i64 (signD (r.den : Int)), .slice A2 (dl (r.den : Int)) c2] 55)).alloc (.cells #[.int .i64 (signD s.num), .slice B (dl s.num) d, .int .i64 (signD (s.den : Int)), .slice B2 (dl (s.den : Int)) d2] 55)).alloc (.cells #[.int .i64 0, .slice none 0 0, .int .i64 0, .slice none 0 0] 55)) = v at *
  have HR := Lib.hid (HR.out.past Q3.out)
  have HS := Lib.hid (HS.out.past Q3.out)
  have HM1 := Lib.hid (show ∀ W, Below v.heap.size v W → Calls Tryz.prog 62 #[.agg #[.int .i64 (signD r.num), .slice A (dl r.num) c], .agg #[.int .i64 (signD (s.den : Int)), .slice B2 (dl (s.den : Int)) d2]] W (WideRet W (r.num * (s.den : Int))) from fun W hW => wideMul_any r.num (s.den : Int) A B2 c d2 W (HR.out.1.past hW) (HS.out.2.past hW) HB.out.1.1)
  have HM2 := Lib.hid (show ∀ W, Below v.heap.size v W → Calls Tryz.prog 62 #[.agg #[.int .i64 (signD s.num), .slice B (dl s.num) d], .agg #[.int .i64 (signD (r.den : Int)), .slice A2 (dl (r.den : Int)) c2]] W (WideRet W (s.num * (r.den : Int))) from fun W hW => wideMul_any s.num (r.den : Int) B A2 d c2 W (HS.out.1.past hW) (HR.out.2.past hW) HB.out.1.2.1)
  have HM3 := Lib.hid (show ∀ W, Below v.heap.size v W → Calls Tryz.prog 62 #[.agg #[.int .i64 (signD (r.den : Int)), .slice A2 (dl (r.den : Int)) c2], .agg #[.int .i64 (signD (s.den : Int)), .slice B2 (dl (s.den : Int)) d2]] W (WideRet W ((r.den : Int) * (s.den : Int))) from fun W hW => wideMul_any (r.den : Int) (s.den : Int) A2 B2 c2 d2 W (HR.out.2.past hW) (HS.out.2.past hW) HB.out.1.2.2.1)
  have HAd := Lib.hid (show ∀ W A5 c5 A6 c6, WideAt W A5 c5 (r.num * (s.den : Int)) → WideAt W A6 c6 (s.num * (r.den : Int)) → Calls Tryz.prog 97 #[.agg #[.int .i64 (signD (r.num * (s.den : Int))), .slice A5 (dl (r.num * (s.den : Int))) c5], .agg #[.int .i64 (signD (s.num * (r.den : Int))), .slice A6 (dl (s.num * (r.den : Int))) c6]] W (WideRet W ((r.num * (s.den : Int)) + (s.num * (r.den : Int)))) from fun W A5 c5 A6 c6 h5 h6 => wideAdd_any (r.num * (s.den : Int)) (s.num * (r.den : Int)) A5 A6 c5 c6 W h5 h6 HB.out.2.2.1.1 HB.out.2.2.1.2)
  have HMk := Lib.hid (show ∀ W A5 c5 A6 c6, WideAt W A5 c5 ((r.num * (s.den : Int)) + (s.num * (r.den : Int))) → WideAt W A6 c6 ((r.den : Int) * (s.den : Int)) → Calls Tryz.prog 63 #[.agg #[.int .i64 (signD ((r.num * (s.den : Int)) + (s.num * (r.den : Int)))), .slice A5 (dl ((r.num * (s.den : Int)) + (s.num * (r.den : Int)))) c5], .agg #[.int .i64 (signD ((r.den : Int) * (s.den : Int))), .slice A6 (dl ((r.den : Int) * (s.den : Int))) c6]] W (RatRet W (r + s)) from fun W A5 c5 A6 c6 h5 h6 => by
    have zz := ratioMake_any ((r.num * (s.den : Int)) + (s.num * (r.den : Int))) ((r.den : Int) * (s.den : Int)) (den_ne2 r s) (2 * K + 1) A5 A6 c5 c6 W h5 h6 HB.out.2.1.2.2.2.2 HB.out.2.1.2.2.1 HB.out.2.2.2.1
    rw [← rat_add] at zz
    exact zz)
  have HSS := Lib.hid (show ∀ W, Below v.heap.size v W → W.cell? ⟨w.heap.size, 0, none⟩ = some (.int .i64 (signD r.num)) ∧ W.cell? ⟨w.heap.size, 1, none⟩ = some (.slice A (dl r.num) c) ∧ W.cell? ⟨w.heap.size, 2, none⟩ = some (.int .i64 (signD (r.den : Int))) ∧ W.cell? ⟨w.heap.size, 3, none⟩ = some (.slice A2 (dl (r.den : Int)) c2) ∧ W.cell? ⟨w.heap.size + 1, 0, none⟩ = some (.int .i64 (signD s.num)) ∧ W.cell? ⟨w.heap.size + 1, 1, none⟩ = some (.slice B (dl s.num) d) ∧ W.cell? ⟨w.heap.size + 1, 2, none⟩ = some (.int .i64 (signD (s.den : Int))) ∧ W.cell? ⟨w.heap.size + 1, 3, none⟩ = some (.slice B2 (dl (s.den : Int)) d2) from fun W hW => ⟨(X1.out.past hW).cellAt 0 rfl, (X1.out.past hW).cellAt 1 rfl, (X1.out.past hW).cellAt 2 rfl, (X1.out.past hW).cellAt 3 rfl, (X2.out.past hW).cellAt 0 rfl, (X2.out.past hW).cellAt 1 rfl, (X2.out.past hW).cellAt 2 rfl, (X2.out.past hW).cellAt 3 rfl⟩)
  refine wp_region_G 17 follows_mixed (fun W => W.cell? ⟨w.heap.size, 0, none⟩ = some (.int .i64 (signD r.num)) ∧ W.cell? ⟨w.heap.size, 1, none⟩ = some (.slice A (dl r.num) c) ∧ W.cell? ⟨w.heap.size, 2, none⟩ = some (.int .i64 (signD (r.den : Int))) ∧ W.cell? ⟨w.heap.size, 3, none⟩ = some (.slice A2 (dl (r.den : Int)) c2) ∧ W.cell? ⟨w.heap.size + 1, 0, none⟩ = some (.int .i64 (signD s.num)) ∧ W.cell? ⟨w.heap.size + 1, 1, none⟩ = some (.slice B (dl s.num) d) ∧ W.cell? ⟨w.heap.size + 1, 2, none⟩ = some (.int .i64 (signD (s.den : Int))) ∧ W.cell? ⟨w.heap.size + 1, 3, none⟩ = some (.slice B2 (dl (s.den : Int)) d2)) (HSS.out _ (pd pr)) ?_
  intro hSd inv
  have HSd := Lib.hid hSd
  clear hSd
  have HB0 := Lib.hid (show Below v.heap.size v v.drew from pd pr)
  refine wpAnyG_take (i := 0) (v := ?_) rfl (by kernel_rfl) (by kernel_rfl) (by kernel_rfl) (by kernel_rfl) (by kernel_rfl) (by decide) (by decide) inv (fun _ _ _ h => h) (Or.inl ⟨by rfl, ?_⟩) HSd.out ?_; rotate_left; (focus (intro W y1; obtain ⟨y1, y2, y3, y4, y5, y6, y7, y8⟩ := y1; go_simp; (first | done | with_reducible rfl))); clear inv; intro inv; simp only [List.getElem_toArray, List.getElem_cons_zero, Act.put, List.setIfInBounds_toArray, List.set_cons_zero, List.set_cons_succ]
  refine wpAnyG_take (i := 1) (v := ?_) rfl (by kernel_rfl) (by kernel_rfl) (by kernel_rfl) (by kernel_rfl) (by kernel_rfl) (by decide) (by decide) inv (fun _ _ _ h => h) (Or.inl ⟨by rfl, ?_⟩) HSd.out ?_; rotate_left; (focus (intro W y1; obtain ⟨y1, y2, y3, y4, y5, y6, y7, y8⟩ := y1; go_simp; (first | done | with_reducible rfl))); clear inv; intro inv; simp only [List.getElem_toArray, List.getElem_cons_zero, List.getElem_cons_succ, Act.put, List.setIfInBounds_toArray, List.set_cons_zero, List.set_cons_succ]
  refine wpAnyG_take (i := 2) (v := ?_) rfl (by kernel_rfl) (by kernel_rfl) (by kernel_rfl) (by kernel_rfl) (by kernel_rfl) (by decide) (by decide) inv (fun _ _ _ h => h) (Or.inl ⟨by rfl, ?_⟩) HSd.out ?_; rotate_left; (focus (intro W y1; obtain ⟨y1, y2, y3, y4, y5, y6, y7, y8⟩ := y1; go_simp; (first | done | with_reducible rfl))); clear inv; intro inv; simp only [List.getElem_toArray, List.getElem_cons_zero, List.getElem_cons_succ, Act.put, List.setIfInBounds_toArray, List.set_cons_zero, List.set_cons_succ]
  refine wpAnyG_take (i := 3) (v := ?_) rfl (by kernel_rfl) (by kernel_rfl) (by kernel_rfl) (by kernel_rfl) (by kernel_rfl) (by decide) (by decide) inv (fun _ _ _ h => h) (Or.inl ⟨by rfl, ?_⟩) HSd.out ?_; rotate_left; (focus (intro W y1; obtain ⟨y1, y2, y3, y4, y5, y6, y7, y8⟩ := y1; go_simp; (first | done | with_reducible rfl))); clear inv; intro inv; simp only [List.getElem_toArray, List.getElem_cons_zero, List.getElem_cons_succ, Act.put, List.setIfInBounds_toArray, List.set_cons_zero, List.set_cons_succ]
  refine wpAnyG_take (i := 5) (v := ?_) rfl (by kernel_rfl) (by kernel_rfl) (by kernel_rfl) (by kernel_rfl) (by kernel_rfl) (by decide) (by decide) inv (fun _ _ _ h => h) (Or.inl ⟨by rfl, ?_⟩) HSd.out ?_; rotate_left; (focus (intro W y1; obtain ⟨y1, y2, y3, y4, y5, y6, y7, y8⟩ := y1; go_simp; (first | done | with_reducible rfl))); clear inv; intro inv; simp only [List.getElem_toArray, List.getElem_cons_zero, List.getElem_cons_succ, Act.put, List.setIfInBounds_toArray, List.set_cons_zero, List.set_cons_succ]
  refine wpAnyG_take (i := 6) (v := ?_) rfl (by kernel_rfl) (by kernel_rfl) (by kernel_rfl) (by kernel_rfl) (by kernel_rfl) (by decide) (by decide) inv (fun _ _ _ h => h) (Or.inl ⟨by rfl, ?_⟩) HSd.out ?_; rotate_left; (focus (intro W y1; obtain ⟨y1, y2, y3, y4, y5, y6, y7, y8⟩ := y1; go_simp; (first | done | with_reducible rfl))); clear inv; intro inv; simp only [List.getElem_toArray, List.getElem_cons_zero, List.getElem_cons_succ, Act.put, List.setIfInBounds_toArray, List.set_cons_zero, List.set_cons_succ]
  refine wpAnyG_take (i := 7) (v := ?_) rfl (by kernel_rfl) (by kernel_rfl) (by kernel_rfl) (by kernel_rfl) (by kernel_rfl) (by decide) (by decide) inv (fun _ _ _ h => h) (Or.inl ⟨by rfl, ?_⟩) HSd.out ?_; rotate_left; (focus (intro W y1; obtain ⟨y1, y2, y3, y4, y5, y6, y7, y8⟩ := y1; go_simp; (first | done | with_reducible rfl))); clear inv; intro inv; simp only [List.getElem_toArray, List.getElem_cons_zero, List.getElem_cons_succ, Act.put, List.setIfInBounds_toArray, List.set_cons_zero, List.set_cons_succ]
  refine wpAnyG_take (i := 8) (v := ?_) rfl (by kernel_rfl) (by kernel_rfl) (by kernel_rfl) (by kernel_rfl) (by kernel_rfl) (by decide) (by decide) inv (fun _ _ _ h => h) (Or.inl ⟨by rfl, ?_⟩) HSd.out ?_; rotate_left; (focus (intro W y1; obtain ⟨y1, y2, y3, y4, y5, y6, y7, y8⟩ := y1; go_simp; (first | done | with_reducible rfl))); clear inv; intro inv; simp only [List.getElem_toArray, List.getElem_cons_zero, List.getElem_cons_succ, Act.put, List.setIfInBounds_toArray, List.set_cons_zero, List.set_cons_succ]
  refine wpAnyG_take (i := 11) (v := ?_) rfl (by kernel_rfl) (by kernel_rfl) (by kernel_rfl) (by kernel_rfl) (by kernel_rfl) (by decide) (by decide) inv (fun _ _ _ h => h) (Or.inl ⟨by rfl, ?_⟩) HSd.out ?_; rotate_left; (focus (intro W y1; obtain ⟨y1, y2, y3, y4, y5, y6, y7, y8⟩ := y1; go_simp; (first | done | with_reducible rfl))); clear inv; intro inv; simp only [List.getElem_toArray, List.getElem_cons_zero, List.getElem_cons_succ, Act.put, List.setIfInBounds_toArray, List.set_cons_zero, List.set_cons_succ]
  refine wpAnyG_take (i := 12) (v := ?_) rfl (by kernel_rfl) (by kernel_rfl) (by kernel_rfl) (by kernel_rfl) (by kernel_rfl) (by decide) (by decide) inv (fun _ _ _ h => h) (Or.inl ⟨by rfl, ?_⟩) HSd.out ?_; rotate_left; (focus (intro W y1; obtain ⟨y1, y2, y3, y4, y5, y6, y7, y8⟩ := y1; go_simp; (first | done | with_reducible rfl))); clear inv; intro inv; simp only [List.getElem_toArray, List.getElem_cons_zero, List.getElem_cons_succ, Act.put, List.setIfInBounds_toArray, List.set_cons_zero, List.set_cons_succ]
  refine wpAnyG_take (i := 13) (v := ?_) rfl (by kernel_rfl) (by kernel_rfl) (by kernel_rfl) (by kernel_rfl) (by kernel_rfl) (by decide) (by decide) inv (fun _ _ _ h => h) (Or.inl ⟨by rfl, ?_⟩) HSd.out ?_; rotate_left; (focus (intro W y1; obtain ⟨y1, y2, y3, y4, y5, y6, y7, y8⟩ := y1; go_simp; (first | done | with_reducible rfl))); clear inv; intro inv; simp only [List.getElem_toArray, List.getElem_cons_zero, List.getElem_cons_succ, Act.put, List.setIfInBounds_toArray, List.set_cons_zero, List.set_cons_succ]
  refine wpAnyG_take (i := 14) (v := ?_) rfl (by kernel_rfl) (by kernel_rfl) (by kernel_rfl) (by kernel_rfl) (by kernel_rfl) (by decide) (by decide) inv (fun _ _ _ h => h) (Or.inl ⟨by rfl, ?_⟩) HSd.out ?_; rotate_left; (focus (intro W y1; obtain ⟨y1, y2, y3, y4, y5, y6, y7, y8⟩ := y1; go_simp; (first | done | with_reducible rfl))); clear inv; intro inv; simp only [List.getElem_toArray, List.getElem_cons_zero, List.getElem_cons_succ, Act.put, List.setIfInBounds_toArray, List.set_cons_zero, List.set_cons_succ]
  have HInv := Lib.hid inv
  clear inv
  refine wpAnyG_one (i := 4) (by kernel_rfl) rfl rfl fun K hK => ?_
  go_simp
  refine (HM1.out _ HB0.out).mono ?_
  rintro e w4 ⟨A5, c5, rfl, h5, hb⟩
  have HBx4 := Lib.hid (show Below v.heap.size v w4 from pt HB0.out hb)
  have H5 := Lib.hid h5
  clear h5
  unfold wideV
  refine hK.out _ _ (fun _ => HSS.out _ HBx4.out) ?_
  clear hK K hb
  replace HInv := Lib.hid (inv_one (i := 4) HInv.out (by kernel_rfl) (by decide))
  refine wpAnyG_one (i := 9) (by kernel_rfl) rfl rfl fun K hK => ?_
  go_simp
  refine (HM2.out _ HBx4.out).mono ?_
  rintro e w5 ⟨A6, c6, rfl, h6, hb⟩
  have HBx9 := Lib.hid (show Below v.heap.size v w5 from pt HBx4.out hb)
  have H6 := Lib.hid h6
  have H5 := Lib.hid (H5.out.past hb)
  clear h6
  unfold wideV
  refine hK.out _ _ (fun _ => HSS.out _ HBx9.out) ?_
  clear hK K hb
  replace HInv := Lib.hid (inv_one (i := 9) HInv.out (by kernel_rfl) (by decide))
  refine wpAnyG_one (i := 10) (by kernel_rfl) rfl rfl fun K hK => ?_
  go_simp
  refine (HAd.out _ A5 c5 A6 c6 H5.out H6.out).mono ?_
  rintro e w6 ⟨A9, c9, rfl, h9, hb⟩
  have HBx10 := Lib.hid (show Below v.heap.size v w6 from pt HBx9.out hb)
  have H9 := Lib.hid h9
  clear h9 H5 H6
  unfold wideV
  refine hK.out _ _ (fun _ => HSS.out _ HBx10.out) ?_
  clear hK K hb
  replace HInv := Lib.hid (inv_one (i := 10) HInv.out (by kernel_rfl) (by decide))
  refine wpAnyG_one (i := 15) (by kernel_rfl) rfl rfl fun K hK => ?_
  go_simp
  refine (HM3.out _ HBx10.out).mono ?_
  rintro e w7 ⟨Aa, ca, rfl, ha, hb⟩
  have HBx15 := Lib.hid (show Below v.heap.size v w7 from pt HBx10.out hb)
  have Ha := Lib.hid ha
  have H9 := Lib.hid (H9.out.past hb)
  clear ha
  unfold wideV
  refine hK.out _ _ (fun _ => HSS.out _ HBx15.out) ?_
  clear hK K hb
  replace HInv := Lib.hid (inv_one (i := 15) HInv.out (by kernel_rfl) (by decide))
  refine wpAnyG_one (i := 16) (by kernel_rfl) rfl rfl fun K hK => ?_
  go_simp
  refine (HMk.out _ A9 c9 Aa ca H9.out Ha.out).mono ?_
  rintro e w8 ⟨A7, c7, A8, c8, rfl, h8, hb⟩
  have HBx16 := Lib.hid (show Below v.heap.size v w8 from pt HBx15.out hb)
  have H8 := Lib.hid h8
  clear h8
  unfold ratV
  refine hK.out _ _ (fun _ => HSS.out _ HBx16.out) ?_
  clear hK K hb
  replace HInv := Lib.hid (inv_one (i := 16) HInv.out (by kernel_rfl) (by decide))
  have R7 := Lib.hid (X3.out.past HBx16.out)
  have Q7 := Lib.hid (pt Q3.out HBx16.out)
  have f0 := R7.out.frozen 0; have f1 := R7.out.frozen 1; have f2 := R7.out.frozen 2; have f3 := R7.out.frozen 3; have fl := R7.out.lt; have h0_ := R7.out.cellAt 0 rfl; have h1_ := R7.out.cellAt 1 rfl; have h2_ := R7.out.cellAt 2 rfl; have h3_ := R7.out.cellAt 3 rfl
  refine wpAnyG_one (i := 17) (by kernel_rfl) rfl rfl fun K hK => ?_
  go_simp
  refine hK.out _ _ (fun h => absurd h (by decide)) ?_
  clear hK K
  refine wpAnyG_done (by kernel_rfl) ?_
  clear HInv
  clear HSS HSd HB0
  clear f0 f1 f2 f3 fl h0_ h1_ h2_ h3_
  have hR := (((R7.out.set_ 0 (.int .i64 (signD (r + s).num))).set_ 1 (.slice A7 (dl (r + s).num) c7)).set_ 2 (.int .i64 (signD ((r + s).den : Int)))).set_ 3 (.slice A8 (dl ((r + s).den : Int)) c8)
  have hA := rat_far R7.out H8.out.1 (u0 := (.int .i64 (signD (r + s).num))) (u1 := (.slice A7 (dl (r + s).num) c7)) (u2 := (.int .i64 (signD ((r + s).den : Int)))) (u3 := (.slice A8 (dl ((r + s).den : Int)) c8))
  have hA2 := rat_far R7.out H8.out.2 (u0 := (.int .i64 (signD (r + s).num))) (u1 := (.slice A7 (dl (r + s).num) c7)) (u2 := (.int .i64 (signD ((r + s).den : Int)))) (u3 := (.slice A8 (dl ((r + s).den : Int)) c8))
  have hQ := ps (ps (ps (ps Q7.out (p := ⟨w.heap.size + 1 + 1, 0, none⟩) (u := (.int .i64 (signD (r + s).num))) (Nat.le_add_right _ 2)) (p := ⟨w.heap.size + 1 + 1, 1, none⟩) (u := (.slice A7 (dl (r + s).num) c7)) (Nat.le_add_right _ 2)) (p := ⟨w.heap.size + 1 + 1, 2, none⟩) (u := (.int .i64 (signD ((r + s).den : Int)))) (Nat.le_add_right _ 2)) (p := ⟨w.heap.size + 1 + 1, 3, none⟩) (u := (.slice A8 (dl ((r + s).den : Int)) c8)) (Nat.le_add_right _ 2)
  generalize (((w8.setCell ⟨w.heap.size + 1 + 1, 0, none⟩ (.int .i64 (signD (r + s).num))).setCell ⟨w.heap.size + 1 + 1, 1, none⟩ (.slice A7 (dl (r + s).num) c7)).setCell ⟨w.heap.size + 1 + 1, 2, none⟩ (.int .i64 (signD ((r + s).den : Int)))).setCell ⟨w.heap.size + 1 + 1, 3, none⟩ (.slice A8 (dl ((r + s).den : Int)) c8) = wz at *
  have g0 := hR.cellAt 0 rfl
  have g1 := hR.cellAt 1 rfl
  have g2 := hR.cellAt 2 rfl
  have g3 := hR.cellAt 3 rfl
  go_wp2
  exact bodyPost_ret (v := .agg #[.int .i64 (signD (r + s).num), .slice A7 (dl (r + s).num) c7, .int .i64 (signD ((r + s).den : Int)), .slice A8 (dl ((r + s).den : Int)) c8]) (by simp [results, Tryz.results52, go_sem, g0, g1, g2, g3]) rfl ⟨A7, c7, A8, c8, rfl, ⟨hA, hA2⟩, hQ⟩

set_option maxHeartbeats 16000000 in
set_option maxRecDepth 100000 in
theorem ratioCmp_any (r s : Rat) (K : Nat) (A : Option Addr) (c : Nat) (A2 : Option Addr) (c2 : Nat) (B : Option Addr) (d : Nat) (B2 : Option Addr) (d2 : Nat) (w : World) (hr : RatAt w A c A2 c2 r) (hs : RatAt w B d B2 d2 s) (h1 : RB K r) (h2 : RB K s) (hK : 4 * K + 8 ≤ wL) :
    Calls Tryz.prog 23 #[ratV r A c A2 c2, ratV s B d B2 d2] w fun e w' => e = .returned (.int .i64 (signD (r.num * s.den - s.num * r.den))) ∧ Below w.heap.size w w' := by
  have HR := Lib.hid hr
  have HS := Lib.hid hs
  have HB := Lib.hid (rb_sums h1 h2 hK)
  have HK := Lib.hid (And.intro h1 (And.intro h2 hK))
  clear hr hs h1 h2 hK
  unfold ratV
  go_enter Tryz.func23, Tryz.ntmps23
  have X1 := Lib.hid (show Blk ((w.alloc (.cells #[.int .i64 (signD r.num), .slice A (dl r.num) c, .int .i64 (signD (r.den : Int)), .slice A2 (dl (r.den : Int)) c2] 55)).alloc (.cells #[.int .i64 (signD s.num), .slice B (dl s.num) d, .int .i64 (signD (s.den : Int)), .slice B2 (dl (s.den : Int)) d2] 55)) w.heap.size 55 #[.int .i64 (signD r.num), .slice A (dl r.num) c, .int .i64 (signD (r.den : Int)), .slice A2 (dl (r.den : Int)) c2] from (Blk.newAt rfl).alloc)
  have X2 := Lib.hid (show Blk ((w.alloc (.cells #[.int .i64 (signD r.num), .slice A (dl r.num) c, .int .i64 (signD (r.den : Int)), .slice A2 (dl (r.den : Int)) c2] 55)).alloc (.cells #[.int .i64 (signD s.num), .slice B (dl s.num) d, .int .i64 (signD (s.den : Int)), .slice B2 (dl (s.den : Int)) d2] 55)) (w.heap.size + 1) 55 #[.int .i64 (signD s.num), .slice B (dl s.num) d, .int .i64 (signD (s.den : Int)), .slice B2 (dl (s.den : Int)) d2] from (Blk.newAt (by simp)))
  have Q3 := Lib.hid (show Below w.heap.size w ((w.alloc (.cells #[.int .i64 (signD r.num), .slice A (dl r.num) c, .int .i64 (signD (r.den : Int)), .slice A2 (dl (r.den : Int)) c2] 55)).alloc (.cells #[.int .i64 (signD s.num), .slice B (dl s.num) d, .int .i64 (signD (s.den : Int)), .slice B2 (dl (s.den : Int)) d2] 55)) from pa (pa pr))
  go_wp2
  generalize ((w.alloc (.cells #[.int .i64 (signD r.num), .slice A (dl r.num) c, .int .i64 (signD (r.den : Int)), .slice A2 (dl (r.den : Int)) c2] 55)).alloc (.cells #[.int .i64 (signD s.num), .slice B (dl s.num) d, .int .i64 (signD (s.den : Int)), .slice B2 (dl (s.den : Int)) d2] 55)) = v at *
  have HR := Lib.hid (HR.out.past Q3.out)
  have HS := Lib.hid (HS.out.past Q3.out)
  have HM1 := Lib.hid (show ∀ W, Below v.heap.size v W → Calls Tryz.prog 62 #[.agg #[.int .i64 (signD r.num), .slice A (dl r.num) c], .agg #[.int .i64 (signD (s.den : Int)), .slice B2 (dl (s.den : Int)) d2]] W (WideRet W (r.num * (s.den : Int))) from fun W hW => wideMul_any r.num (s.den : Int) A B2 c d2 W (HR.out.1.past hW) (HS.out.2.past hW) HB.out.1.1)
  have HM2 := Lib.hid (show ∀ W, Below v.heap.size v W → Calls Tryz.prog 62 #[.agg #[.int .i64 (signD s.num), .slice B (dl s.num) d], .agg #[.int .i64 (signD (r.den : Int)), .slice A2 (dl (r.den : Int)) c2]] W (WideRet W (s.num * (r.den : Int))) from fun W hW => wideMul_any s.num (r.den : Int) B A2 d c2 W (HS.out.1.past hW) (HR.out.2.past hW) HB.out.1.2.1)
  have HCm := Lib.hid (show ∀ W A5 c5 A6 c6, WideAt W A5 c5 (r.num * (s.den : Int)) → WideAt W A6 c6 (s.num * (r.den : Int)) → Calls Tryz.prog 61 #[.agg #[.int .i64 (signD (r.num * (s.den : Int))), .slice A5 (dl (r.num * (s.den : Int))) c5], .agg #[.int .i64 (signD (s.num * (r.den : Int))), .slice A6 (dl (s.num * (r.den : Int))) c6]] W fun e w' => e = .returned (.int .i64 (signD ((r.num * (s.den : Int)) - (s.num * (r.den : Int))))) ∧ Below W.heap.size W w' from fun W A5 c5 A6 c6 h5 h6 => wideCmp_any (r.num * (s.den : Int)) (s.num * (r.den : Int)) A5 A6 c5 c6 W h5 h6 HB.out.2.2.1.1 HB.out.2.2.1.2)
  have HSS := Lib.hid (show ∀ W, Below v.heap.size v W → W.cell? ⟨w.heap.size, 0, none⟩ = some (.int .i64 (signD r.num)) ∧ W.cell? ⟨w.heap.size, 1, none⟩ = some (.slice A (dl r.num) c) ∧ W.cell? ⟨w.heap.size, 2, none⟩ = some (.int .i64 (signD (r.den : Int))) ∧ W.cell? ⟨w.heap.size, 3, none⟩ = some (.slice A2 (dl (r.den : Int)) c2) ∧ W.cell? ⟨w.heap.size + 1, 0, none⟩ = some (.int .i64 (signD s.num)) ∧ W.cell? ⟨w.heap.size + 1, 1, none⟩ = some (.slice B (dl s.num) d) ∧ W.cell? ⟨w.heap.size + 1, 2, none⟩ = some (.int .i64 (signD (s.den : Int))) ∧ W.cell? ⟨w.heap.size + 1, 3, none⟩ = some (.slice B2 (dl (s.den : Int)) d2) from fun W hW => ⟨(X1.out.past hW).cellAt 0 rfl, (X1.out.past hW).cellAt 1 rfl, (X1.out.past hW).cellAt 2 rfl, (X1.out.past hW).cellAt 3 rfl, (X2.out.past hW).cellAt 0 rfl, (X2.out.past hW).cellAt 1 rfl, (X2.out.past hW).cellAt 2 rfl, (X2.out.past hW).cellAt 3 rfl⟩)
  refine wp_region_G 11 follows_mixed (fun W => W.cell? ⟨w.heap.size, 0, none⟩ = some (.int .i64 (signD r.num)) ∧ W.cell? ⟨w.heap.size, 1, none⟩ = some (.slice A (dl r.num) c) ∧ W.cell? ⟨w.heap.size, 2, none⟩ = some (.int .i64 (signD (r.den : Int))) ∧ W.cell? ⟨w.heap.size, 3, none⟩ = some (.slice A2 (dl (r.den : Int)) c2) ∧ W.cell? ⟨w.heap.size + 1, 0, none⟩ = some (.int .i64 (signD s.num)) ∧ W.cell? ⟨w.heap.size + 1, 1, none⟩ = some (.slice B (dl s.num) d) ∧ W.cell? ⟨w.heap.size + 1, 2, none⟩ = some (.int .i64 (signD (s.den : Int))) ∧ W.cell? ⟨w.heap.size + 1, 3, none⟩ = some (.slice B2 (dl (s.den : Int)) d2)) (HSS.out _ (pd pr)) ?_
  intro hSd inv
  have HSd := Lib.hid hSd
  clear hSd
  have HB0 := Lib.hid (show Below v.heap.size v v.drew from pd pr)
  refine wpAnyG_take (i := 0) (v := ?_) rfl (by kernel_rfl) (by kernel_rfl) (by kernel_rfl) (by kernel_rfl) (by kernel_rfl) (by decide) (by decide) inv (fun _ _ _ h => h) (Or.inl ⟨by rfl, ?_⟩) HSd.out ?_; rotate_left; (focus (intro W y1; obtain ⟨y1, y2, y3, y4, y5, y6, y7, y8⟩ := y1; go_simp; (first | done | with_reducible rfl))); clear inv; intro inv; simp only [List.getElem_toArray, List.getElem_cons_zero, Act.put, List.setIfInBounds_toArray, List.set_cons_zero, List.set_cons_succ]
  refine wpAnyG_take (i := 1) (v := ?_) rfl (by kernel_rfl) (by kernel_rfl) (by kernel_rfl) (by kernel_rfl) (by kernel_rfl) (by decide) (by decide) inv (fun _ _ _ h => h) (Or.inl ⟨by rfl, ?_⟩) HSd.out ?_; rotate_left; (focus (intro W y1; obtain ⟨y1, y2, y3, y4, y5, y6, y7, y8⟩ := y1; go_simp; (first | done | with_reducible rfl))); clear inv; intro inv; simp only [List.getElem_toArray, List.getElem_cons_zero, List.getElem_cons_succ, Act.put, List.setIfInBounds_toArray, List.set_cons_zero, List.set_cons_succ]
  refine wpAnyG_take (i := 2) (v := ?_) rfl (by kernel_rfl) (by kernel_rfl) (by kernel_rfl) (by kernel_rfl) (by kernel_rfl) (by decide) (by decide) inv (fun _ _ _ h => h) (Or.inl ⟨by rfl, ?_⟩) HSd.out ?_; rotate_left; (focus (intro W y1; obtain ⟨y1, y2, y3, y4, y5, y6, y7, y8⟩ := y1; go_simp; (first | done | with_reducible rfl))); clear inv; intro inv; simp only [List.getElem_toArray, List.getElem_cons_zero, List.getElem_cons_succ, Act.put, List.setIfInBounds_toArray, List.set_cons_zero, List.set_cons_succ]
  refine wpAnyG_take (i := 3) (v := ?_) rfl (by kernel_rfl) (by kernel_rfl) (by kernel_rfl) (by kernel_rfl) (by kernel_rfl) (by decide) (by decide) inv (fun _ _ _ h => h) (Or.inl ⟨by rfl, ?_⟩) HSd.out ?_; rotate_left; (focus (intro W y1; obtain ⟨y1, y2, y3, y4, y5, y6, y7, y8⟩ := y1; go_simp; (first | done | with_reducible rfl))); clear inv; intro inv; simp only [List.getElem_toArray, List.getElem_cons_zero, List.getElem_cons_succ, Act.put, List.setIfInBounds_toArray, List.set_cons_zero, List.set_cons_succ]
  refine wpAnyG_take (i := 5) (v := ?_) rfl (by kernel_rfl) (by kernel_rfl) (by kernel_rfl) (by kernel_rfl) (by kernel_rfl) (by decide) (by decide) inv (fun _ _ _ h => h) (Or.inl ⟨by rfl, ?_⟩) HSd.out ?_; rotate_left; (focus (intro W y1; obtain ⟨y1, y2, y3, y4, y5, y6, y7, y8⟩ := y1; go_simp; (first | done | with_reducible rfl))); clear inv; intro inv; simp only [List.getElem_toArray, List.getElem_cons_zero, List.getElem_cons_succ, Act.put, List.setIfInBounds_toArray, List.set_cons_zero, List.set_cons_succ]
  refine wpAnyG_take (i := 6) (v := ?_) rfl (by kernel_rfl) (by kernel_rfl) (by kernel_rfl) (by kernel_rfl) (by kernel_rfl) (by decide) (by decide) inv (fun _ _ _ h => h) (Or.inl ⟨by rfl, ?_⟩) HSd.out ?_; rotate_left; (focus (intro W y1; obtain ⟨y1, y2, y3, y4, y5, y6, y7, y8⟩ := y1; go_simp; (first | done | with_reducible rfl))); clear inv; intro inv; simp only [List.getElem_toArray, List.getElem_cons_zero, List.getElem_cons_succ, Act.put, List.setIfInBounds_toArray, List.set_cons_zero, List.set_cons_succ]
  refine wpAnyG_take (i := 7) (v := ?_) rfl (by kernel_rfl) (by kernel_rfl) (by kernel_rfl) (by kernel_rfl) (by kernel_rfl) (by decide) (by decide) inv (fun _ _ _ h => h) (Or.inl ⟨by rfl, ?_⟩) HSd.out ?_; rotate_left; (focus (intro W y1; obtain ⟨y1, y2, y3, y4, y5, y6, y7, y8⟩ := y1; go_simp; (first | done | with_reducible rfl))); clear inv; intro inv; simp only [List.getElem_toArray, List.getElem_cons_zero, List.getElem_cons_succ, Act.put, List.setIfInBounds_toArray, List.set_cons_zero, List.set_cons_succ]
  refine wpAnyG_take (i := 8) (v := ?_) rfl (by kernel_rfl) (by kernel_rfl) (by kernel_rfl) (by kernel_rfl) (by kernel_rfl) (by decide) (by decide) inv (fun _ _ _ h => h) (Or.inl ⟨by rfl, ?_⟩) HSd.out ?_; rotate_left; (focus (intro W y1; obtain ⟨y1, y2, y3, y4, y5, y6, y7, y8⟩ := y1; go_simp; (first | done | with_reducible rfl))); clear inv; intro inv; simp only [List.getElem_toArray, List.getElem_cons_zero, List.getElem_cons_succ, Act.put, List.setIfInBounds_toArray, List.set_cons_zero, List.set_cons_succ]
  have HInv := Lib.hid inv
  clear inv
  refine wpAnyG_one (i := 4) (by kernel_rfl) rfl rfl fun K hK => ?_
  go_simp
  refine (HM1.out _ HB0.out).mono ?_
  rintro e w4 ⟨A5, c5, rfl, h5, hb⟩
  have HBx4 := Lib.hid (show Below v.heap.size v w4 from pt HB0.out hb)
  have H5 := Lib.hid h5
  clear h5
  unfold wideV
  refine hK.out _ _ (fun _ => HSS.out _ HBx4.out) ?_
  clear hK K hb
  replace HInv := Lib.hid (inv_one (i := 4) HInv.out (by kernel_rfl) (by decide))
  refine wpAnyG_one (i := 9) (by kernel_rfl) rfl rfl fun K hK => ?_
  go_simp
  refine (HM2.out _ HBx4.out).mono ?_
  rintro e w5 ⟨A6, c6, rfl, h6, hb⟩
  have HBx9 := Lib.hid (show Below v.heap.size v w5 from pt HBx4.out hb)
  have H6 := Lib.hid h6
  have H5 := Lib.hid (H5.out.past hb)
  clear h6
  unfold wideV
  refine hK.out _ _ (fun _ => HSS.out _ HBx9.out) ?_
  clear hK K hb
  replace HInv := Lib.hid (inv_one (i := 9) HInv.out (by kernel_rfl) (by decide))
  refine wpAnyG_one (i := 10) (by kernel_rfl) rfl rfl fun K hK => ?_
  go_simp
  refine (HCm.out _ A5 c5 A6 c6 H5.out H6.out).mono ?_
  rintro e w6 ⟨rfl, hb⟩
  have HBx10 := Lib.hid (show Below v.heap.size v w6 from pt HBx9.out hb)
  refine hK.out _ _ (fun _ => HSS.out _ HBx10.out) ?_
  clear hK K hb
  replace HInv := Lib.hid (inv_one (i := 10) HInv.out (by kernel_rfl) (by decide))
  refine wpAnyG_one (i := 11) (by kernel_rfl) rfl rfl fun K hK => ?_
  go_simp
  refine hK.out _ _ (fun h => absurd h (by decide)) ?_
  clear hK K
  refine wpAnyG_done (by kernel_rfl) ?_
  clear HInv
  clear HSS HSd HB0
  go_wp2
  go_ret
  exact ⟨rfl, pt Q3.out HBx10.out⟩

set_option maxHeartbeats 16000000 in
set_option maxRecDepth 100000 in
theorem ratioSub_any (r s : Rat) (K : Nat) (A : Option Addr) (c : Nat) (A2 : Option Addr) (c2 : Nat) (B : Option Addr) (d : Nat) (B2 : Option Addr) (d2 : Nat) (w : World) (hr : RatAt w A c A2 c2 r) (hs : RatAt w B d B2 d2 s) (h1 : RB K r) (h2 : RB K s) (hK : 4 * K + 8 ≤ wL) :
    Calls Tryz.prog 96 #[ratV r A c A2 c2, ratV s B d B2 d2] w (RatRet w (r - s)) := by
  have HR := Lib.hid hr
  have HS := Lib.hid hs
  have HB := Lib.hid (rb_sums h1 h2 hK)
  have HK := Lib.hid (And.intro h1 (And.intro h2 hK))
  clear hr hs h1 h2 hK
  unfold ratV
  go_enter Tryz.func96, Tryz.ntmps96
  have X1 := Lib.hid (show Blk (((w.alloc (.cells #[.int .i64 (signD r.num), .slice A (dl r.num) c, .int .i64 (signD (r.den : Int)), .slice A2 (dl (r.den : Int)) c2] 55)).alloc (.cells #[.int .i64 (signD s.num), .slice B (dl s.num) d, .int .i64 (signD (s.den : Int)), .slice B2 (dl (s.den : Int)) d2] 55)).alloc (.cells #[.int .i64 0, .slice none 0 0, .int .i64 0, .slice none 0 0] 55)) w.heap.size 55 #[.int .i64 (signD r.num), .slice A (dl r.num) c, .int .i64 (signD (r.den : Int)), .slice A2 (dl (r.den : Int)) c2] from (Blk.newAt rfl).alloc.alloc)
  have X2 := Lib.hid (show Blk (((w.alloc (.cells #[.int .i64 (signD r.num), .slice A (dl r.num) c, .int .i64 (signD (r.den : Int)), .slice A2 (dl (r.den : Int)) c2] 55)).alloc (.cells #[.int .i64 (signD s.num), .slice B (dl s.num) d, .int .i64 (signD (s.den : Int)), .slice B2 (dl (s.den : Int)) d2] 55)).alloc (.cells #[.int .i64 0, .slice none 0 0, .int .i64 0, .slice none 0 0] 55)) (w.heap.size + 1) 55 #[.int .i64 (signD s.num), .slice B (dl s.num) d, .int .i64 (signD (s.den : Int)), .slice B2 (dl (s.den : Int)) d2] from (Blk.newAt (by simp)).alloc)
  have X3 := Lib.hid (show Blk (((w.alloc (.cells #[.int .i64 (signD r.num), .slice A (dl r.num) c, .int .i64 (signD (r.den : Int)), .slice A2 (dl (r.den : Int)) c2] 55)).alloc (.cells #[.int .i64 (signD s.num), .slice B (dl s.num) d, .int .i64 (signD (s.den : Int)), .slice B2 (dl (s.den : Int)) d2] 55)).alloc (.cells #[.int .i64 0, .slice none 0 0, .int .i64 0, .slice none 0 0] 55)) (w.heap.size + 1 + 1) 55 #[.int .i64 0, .slice none 0 0, .int .i64 0, .slice none 0 0] from Blk.newAt (by simp))
  have Q3 := Lib.hid (show Below w.heap.size w (((w.alloc (.cells #[.int .i64 (signD r.num), .slice A (dl r.num) c, .int .i64 (signD (r.den : Int)), .slice A2 (dl (r.den : Int)) c2] 55)).alloc (.cells #[.int .i64 (signD s.num), .slice B (dl s.num) d, .int .i64 (signD (s.den : Int)), .slice B2 (dl (s.den : Int)) d2] 55)).alloc (.cells #[.int .i64 0, .slice none 0 0, .int .i64 0, .slice none 0 0] 55)) from pa (pa (pa pr)))
  go_wp2
  generalize (((w.alloc (.cells #[.int .i64 (signD r.num), .slice A (dl r.num) c, .int .i64 (signD (r.den : Int)), .slice A2 (dl (r.den : Int)) c2] 55)).alloc (.cells #[.int .i64 (signD s.num), .slice B (dl s.num) d, .int .i64 (signD (s.den : Int)), .slice B2 (dl (s.den : Int)) d2] 55)).alloc (.cells #[.int .i64 0, .slice none 0 0, .int .i64 0, .slice none 0 0] 55)) = v at *
  have HR := Lib.hid (HR.out.past Q3.out)
  have HS := Lib.hid (HS.out.past Q3.out)
  have HNg := Lib.hid (show ∀ W, Below v.heap.size v W → Calls Tryz.prog 129 #[.agg #[.int .i64 (signD s.num), .slice B (dl s.num) d, .int .i64 (signD (s.den : Int)), .slice B2 (dl (s.den : Int)) d2]] W (RatRet W (-s)) from fun W hW => ratioNeg_any s B d B2 d2 W (HS.out.past hW))
  have HAd := Lib.hid (show ∀ W A5 c5 A6 c6, Below v.heap.size v W → RatAt W A5 c5 A6 c6 (-s) → Calls Tryz.prog 52 #[.agg #[.int .i64 (signD r.num), .slice A (dl r.num) c, .int .i64 (signD (r.den : Int)), .slice A2 (dl (r.den : Int)) c2], .agg #[.int .i64 (signD (-s).num), .slice A5 (dl (-s).num) c5, .int .i64 (signD ((-s).den : Int)), .slice A6 (dl ((-s).den : Int)) c6]] W (RatRet W (r - s)) from fun W A5 c5 A6 c6 hW h5 => by
    have zz := ratioAdd_any r (-s) K A c A2 c2 A5 c5 A6 c6 W (HR.out.past hW) h5 HK.out.1 (rb_neg HK.out.2.1) HK.out.2.2
    rw [← Rat.sub_eq_add_neg] at zz
    exact zz)
  have HSS := Lib.hid (show ∀ W, Below v.heap.size v W → W.cell? ⟨w.heap.size, 0, none⟩ = some (.int .i64 (signD r.num)) ∧ W.cell? ⟨w.heap.size, 1, none⟩ = some (.slice A (dl r.num) c) ∧ W.cell? ⟨w.heap.size, 2, none⟩ = some (.int .i64 (signD (r.den : Int))) ∧ W.cell? ⟨w.heap.size, 3, none⟩ = some (.slice A2 (dl (r.den : Int)) c2) ∧ W.cell? ⟨w.heap.size + 1, 0, none⟩ = some (.int .i64 (signD s.num)) ∧ W.cell? ⟨w.heap.size + 1, 1, none⟩ = some (.slice B (dl s.num) d) ∧ W.cell? ⟨w.heap.size + 1, 2, none⟩ = some (.int .i64 (signD (s.den : Int))) ∧ W.cell? ⟨w.heap.size + 1, 3, none⟩ = some (.slice B2 (dl (s.den : Int)) d2) from fun W hW => ⟨(X1.out.past hW).cellAt 0 rfl, (X1.out.past hW).cellAt 1 rfl, (X1.out.past hW).cellAt 2 rfl, (X1.out.past hW).cellAt 3 rfl, (X2.out.past hW).cellAt 0 rfl, (X2.out.past hW).cellAt 1 rfl, (X2.out.past hW).cellAt 2 rfl, (X2.out.past hW).cellAt 3 rfl⟩)
  refine wp_region_G 4 follows_mixed (fun W => W.cell? ⟨w.heap.size, 0, none⟩ = some (.int .i64 (signD r.num)) ∧ W.cell? ⟨w.heap.size, 1, none⟩ = some (.slice A (dl r.num) c) ∧ W.cell? ⟨w.heap.size, 2, none⟩ = some (.int .i64 (signD (r.den : Int))) ∧ W.cell? ⟨w.heap.size, 3, none⟩ = some (.slice A2 (dl (r.den : Int)) c2) ∧ W.cell? ⟨w.heap.size + 1, 0, none⟩ = some (.int .i64 (signD s.num)) ∧ W.cell? ⟨w.heap.size + 1, 1, none⟩ = some (.slice B (dl s.num) d) ∧ W.cell? ⟨w.heap.size + 1, 2, none⟩ = some (.int .i64 (signD (s.den : Int))) ∧ W.cell? ⟨w.heap.size + 1, 3, none⟩ = some (.slice B2 (dl (s.den : Int)) d2)) (HSS.out _ (pd pr)) ?_
  intro hSd inv
  have HSd := Lib.hid hSd
  clear hSd
  have HB0 := Lib.hid (show Below v.heap.size v v.drew from pd pr)
  refine wpAnyG_take (i := 0) (v := ?_) rfl (by kernel_rfl) (by kernel_rfl) (by kernel_rfl) (by kernel_rfl) (by kernel_rfl) (by decide) (by decide) inv (fun _ _ _ h => h) (Or.inl ⟨by rfl, ?_⟩) HSd.out ?_; rotate_left; (focus (intro W y1; obtain ⟨y1, y2, y3, y4, y5, y6, y7, y8⟩ := y1; go_simp; (first | done | with_reducible rfl))); clear inv; intro inv; simp only [List.getElem_toArray, List.getElem_cons_zero, Act.put, List.setIfInBounds_toArray, List.set_cons_zero, List.set_cons_succ]
  refine wpAnyG_take (i := 1) (v := ?_) rfl (by kernel_rfl) (by kernel_rfl) (by kernel_rfl) (by kernel_rfl) (by kernel_rfl) (by decide) (by decide) inv (fun _ _ _ h => h) (Or.inl ⟨by rfl, ?_⟩) HSd.out ?_; rotate_left; (focus (intro W y1; obtain ⟨y1, y2, y3, y4, y5, y6, y7, y8⟩ := y1; go_simp; (first | done | with_reducible rfl))); clear inv; intro inv; simp only [List.getElem_toArray, List.getElem_cons_zero, List.getElem_cons_succ, Act.put, List.setIfInBounds_toArray, List.set_cons_zero, List.set_cons_succ]
  have HInv := Lib.hid inv
  clear inv
  refine wpAnyG_one (i := 2) (by kernel_rfl) rfl rfl fun K hK => ?_
  go_simp
  refine (HNg.out _ HB0.out).mono ?_
  rintro e w4 ⟨A5, c5, A6, c6, rfl, h5, hb⟩
  have HBx2 := Lib.hid (show Below v.heap.size v w4 from pt HB0.out hb)
  have H5 := Lib.hid h5
  clear h5
  unfold ratV
  refine hK.out _ _ (fun _ => HSS.out _ HBx2.out) ?_
  clear hK K hb
  replace HInv := Lib.hid (inv_one (i := 2) HInv.out (by kernel_rfl) (by decide))
  refine wpAnyG_one (i := 3) (by kernel_rfl) rfl rfl fun K hK => ?_
  go_simp
  refine (HAd.out _ A5 c5 A6 c6 HBx2.out H5.out).mono ?_
  rintro e w6 ⟨A7, c7, A8, c8, rfl, h8, hb⟩
  have HBx3 := Lib.hid (show Below v.heap.size v w6 from pt HBx2.out hb)
  have H8 := Lib.hid h8
  clear h8
  unfold ratV
  refine hK.out _ _ (fun _ => HSS.out _ HBx3.out) ?_
  clear hK K hb
  replace HInv := Lib.hid (inv_one (i := 3) HInv.out (by kernel_rfl) (by decide))
  have R7 := Lib.hid (X3.out.past HBx3.out)
  have Q7 := Lib.hid (pt Q3.out HBx3.out)
  have f0 := R7.out.frozen 0; have f1 := R7.out.frozen 1; have f2 := R7.out.frozen 2; have f3 := R7.out.frozen 3; have fl := R7.out.lt; have h0_ := R7.out.cellAt 0 rfl; have h1_ := R7.out.cellAt 1 rfl; have h2_ := R7.out.cellAt 2 rfl; have h3_ := R7.out.cellAt 3 rfl
  refine wpAnyG_one (i := 4) (by kernel_rfl) rfl rfl fun K hK => ?_
  go_simp
  refine hK.out _ _ (fun h => absurd h (by decide)) ?_
  clear hK K
  refine wpAnyG_done (by kernel_rfl) ?_
  clear HInv
  clear HSS HSd HB0
  clear f0 f1 f2 f3 fl h0_ h1_ h2_ h3_
  have hR := (((R7.out.set_ 0 (.int .i64 (signD (r - s).num))).set_ 1 (.slice A7 (dl (r - s).num) c7)).set_ 2 (.int .i64 (signD ((r - s).den : Int)))).set_ 3 (.slice A8 (dl ((r - s).den : Int)) c8)
  have hA := rat_far R7.out H8.out.1 (u0 := (.int .i64 (signD (r - s).num))) (u1 := (.slice A7 (dl (r - s).num) c7)) (u2 := (.int .i64 (signD ((r - s).den : Int)))) (u3 := (.slice A8 (dl ((r - s).den : Int)) c8))
  have hA2 := rat_far R7.out H8.out.2 (u0 := (.int .i64 (signD (r - s).num))) (u1 := (.slice A7 (dl (r - s).num) c7)) (u2 := (.int .i64 (signD ((r - s).den : Int)))) (u3 := (.slice A8 (dl ((r - s).den : Int)) c8))
  have hQ := ps (ps (ps (ps Q7.out (p := ⟨w.heap.size + 1 + 1, 0, none⟩) (u := (.int .i64 (signD (r - s).num))) (Nat.le_add_right _ 2)) (p := ⟨w.heap.size + 1 + 1, 1, none⟩) (u := (.slice A7 (dl (r - s).num) c7)) (Nat.le_add_right _ 2)) (p := ⟨w.heap.size + 1 + 1, 2, none⟩) (u := (.int .i64 (signD ((r - s).den : Int)))) (Nat.le_add_right _ 2)) (p := ⟨w.heap.size + 1 + 1, 3, none⟩) (u := (.slice A8 (dl ((r - s).den : Int)) c8)) (Nat.le_add_right _ 2)
  generalize (((w6.setCell ⟨w.heap.size + 1 + 1, 0, none⟩ (.int .i64 (signD (r - s).num))).setCell ⟨w.heap.size + 1 + 1, 1, none⟩ (.slice A7 (dl (r - s).num) c7)).setCell ⟨w.heap.size + 1 + 1, 2, none⟩ (.int .i64 (signD ((r - s).den : Int)))).setCell ⟨w.heap.size + 1 + 1, 3, none⟩ (.slice A8 (dl ((r - s).den : Int)) c8) = wz at *
  have g0 := hR.cellAt 0 rfl
  have g1 := hR.cellAt 1 rfl
  have g2 := hR.cellAt 2 rfl
  have g3 := hR.cellAt 3 rfl
  go_wp2
  exact bodyPost_ret (v := .agg #[.int .i64 (signD (r - s).num), .slice A7 (dl (r - s).num) c7, .int .i64 (signD ((r - s).den : Int)), .slice A8 (dl ((r - s).den : Int)) c8]) (by simp [results, Tryz.results96, go_sem, g0, g1, g2, g3]) rfl ⟨A7, c7, A8, c8, rfl, ⟨hA, hA2⟩, hQ⟩

end Go.Proofs.YtpdkbhjcpddnpaaGreatDoor
end
