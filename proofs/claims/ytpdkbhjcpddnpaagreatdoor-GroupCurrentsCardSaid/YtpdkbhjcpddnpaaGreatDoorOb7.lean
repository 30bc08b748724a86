/- Contract: what a source gives less what falls over its impedance, as a ratio. Printed by a program (gen_drop.py). -/
import Derived.Test.YtpdkbhjcpddnpaaGreatDoorOb6

section
namespace Go.Proofs.YtpdkbhjcpddnpaaGreatDoor
open Go.RowKit
attribute [local go_sem ↓] Go.wp_at_zero Go.wp_at_succ

theorem rb_mono {L M : Nat} {r : Rat} (h : L ≤ M) (g : RB L r) : RB M r := ⟨Nat.le_trans g.1 h, Nat.le_trans g.2 h⟩
def I64s (n : Int) : Prop := -9223372036854775807 ≤ n ∧ n ≤ 9223372036854775807
set_option maxHeartbeats 16000000 in
set_option maxRecDepth 100000 in
theorem drop_any (a b sn sd v n d : Int) (w : World) (hsn : I64s sn) (hsd : I64s sd) (hs0 : sd ≠ 0) (hv : I64s v) (hn : I64s n) (hd : I64s d) (hd0 : d ≠ 0) :
    Calls Tryz.prog 51 #[.agg #[.int .i64 a, .int .i64 b, .int .i64 sn, .int .i64 sd], .int .i64 v, .agg #[.int .i64 n, .int .i64 d]] w (RatRet w ((v : Rat) - ((Rat.divInt sn sd) * (Rat.divInt n d)))) := by
  have HI := Lib.hid (show ∀ W, Calls Tryz.prog 25 #[.int .i64 v] W (RatRet W (v : Rat)) from fun W => ratioInt_any v W hv.1 hv.2)
  have HF1 := Lib.hid (show ∀ W, Calls Tryz.prog 22 #[.agg #[.int .i64 sn, .int .i64 sd]] W (RatRet W (Rat.divInt sn sd)) from fun W => ratioFrom_any sn sd W hsn hsd hs0)
  have HF2 := Lib.hid (show ∀ W, Calls Tryz.prog 22 #[.agg #[.int .i64 n, .int .i64 d]] W (RatRet W (Rat.divInt n d)) from fun W => ratioFrom_any n d W hn hd hd0)
  have hb1 : RB 3 (Rat.divInt sn sd) := rb_of ⟨by have := hsn.1; omega, hsn.2⟩ ⟨by have := hsd.1; omega, hsd.2⟩ hs0
  have hb2 : RB 3 (Rat.divInt n d) := rb_of ⟨by have := hn.1; omega, hn.2⟩ ⟨by have := hd.1; omega, hd.2⟩ hd0
  have hb3 : RB 6 (v : Rat) := rb_mono (by decide) (rb_int ⟨by have := hv.1; omega, hv.2⟩)
  have hb4 : RB 6 ((Rat.divInt sn sd) * (Rat.divInt n d)) := rb_mul hb1 hb2
  have HMu := Lib.hid (show ∀ W A1 c1 B1 d1 A2 c2 B2 d2, RatAt W A1 c1 B1 d1 (Rat.divInt sn sd) → RatAt W A2 c2 B2 d2 (Rat.divInt n d) → Calls Tryz.prog 24 #[.agg #[.int .i64 (signD ((Rat.divInt sn sd)).num), .slice A1 (dl ((Rat.divInt sn sd)).num) c1, .int .i64 (signD (((Rat.divInt sn sd)).den : Int)), .slice B1 (dl (((Rat.divInt sn sd)).den : Int)) d1], .agg #[.int .i64 (signD ((Rat.divInt n d)).num), .slice A2 (dl ((Rat.divInt n d)).num) c2, .int .i64 (signD (((Rat.divInt n d)).den : Int)), .slice B2 (dl (((Rat.divInt n d)).den : Int)) d2]] W (RatRet W ((Rat.divInt sn sd) * (Rat.divInt n d))) from fun W A1 c1 B1 d1 A2 c2 B2 d2 h1 h2 => ratioMul_any (Rat.divInt sn sd) (Rat.divInt n d) 3 A1 c1 B1 d1 A2 c2 B2 d2 W h1 h2 hb1 hb2 (by decide))
  have HSu := Lib.hid (show ∀ W A3 c3 B3 d3 A4 c4 B4 d4, RatAt W A3 c3 B3 d3 (v : Rat) → RatAt W A4 c4 B4 d4 ((Rat.divInt sn sd) * (Rat.divInt n d)) → Calls Tryz.prog 96 #[.agg #[.int .i64 (signD (v : Rat).num), .slice A3 (dl (v : Rat).num) c3, .int .i64 (signD ((v : Rat).den : Int)), .slice B3 (dl ((v : Rat).den : Int)) d3], .agg #[.int .i64 (signD (((Rat.divInt sn sd) * (Rat.divInt n d))).num), .slice A4 (dl (((Rat.divInt sn sd) * (Rat.divInt n d))).num) c4, .int .i64 (signD ((((Rat.divInt sn sd) * (Rat.divInt n d))).den : Int)), .slice B4 (dl ((((Rat.divInt sn sd) * (Rat.divInt n d))).den : Int)) d4]] W (RatRet W ((v : Rat) - ((Rat.divInt sn sd) * (Rat.divInt n d)))) from fun W A3 c3 B3 d3 A4 c4 B4 d4 h1 h2 => ratioSub_any (v : Rat) ((Rat.divInt sn sd) * (Rat.divInt n d)) 6 A3 c3 B3 d3 A4 c4 B4 d4 W h1 h2 hb3 hb4 (by decide))
  clear hsn hsd hs0 hv hn hd hd0 hb1 hb2 hb3 hb4
  generalize hY : (Rat.divInt sn sd) = y at *
  generalize hI : (Rat.divInt n d) = i at *
  clear hY hI
  go_enter Tryz.func51, Tryz.ntmps51
  have X1 := Lib.hid (show Blk (((w.alloc (.cells #[.int .i64 a, .int .i64 b, .int .i64 sn, .int .i64 sd] 87)).alloc (.cells #[.int .i64 n, .int .i64 d] 59)).alloc (.cells #[.int .i64 0, .slice none 0 0, .int .i64 0, .slice none 0 0] 55)) w.heap.size 87 #[.int .i64 a, .int .i64 b, .int .i64 sn, .int .i64 sd] from ((Blk.newAt rfl).alloc).alloc)
  have X2 := Lib.hid (show Blk (((w.alloc (.cells #[.int .i64 a, .int .i64 b, .int .i64 sn, .int .i64 sd] 87)).alloc (.cells #[.int .i64 n, .int .i64 d] 59)).alloc (.cells #[.int .i64 0, .slice none 0 0, .int .i64 0, .slice none 0 0] 55)) (w.heap.size + 1) 59 #[.int .i64 n, .int .i64 d] from (Blk.newAt (by simp)).alloc)
  have X3 := Lib.hid (show Blk (((w.alloc (.cells #[.int .i64 a, .int .i64 b, .int .i64 sn, .int .i64 sd] 87)).alloc (.cells #[.int .i64 n, .int .i64 d] 59)).alloc (.cells #[.int .i64 0, .slice none 0 0, .int .i64 0, .slice none 0 0] 55)) (w.heap.size + 1 + 1) 55 #[.int .i64 0, .slice none 0 0, .int .i64 0, .slice none 0 0] from Blk.newAt (by simp))
  have Q3 := Lib.hid (show Below w.heap.size w (((w.alloc (.cells #[.int .i64 a, .int .i64 b, .int .i64 sn, .int .i64 sd] 87)).alloc (.cells #[.int .i64 n, .int .i64 d] 59)).alloc (.cells #[.int .i64 0, .slice none 0 0, .int .i64 0, .slice none 0 0] 55)) from pa (pa (pa pr)))
  go_wp2
  generalize (((w.alloc (.cells #[.int .i64 a, .int .i64 b, .int .i64 sn, .int .i64 sd] 87)).alloc (.cells #[.int .i64 n, .int .i64 d] 59)).alloc (.cells #[.int .i64 0, .slice none 0 0, .int .i64 0, .slice none 0 0] 55)) = v0 at *
  have HSS := Lib.hid (show ∀ W, Below v0.heap.size v0 W → W.cell? ⟨w.heap.size, 2, none⟩ = some (.int .i64 sn) ∧ W.cell? ⟨w.heap.size, 3, none⟩ = some (.int .i64 sd) ∧ W.cell? ⟨w.heap.size + 1, 0, none⟩ = some (.int .i64 n) ∧ W.cell? ⟨w.heap.size + 1, 1, none⟩ = some (.int .i64 d) from fun W hW => ⟨(X1.out.past hW).cellAt 2 rfl, (X1.out.past hW).cellAt 3 rfl, (X2.out.past hW).cellAt 0 rfl, (X2.out.past hW).cellAt 1 rfl⟩)
  refine wp_region_G 9 follows_mixed (fun W => W.cell? ⟨w.heap.size, 2, none⟩ = some (.int .i64 sn) ∧ W.cell? ⟨w.heap.size, 3, none⟩ = some (.int .i64 sd) ∧ W.cell? ⟨w.heap.size + 1, 0, none⟩ = some (.int .i64 n) ∧ W.cell? ⟨w.heap.size + 1, 1, none⟩ = some (.int .i64 d)) (HSS.out _ (pd pr)) ?_
  intro hSd inv
  have HSd := Lib.hid hSd
  clear hSd
  have HB0 := Lib.hid (show Below v0.heap.size v0 v0.drew from pd pr)
  refine wpAnyG_take (i := 0) (v := ?_) rfl (by kernel_rfl) (by kernel_rfl) (by kernel_rfl) (by kernel_rfl) (by kernel_rfl) (by decide) (by decide) inv (fun _ _ _ h => h) (Or.inl ⟨by rfl, ?_⟩) HSd.out ?_; rotate_left; (focus (intro W y1; obtain ⟨y1, y2, y3, y4⟩ := y1; go_simp; (first | done | with_reducible rfl))); clear inv; intro inv; simp only [List.getElem_toArray, List.getElem_cons_zero, Act.put, List.setIfInBounds_toArray, List.set_cons_zero, List.set_cons_succ]
  refine wpAnyG_take (i := 2) (v := ?_) rfl (by kernel_rfl) (by kernel_rfl) (by kernel_rfl) (by kernel_rfl) (by kernel_rfl) (by decide) (by decide) inv (fun _ _ _ h => h) (Or.inl ⟨by rfl, ?_⟩) HSd.out ?_; rotate_left; (focus (intro W y1; obtain ⟨y1, y2, y3, y4⟩ := y1; go_simp; (first | done | with_reducible rfl))); clear inv; intro inv; simp only [List.getElem_toArray, List.getElem_cons_zero, List.getElem_cons_succ, Act.put, List.setIfInBounds_toArray, List.set_cons_zero, List.set_cons_succ]
  refine wpAnyG_take (i := 3) (v := ?_) rfl (by kernel_rfl) (by kernel_rfl) (by kernel_rfl) (by kernel_rfl) (by kernel_rfl) (by decide) (by decide) inv (fun _ _ _ h => h) (Or.inl ⟨by rfl, ?_⟩) HSd.out ?_; rotate_left; (focus (intro W y1; obtain ⟨y1, y2, y3, y4⟩ := y1; go_simp; (first | done | with_reducible rfl))); clear inv; intro inv; simp only [List.getElem_toArray, List.getElem_cons_zero, List.getElem_cons_succ, Act.put, List.setIfInBounds_toArray, List.set_cons_zero, List.set_cons_succ]
  refine wpAnyG_take (i := 5) (v := ?_) rfl (by kernel_rfl) (by kernel_rfl) (by kernel_rfl) (by kernel_rfl) (by kernel_rfl) (by decide) (by decide) inv (fun _ _ _ h => h) (Or.inl ⟨by rfl, ?_⟩) HSd.out ?_; rotate_left; (focus (intro W y1; obtain ⟨y1, y2, y3, y4⟩ := y1; go_simp; (first | done | with_reducible rfl))); clear inv; intro inv; simp only [List.getElem_toArray, List.getElem_cons_zero, List.getElem_cons_succ, Act.put, List.setIfInBounds_toArray, List.set_cons_zero, List.set_cons_succ]
  have HInv := Lib.hid inv
  clear inv
  refine wpAnyG_one (i := 1) (by kernel_rfl) rfl rfl fun K hK => ?_
  go_simp
  refine (HI.out _).mono ?_
  rintro e w1 ⟨A3, c3, B3, d3, rfl, h3, hb⟩
  have HBx1 := Lib.hid (show Below v0.heap.size v0 w1 from pt HB0.out hb)
  have H3 := Lib.hid h3
  clear h3
  unfold ratV
  refine hK.out _ _ (fun _ => HSS.out _ HBx1.out) ?_
  clear hK K hb
  replace HInv := Lib.hid (inv_one (i := 1) HInv.out (by kernel_rfl) (by decide))
  refine wpAnyG_one (i := 4) (by kernel_rfl) rfl rfl fun K hK => ?_
  go_simp
  refine (HF1.out _).mono ?_
  rintro e w2 ⟨A1, c1, B1, d1, rfl, h1, hb⟩
  have HBx4 := Lib.hid (show Below v0.heap.size v0 w2 from pt HBx1.out hb)
  have H1 := Lib.hid h1
  have H3 := Lib.hid (H3.out.past hb)
  clear h1
  unfold ratV
  refine hK.out _ _ (fun _ => HSS.out _ HBx4.out) ?_
  clear hK K hb
  replace HInv := Lib.hid (inv_one (i := 4) HInv.out (by kernel_rfl) (by decide))
  refine wpAnyG_one (i := 6) (by kernel_rfl) rfl rfl fun K hK => ?_
  go_simp
  refine (HF2.out _).mono ?_
  rintro e w3 ⟨A2, c2, B2, d2, rfl, h2, hb⟩
  have HBx6 := Lib.hid (show Below v0.heap.size v0 w3 from pt HBx4.out hb)
  have H2 := Lib.hid h2
  have H1 := Lib.hid (H1.out.past hb)
  have H3 := Lib.hid (H3.out.past hb)
  clear h2
  unfold ratV
  refine hK.out _ _ (fun _ => HSS.out _ HBx6.out) ?_
  clear hK K hb
  replace HInv := Lib.hid (inv_one (i := 6) HInv.out (by kernel_rfl) (by decide))
  refine wpAnyG_one (i := 7) (by kernel_rfl) rfl rfl fun K hK => ?_
  go_simp
  refine (HMu.out _ A1 c1 B1 d1 A2 c2 B2 d2 H1.out H2.out).mono ?_
  rintro e w4 ⟨A4, c4, B4, d4, rfl, h4, hb⟩
  have HBx7 := Lib.hid (show Below v0.heap.size v0 w4 from pt HBx6.out hb)
  have H4 := Lib.hid h4
  have H3 := Lib.hid (H3.out.past hb)
  clear h4
  unfold ratV
  refine hK.out _ _ (fun _ => HSS.out _ HBx7.out) ?_
  clear hK K hb
  replace HInv := Lib.hid (inv_one (i := 7) HInv.out (by kernel_rfl) (by decide))
  refine wpAnyG_one (i := 8) (by kernel_rfl) rfl rfl fun K hK => ?_
  go_simp
  refine (HSu.out _ A3 c3 B3 d3 A4 c4 B4 d4 H3.out H4.out).mono ?_
  rintro e w6 ⟨A7, c7, A8, c8, rfl, h8, hb⟩
  have HBx8 := Lib.hid (show Below v0.heap.size v0 w6 from pt HBx7.out hb)
  have H8 := Lib.hid h8
  clear h8
  unfold ratV
  refine hK.out _ _ (fun _ => HSS.out _ HBx8.out) ?_
  clear hK K hb
  replace HInv := Lib.hid (inv_one (i := 8) HInv.out (by kernel_rfl) (by decide))
  have R7 := Lib.hid (X3.out.past HBx8.out)
  have Q7 := Lib.hid (pt Q3.out HBx8.out)
  have f0 := R7.out.frozen 0; have f1 := R7.out.frozen 1; have f2 := R7.out.frozen 2; have f3 := R7.out.frozen 3; have fl := R7.out.lt; have h0_ := R7.out.cellAt 0 rfl; have h1_ := R7.out.cellAt 1 rfl; have h2_ := R7.out.cellAt 2 rfl; have h3_ := R7.out.cellAt 3 rfl
  refine wpAnyG_one (i := 9) (by kernel_rfl) rfl rfl fun K hK => ?_
  go_simp
  refine hK.out _ _ (fun h => absurd h (by decide)) ?_
  clear hK K
  refine wpAnyG_done (by kernel_rfl) ?_
  clear HInv
  clear HSS HSd HB0
  clear f0 f1 f2 f3 fl h0_ h1_ h2_ h3_
  have hR := (((R7.out.set_ 0 (.int .i64 (signD ((v : Rat) - y * i).num))).set_ 1 (.slice A7 (dl ((v : Rat) - y * i).num) c7)).set_ 2 (.int .i64 (signD (((v : Rat) - y * i).den : Int)))).set_ 3 (.slice A8 (dl (((v : Rat) - y * i).den : Int)) c8)
  have hA := rat_far R7.out H8.out.1 (u0 := (.int .i64 (signD ((v : Rat) - y * i).num))) (u1 := (.slice A7 (dl ((v : Rat) - y * i).num) c7)) (u2 := (.int .i64 (signD (((v : Rat) - y * i).den : Int)))) (u3 := (.slice A8 (dl (((v : Rat) - y * i).den : Int)) c8))
  have hA2 := rat_far R7.out H8.out.2 (u0 := (.int .i64 (signD ((v : Rat) - y * i).num))) (u1 := (.slice A7 (dl ((v : Rat) - y * i).num) c7)) (u2 := (.int .i64 (signD (((v : Rat) - y * i).den : Int)))) (u3 := (.slice A8 (dl (((v : Rat) - y * i).den : Int)) c8))
  have hQ := ps (ps (ps (ps Q7.out (p := ⟨w.heap.size + 1 + 1, 0, none⟩) (u := (.int .i64 (signD ((v : Rat) - y * i).num))) (Nat.le_add_right _ 2)) (p := ⟨w.heap.size + 1 + 1, 1, none⟩) (u := (.slice A7 (dl ((v : Rat) - y * i).num) c7)) (Nat.le_add_right _ 2)) (p := ⟨w.heap.size + 1 + 1, 2, none⟩) (u := (.int .i64 (signD (((v : Rat) - y * i).den : Int)))) (Nat.le_add_right _ 2)) (p := ⟨w.heap.size + 1 + 1, 3, none⟩) (u := (.slice A8 (dl (((v : Rat) - y * i).den : Int)) c8)) (Nat.le_add_right _ 2)
  generalize (((w6.setCell ⟨w.heap.size + 1 + 1, 0, none⟩ (.int .i64 (signD ((v : Rat) - y * i).num))).setCell ⟨w.heap.size + 1 + 1, 1, none⟩ (.slice A7 (dl ((v : Rat) - y * i).num) c7)).setCell ⟨w.heap.size + 1 + 1, 2, none⟩ (.int .i64 (signD (((v : Rat) - y * i).den : Int)))).setCell ⟨w.heap.size + 1 + 1, 3, none⟩ (.slice A8 (dl (((v : Rat) - y * i).den : Int)) c8) = wz at *
  have g0 := hR.cellAt 0 rfl
  have g1 := hR.cellAt 1 rfl
  have g2 := hR.cellAt 2 rfl
  have g3 := hR.cellAt 3 rfl
  go_wp2
  exact bodyPost_ret (v := .agg #[.int .i64 (signD ((v : Rat) - y * i).num), .slice A7 (dl ((v : Rat) - y * i).num) c7, .int .i64 (signD (((v : Rat) - y * i).den : Int)), .slice A8 (dl (((v : Rat) - y * i).den : Int)) c8]) (by simp [results, Tryz.results51, go_sem, g0, g1, g2, g3]) rfl ⟨A7, c7, A8, c8, rfl, ⟨hA, hA2⟩, hQ⟩

end Go.Proofs.YtpdkbhjcpddnpaaGreatDoor
end
