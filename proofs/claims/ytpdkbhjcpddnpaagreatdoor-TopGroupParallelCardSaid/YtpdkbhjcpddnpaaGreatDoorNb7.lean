/- Contract: what a source gives less what falls over its impedance, as a ratio. Printed by a program (gen_drop.py).
Contracts: the helpers of the law on units side by side: groupOpposite, groupDrops. Printed by a program (gen_par.py). -/
import Derived.Test.YtpdkbhjcpddnpaaGreatDoorNX
import Derived.Test.YtpdkbhjcpddnpaaGreatDoorND
import Derived.Deep.DeepCutAuto

section
namespace Go.Proofs.YtpdkbhjcpddnpaaGreatDoor
open Go.RowKit
attribute [local go_sem ↓] Go.wp_at_zero Go.wp_at_succ

def I64s (n : Int) : Prop := -9223372036854775807 ≤ n ∧ n ≤ 9223372036854775807
end Go.Proofs.YtpdkbhjcpddnpaaGreatDoor
end

section
namespace Go.Proofs.YtpdkbhjcpddnpaaGreatDoor
open Go.RowKit
attribute [local go_sem ↓] Go.wp_at_zero Go.wp_at_succ

theorem opposite_any (m d : Int) (hm : -1000000000 ≤ m ∧ m ≤ 1000000000) (hd : 1 ≤ d ∧ d ≤ 1000000000) (hl : lowestB (-m) d = true) (w : World) :
    Calls Tryz.prog 34 #[.agg #[.int .i64 (-m), .int .i64 d], .agg #[.int .i64 m, .int .i64 d]] w fun e w' => e = .returned (.bool true) ∧ Below w.heap.size w w' := by
  have HL := baseIsLowest_any (-m) d (by unfold Sm; omega) (by unfold Sm; omega)
  rw [hl] at HL
  replace HL := Lib.hid HL
  clear hl
  go_enter Tryz.func34, Tryz.ntmps34
  go_wp2_with (go_at_call 21; refine (HL.out _).mono ?_; rintro e w1 ⟨rfl, hb1⟩)
  go_ret
  exact ⟨rfl, pt (pa (pa pr)) hb1⟩

set_option maxHeartbeats 16000000 in
set_option maxRecDepth 100000 in
theorem drops_any (p1 q1 m1 k1 p2 q2 m2 k2 v cn cd : Int) (b : Nat) (w : World) (hB : Blk w b 87 #[.int .i64 p1, .int .i64 q1, .int .i64 m1, .int .i64 k1, .int .i64 p2, .int .i64 q2, .int .i64 m2, .int .i64 k2]) (h1 : I64s m1) (h2 : I64s k1) (h3 : I64s m2) (h4 : I64s k2) (h5 : I64s cn) (h6 : I64s cd) (h7 : I64s v) (g1 : k1 ≠ 0) (g2 : k2 ≠ 0) (g3 : cd ≠ 0) (heq : ((Rat.divInt m1 k1) + (Rat.divInt m2 k2)) * (Rat.divInt cn cd) = (v : Rat)) :
    Calls Tryz.prog 35 #[.slice (some ⟨b, 0, none⟩) 2 2, .int .i64 v, .agg #[.int .i64 cn, .int .i64 cd]] w fun e w' => e = .returned (.bool true) ∧ Below w.heap.size w w' := by
  have HX := Lib.hid (show ∀ W, Calls Tryz.prog 22 #[.agg #[.int .i64 m1, .int .i64 k1]] W (RatRet W ((Rat.divInt m1 k1))) from fun W => ratioFrom_any m1 k1 W h1 h2 g1)
  have HY := Lib.hid (show ∀ W, Calls Tryz.prog 22 #[.agg #[.int .i64 m2, .int .i64 k2]] W (RatRet W ((Rat.divInt m2 k2))) from fun W => ratioFrom_any m2 k2 W h3 h4 g2)
  have HZ := Lib.hid (show ∀ W, Calls Tryz.prog 22 #[.agg #[.int .i64 cn, .int .i64 cd]] W (RatRet W ((Rat.divInt cn cd))) from fun W => ratioFrom_any cn cd W h5 h6 g3)
  have b1 : RB 3 (Rat.divInt m1 k1) := rb_of ⟨by have := h1.1; omega, h1.2⟩ ⟨by have := h2.1; omega, h2.2⟩ g1
  have b2 : RB 3 (Rat.divInt m2 k2) := rb_of ⟨by have := h3.1; omega, h3.2⟩ ⟨by have := h4.1; omega, h4.2⟩ g2
  have b3 : RB 3 (Rat.divInt cn cd) := rb_of ⟨by have := h5.1; omega, h5.2⟩ ⟨by have := h6.1; omega, h6.2⟩ g3
  have b4 : RB 7 ((Rat.divInt m1 k1) + (Rat.divInt m2 k2)) := rb_add b1 b2
  have b5 : RB 6 (v : Rat) := (rb_int ⟨by have := h7.1; omega, h7.2⟩).more (by decide)
  have HS := Lib.hid (show ∀ W A1 c1 B1 d1 A2 c2 B2 d2, RatAt W A1 c1 B1 d1 ((Rat.divInt m1 k1)) → RatAt W A2 c2 B2 d2 ((Rat.divInt m2 k2)) → Calls Tryz.prog 52 #[.agg #[.int .i64 (signD ((Rat.divInt m1 k1)).num), .slice A1 (dl ((Rat.divInt m1 k1)).num) c1, .int .i64 (signD (((Rat.divInt m1 k1)).den : Int)), .slice B1 (dl (((Rat.divInt m1 k1)).den : Int)) d1], .agg #[.int .i64 (signD ((Rat.divInt m2 k2)).num), .slice A2 (dl ((Rat.divInt m2 k2)).num) c2, .int .i64 (signD (((Rat.divInt m2 k2)).den : Int)), .slice B2 (dl (((Rat.divInt m2 k2)).den : Int)) d2]] W (RatRet W ((Rat.divInt m1 k1) + (Rat.divInt m2 k2))) from fun W A1 c1 B1 d1 A2 c2 B2 d2 t0 t1 => ratioAdd_any (Rat.divInt m1 k1) (Rat.divInt m2 k2) 3 A1 c1 B1 d1 A2 c2 B2 d2 W t0 t1 b1 b2 (by decide))
  have HM := Lib.hid (show ∀ W A3 c3 B3 d3 A4 c4 B4 d4, RatAt W A3 c3 B3 d3 ((Rat.divInt m1 k1) + (Rat.divInt m2 k2)) → RatAt W A4 c4 B4 d4 ((Rat.divInt cn cd)) → Calls Tryz.prog 24 #[.agg #[.int .i64 (signD ((Rat.divInt m1 k1) + (Rat.divInt m2 k2)).num), .slice A3 (dl ((Rat.divInt m1 k1) + (Rat.divInt m2 k2)).num) c3, .int .i64 (signD (((Rat.divInt m1 k1) + (Rat.divInt m2 k2)).den : Int)), .slice B3 (dl (((Rat.divInt m1 k1) + (Rat.divInt m2 k2)).den : Int)) d3], .agg #[.int .i64 (signD ((Rat.divInt cn cd)).num), .slice A4 (dl ((Rat.divInt cn cd)).num) c4, .int .i64 (signD (((Rat.divInt cn cd)).den : Int)), .slice B4 (dl (((Rat.divInt cn cd)).den : Int)) d4]] W (RatRet W (v : Rat)) from fun W A3 c3 B3 d3 A4 c4 B4 d4 t0 t1 => by
    have h := ratioMul_any ((Rat.divInt m1 k1) + (Rat.divInt m2 k2)) (Rat.divInt cn cd) 7 A3 c3 B3 d3 A4 c4 B4 d4 W t0 t1 b4 (b3.more (by decide)) (by decide)
    rw [heq] at h
    exact h)
  have HI := Lib.hid (show ∀ W, Calls Tryz.prog 25 #[.int .i64 v] W (RatRet W ((v : Rat))) from fun W => ratioInt_any v W h7.1 h7.2)
  have HC := Lib.hid (show ∀ W A5 c5 B5 d5 A6 c6 B6 d6, RatAt W A5 c5 B5 d5 ((v : Rat)) → RatAt W A6 c6 B6 d6 ((v : Rat)) → Calls Tryz.prog 23 #[.agg #[.int .i64 (signD ((v : Rat)).num), .slice A5 (dl ((v : Rat)).num) c5, .int .i64 (signD (((v : Rat)).den : Int)), .slice B5 (dl (((v : Rat)).den : Int)) d5], .agg #[.int .i64 (signD ((v : Rat)).num), .slice A6 (dl ((v : Rat)).num) c6, .int .i64 (signD (((v : Rat)).den : Int)), .slice B6 (dl (((v : Rat)).den : Int)) d6]] W fun e w' => e = .returned (.int .i64 0) ∧ Below W.heap.size W w' from fun W A5 c5 B5 d5 A6 c6 B6 d6 t0 t1 => cmp_same W A5 c5 B5 d5 A6 c6 B6 d6 t0 t1 b5)
  clear h1 h2 h3 h4 h5 h6 h7 g1 g2 g3 b1 b2 b3 b4 b5 heq
  generalize (Rat.divInt m1 k1) = x at *
  generalize (Rat.divInt m2 k2) = y at *
  generalize (Rat.divInt cn cd) = z at *
  generalize x + y = s at *
  generalize (v : Rat) = r at *
  go_enter Tryz.func35, Tryz.ntmps35
  have HB := Lib.hid (show Blk (w.alloc (.cells #[.int .i64 cn, .int .i64 cd] 59)) b 87 #[.int .i64 p1, .int .i64 q1, .int .i64 m1, .int .i64 k1, .int .i64 p2, .int .i64 q2, .int .i64 m2, .int .i64 k2] from hB.alloc)
  have HF := Lib.hid (show Blk (w.alloc (.cells #[.int .i64 cn, .int .i64 cd] 59)) w.heap.size 59 #[.int .i64 cn, .int .i64 cd] from Blk.new _ _ _)
  have HQ := Lib.hid (show Below w.heap.size w (w.alloc (.cells #[.int .i64 cn, .int .i64 cd] 59)) from pa pr)
  clear hB
  go_wp2
  generalize (w.alloc (.cells #[.int .i64 cn, .int .i64 cd] 59)) = u at *
  go_cut [7] (fun pv wx => ∃ (bx : Nat) (A9 : Option Addr) (c9 : Nat) (B9 : Option Addr) (d9 : Nat), pv = .pointer (some ⟨bx, 0, none⟩) ∧ Blk wx bx 55 #[.int .i64 (signD (s).num), .slice A9 (dl (s).num) c9, .int .i64 (signD ((s).den : Int)), .slice B9 (dl ((s).den : Int)) d9] ∧ RatAt wx A9 c9 B9 d9 (s) ∧ Below u.heap.size u wx)
  case first =>
    have HSS := Lib.hid (show ∀ W, Below u.heap.size u W → W.cell? ⟨b, 2, none⟩ = some (.int .i64 m1) ∧ W.cell? ⟨b, 3, none⟩ = some (.int .i64 k1) ∧ W.cell? ⟨b, 6, none⟩ = some (.int .i64 m2) ∧ W.cell? ⟨b, 7, none⟩ = some (.int .i64 k2) from fun W hW => ⟨(HB.out.past hW).cellAt 2 rfl, (HB.out.past hW).cellAt 3 rfl, (HB.out.past hW).cellAt 6 rfl, (HB.out.past hW).cellAt 7 rfl⟩)
    refine wp_region_G 12 follows_mixed (fun W => W.cell? ⟨b, 2, none⟩ = some (.int .i64 m1) ∧ W.cell? ⟨b, 3, none⟩ = some (.int .i64 k1) ∧ W.cell? ⟨b, 6, none⟩ = some (.int .i64 m2) ∧ W.cell? ⟨b, 7, none⟩ = some (.int .i64 k2)) (HSS.out _ (pd pr)) ?_
    intro hSd inv
    have HSd := Lib.hid hSd
    clear hSd
    have HB0 := Lib.hid (show Below u.heap.size u u.drew from pd pr)
    refine wpAnyG_take (i := 0) (v := ?_) rfl (by kernel_rfl) (by kernel_rfl) (by kernel_rfl) (by kernel_rfl) (by kernel_rfl) (by decide) (by decide) inv (fun _ _ _ h => h) (Or.inl ⟨by rfl, ?_⟩) HSd.out ?_; rotate_left; (focus (intro W y1; obtain ⟨y1, y2, y3, y4⟩ := y1; go_simp; (first | done | with_reducible rfl))); clear inv; intro inv; simp only [List.getElem_toArray, List.getElem_cons_zero, Act.put, List.setIfInBounds_toArray, List.set_cons_zero, List.set_cons_succ]
    refine wpAnyG_take (i := 1) (v := ?_) rfl (by kernel_rfl) (by kernel_rfl) (by kernel_rfl) (by kernel_rfl) (by kernel_rfl) (by decide) (by decide) inv (fun _ _ _ h => h) (Or.inl ⟨by rfl, ?_⟩) HSd.out ?_; rotate_left; (focus (intro W y1; obtain ⟨y1, y2, y3, y4⟩ := y1; go_simp; (first | done | with_reducible rfl))); clear inv; intro inv; simp only [List.getElem_toArray, List.getElem_cons_zero, List.getElem_cons_succ, Act.put, List.setIfInBounds_toArray, List.set_cons_zero, List.set_cons_succ]
    refine wpAnyG_take (i := 2) (v := ?_) rfl (by kernel_rfl) (by kernel_rfl) (by kernel_rfl) (by kernel_rfl) (by kernel_rfl) (by decide) (by decide) inv (fun _ _ _ h => h) (Or.inl ⟨by rfl, ?_⟩) HSd.out ?_; rotate_left; (focus (intro W y1; obtain ⟨y1, y2, y3, y4⟩ := y1; go_simp; (first | done | with_reducible rfl))); clear inv; intro inv; simp only [List.getElem_toArray, List.getElem_cons_zero, List.getElem_cons_succ, Act.put, List.setIfInBounds_toArray, List.set_cons_zero, List.set_cons_succ]
    refine wpAnyG_take (i := 3) (v := ?_) rfl (by kernel_rfl) (by kernel_rfl) (by kernel_rfl) (by kernel_rfl) (by kernel_rfl) (by decide) (by decide) inv (fun _ _ _ h => h) (Or.inl ⟨by rfl, ?_⟩) HSd.out ?_; rotate_left; (focus (intro W y1; obtain ⟨y1, y2, y3, y4⟩ := y1; go_simp; (first | done | with_reducible rfl))); clear inv; intro inv; simp only [List.getElem_toArray, List.getElem_cons_zero, List.getElem_cons_succ, Act.put, List.setIfInBounds_toArray, List.set_cons_zero, List.set_cons_succ]
    refine wpAnyG_take (i := 5) (v := ?_) rfl (by kernel_rfl) (by kernel_rfl) (by kernel_rfl) (by kernel_rfl) (by kernel_rfl) (by decide) (by decide) inv (fun _ _ _ h => h) (Or.inl ⟨by rfl, ?_⟩) HSd.out ?_; rotate_left; (focus (intro W y1; obtain ⟨y1, y2, y3, y4⟩ := y1; go_simp; (first | done | with_reducible rfl))); clear inv; intro inv; simp only [List.getElem_toArray, List.getElem_cons_zero, List.getElem_cons_succ, Act.put, List.setIfInBounds_toArray, List.set_cons_zero, List.set_cons_succ]
    refine wpAnyG_take (i := 6) (v := ?_) rfl (by kernel_rfl) (by kernel_rfl) (by kernel_rfl) (by kernel_rfl) (by kernel_rfl) (by decide) (by decide) inv (fun _ _ _ h => h) (Or.inl ⟨by rfl, ?_⟩) HSd.out ?_; rotate_left; (focus (intro W y1; obtain ⟨y1, y2, y3, y4⟩ := y1; go_simp; (first | done | with_reducible rfl))); clear inv; intro inv; simp only [List.getElem_toArray, List.getElem_cons_zero, List.getElem_cons_succ, Act.put, List.setIfInBounds_toArray, List.set_cons_zero, List.set_cons_succ]
    refine wpAnyG_take (i := 7) (v := ?_) rfl (by kernel_rfl) (by kernel_rfl) (by kernel_rfl) (by kernel_rfl) (by kernel_rfl) (by decide) (by decide) inv (fun _ _ _ h => h) (Or.inl ⟨by rfl, ?_⟩) HSd.out ?_; rotate_left; (focus (intro W y1; obtain ⟨y1, y2, y3, y4⟩ := y1; go_simp; (first | done | with_reducible rfl))); clear inv; intro inv; simp only [List.getElem_toArray, List.getElem_cons_zero, List.getElem_cons_succ, Act.put, List.setIfInBounds_toArray, List.set_cons_zero, List.set_cons_succ]
    refine wpAnyG_take (i := 8) (v := ?_) rfl (by kernel_rfl) (by kernel_rfl) (by kernel_rfl) (by kernel_rfl) (by kernel_rfl) (by decide) (by decide) inv (fun _ _ _ h => h) (Or.inl ⟨by rfl, ?_⟩) HSd.out ?_; rotate_left; (focus (intro W y1; obtain ⟨y1, y2, y3, y4⟩ := y1; go_simp; (first | done | with_reducible rfl))); clear inv; intro inv; simp only [List.getElem_toArray, List.getElem_cons_zero, List.getElem_cons_succ, Act.put, List.setIfInBounds_toArray, List.set_cons_zero, List.set_cons_succ]
    generalize u.drew = ud at *
    have HInv := Lib.hid inv
    clear inv
    clear HInv
    refine wpAnyG_two (i := 4) (k := 11) (by kernel_rfl) rfl rfl rfl rfl (fun K hK => ?_) (fun K hK => ?_)
    · go_simp
      refine (HX.out _).mono ?_
      rintro e w1_ ⟨A1, c1, B1, d1, rfl, h1_, hb⟩
      have HBx4 := Lib.hid (show Below u.heap.size u w1_ from pt HB0.out hb)
      have R1 := Lib.hid h1_
      clear h1_
      unfold ratV
      refine hK.out _ _ (fun _ => HSS.out _ HBx4.out) ?_
      clear hK K hb
      refine wpAnyG_two (i := 9) (k := 11) (by kernel_rfl) rfl rfl rfl rfl (fun K hK => ?_) (fun K hK => ?_)
      · go_simp
        refine (HY.out _).mono ?_
        rintro e w2_ ⟨A2, c2, B2, d2, rfl, h2_, hb⟩
        have HBx9 := Lib.hid (show Below u.heap.size u w2_ from pt HBx4.out hb)
        have R2 := Lib.hid h2_
        clear h2_
        replace R1 := Lib.hid (R1.out.past hb)
        unfold ratV
        refine hK.out _ _ (fun _ => HSS.out _ HBx9.out) ?_
        clear hK K hb
        refine wpAnyG_two (i := 10) (k := 11) (by kernel_rfl) rfl rfl rfl rfl (fun K hK => ?_) (fun K hK => ?_)
        · go_simp
          refine (HS.out _ A1 c1 B1 d1 A2 c2 B2 d2 R1.out R2.out).mono ?_
          rintro e w9_ ⟨A9, c9, B9, d9, rfl, h9_, hb⟩
          have HBx10 := Lib.hid (show Below u.heap.size u w9_ from pt HBx9.out hb)
          have R9 := Lib.hid h9_
          clear h9_
          replace R1 := Lib.hid (R1.out.past hb)
          replace R2 := Lib.hid (R2.out.past hb)
          unfold ratV
          refine hK.out _ _ (fun _ => HSS.out _ HBx10.out) ?_
          clear hK K hb
          refine wpAnyG_one (i := 11) (by kernel_rfl) rfl rfl fun K hK => ?_
          go_simp
          replace R1 := Lib.hid (R1.out.past (pa (o := (Obj.cells #[.int .i64 0, .slice none 0 0, .int .i64 0, .slice none 0 0] 55)) (pr (w := w9_))))
          replace R2 := Lib.hid (R2.out.past (pa (o := (Obj.cells #[.int .i64 0, .slice none 0 0, .int .i64 0, .slice none 0 0] 55)) (pr (w := w9_))))
          replace R9 := Lib.hid (R9.out.past (pa (o := (Obj.cells #[.int .i64 0, .slice none 0 0, .int .i64 0, .slice none 0 0] 55)) (pr (w := w9_))))
          have HBn := Lib.hid (show Below u.heap.size u (w9_.alloc (Obj.cells #[.int .i64 0, .slice none 0 0, .int .i64 0, .slice none 0 0] 55)) from HBx10.out.alloc HBx10.out.size _)
          have XN := Lib.hid (Blk.new w9_ 55 #[.int .i64 0, .slice none 0 0, .int .i64 0, .slice none 0 0])
          have HNb := Lib.hid (HBx10.out.size)
          refine hK.out _ _ (fun _ => HSS.out _ HBn.out) ?_
          clear hK K
          generalize w9_.alloc (Obj.cells #[.int .i64 0, .slice none 0 0, .int .i64 0, .slice none 0 0] 55) = wn_ at *
          generalize w9_.heap.size = nb at *
          have f0 := XN.out.frozen 0; have f1 := XN.out.frozen 1; have f2 := XN.out.frozen 2; have f3 := XN.out.frozen 3; have fl := XN.out.lt; have h0_ := XN.out.cellAt 0 rfl; have h1_ := XN.out.cellAt 1 rfl; have h2_ := XN.out.cellAt 2 rfl; have h3_ := XN.out.cellAt 3 rfl
          refine wpAnyG_one (i := 12) (by kernel_rfl) rfl rfl fun K hK => ?_
          go_simp
          refine hK.out _ _ (fun h => absurd h (by decide)) ?_
          clear hK K
          refine wpAnyG_done (by kernel_rfl) ?_
          clear f0 f1 f2 f3 fl h0_ h1_ h2_ h3_
          have hR := rat4_setM (u0 := (.int .i64 (signD (s).num))) (u1 := (.slice A9 (dl (s).num) c9)) (u2 := (.int .i64 (signD ((s).den : Int)))) (u3 := (.slice B9 (dl ((s).den : Int)) d9)) XN.out
          have hA := rat4_farM (u0 := (.int .i64 (signD (s).num))) (u1 := (.slice A9 (dl (s).num) c9)) (u2 := (.int .i64 (signD ((s).den : Int)))) (u3 := (.slice B9 (dl ((s).den : Int)) d9)) XN.out R9.out
          have hQ := bel4M (u0 := (.int .i64 (signD (s).num))) (u1 := (.slice A9 (dl (s).num) c9)) (u2 := (.int .i64 (signD ((s).den : Int)))) (u3 := (.slice B9 (dl ((s).den : Int)) d9)) HBn.out HNb.out
          go_wp2
          go_meet
          case rel => exact ⟨nb, A9, c9, B9, d9, rfl, hR, hA, hQ⟩
        · go_simp
          replace R1 := Lib.hid (R1.out.past (pa (o := (Obj.cells #[.int .i64 0, .slice none 0 0, .int .i64 0, .slice none 0 0] 55)) (pr (w := w2_))))
          replace R2 := Lib.hid (R2.out.past (pa (o := (Obj.cells #[.int .i64 0, .slice none 0 0, .int .i64 0, .slice none 0 0] 55)) (pr (w := w2_))))
          have HBn := Lib.hid (show Below u.heap.size u (w2_.alloc (Obj.cells #[.int .i64 0, .slice none 0 0, .int .i64 0, .slice none 0 0] 55)) from HBx9.out.alloc HBx9.out.size _)
          have XN := Lib.hid (Blk.new w2_ 55 #[.int .i64 0, .slice none 0 0, .int .i64 0, .slice none 0 0])
          have HNb := Lib.hid (HBx9.out.size)
          refine hK.out _ _ (fun _ => HSS.out _ HBn.out) ?_
          clear hK K
          generalize w2_.alloc (Obj.cells #[.int .i64 0, .slice none 0 0, .int .i64 0, .slice none 0 0] 55) = wn_ at *
          generalize w2_.heap.size = nb at *
          refine wpAnyG_one (i := 10) (by kernel_rfl) rfl rfl fun K hK => ?_
          go_simp
          refine (HS.out _ A1 c1 B1 d1 A2 c2 B2 d2 R1.out R2.out).mono ?_
          rintro e w9_ ⟨A9, c9, B9, d9, rfl, h9_, hb⟩
          have HBx10 := Lib.hid (show Below u.heap.size u w9_ from pt HBn.out hb)
          have R9 := Lib.hid h9_
          clear h9_
          replace R1 := Lib.hid (R1.out.past hb)
          replace R2 := Lib.hid (R2.out.past hb)
          replace XN := Lib.hid (XN.out.past hb)
          unfold ratV
          refine hK.out _ _ (fun _ => HSS.out _ HBx10.out) ?_
          clear hK K hb
          have f0 := XN.out.frozen 0; have f1 := XN.out.frozen 1; have f2 := XN.out.frozen 2; have f3 := XN.out.frozen 3; have fl := XN.out.lt; have h0_ := XN.out.cellAt 0 rfl; have h1_ := XN.out.cellAt 1 rfl; have h2_ := XN.out.cellAt 2 rfl; have h3_ := XN.out.cellAt 3 rfl
          refine wpAnyG_one (i := 12) (by kernel_rfl) rfl rfl fun K hK => ?_
          go_simp
          refine hK.out _ _ (fun h => absurd h (by decide)) ?_
          clear hK K
          refine wpAnyG_done (by kernel_rfl) ?_
          clear f0 f1 f2 f3 fl h0_ h1_ h2_ h3_
          have hR := rat4_setM (u0 := (.int .i64 (signD (s).num))) (u1 := (.slice A9 (dl (s).num) c9)) (u2 := (.int .i64 (signD ((s).den : Int)))) (u3 := (.slice B9 (dl ((s).den : Int)) d9)) XN.out
          have hA := rat4_farM (u0 := (.int .i64 (signD (s).num))) (u1 := (.slice A9 (dl (s).num) c9)) (u2 := (.int .i64 (signD ((s).den : Int)))) (u3 := (.slice B9 (dl ((s).den : Int)) d9)) XN.out R9.out
          have hQ := bel4M (u0 := (.int .i64 (signD (s).num))) (u1 := (.slice A9 (dl (s).num) c9)) (u2 := (.int .i64 (signD ((s).den : Int)))) (u3 := (.slice B9 (dl ((s).den : Int)) d9)) HBx10.out HNb.out
          go_wp2
          go_meet
          case rel => exact ⟨nb, A9, c9, B9, d9, rfl, hR, hA, hQ⟩
      · go_simp
        replace R1 := Lib.hid (R1.out.past (pa (o := (Obj.cells #[.int .i64 0, .slice none 0 0, .int .i64 0, .slice none 0 0] 55)) (pr (w := w1_))))
        have HBn := Lib.hid (show Below u.heap.size u (w1_.alloc (Obj.cells #[.int .i64 0, .slice none 0 0, .int .i64 0, .slice none 0 0] 55)) from HBx4.out.alloc HBx4.out.size _)
        have XN := Lib.hid (Blk.new w1_ 55 #[.int .i64 0, .slice none 0 0, .int .i64 0, .slice none 0 0])
        have HNb := Lib.hid (HBx4.out.size)
        refine hK.out _ _ (fun _ => HSS.out _ HBn.out) ?_
        clear hK K
        generalize w1_.alloc (Obj.cells #[.int .i64 0, .slice none 0 0, .int .i64 0, .slice none 0 0] 55) = wn_ at *
        generalize w1_.heap.size = nb at *
        refine wpAnyG_one (i := 9) (by kernel_rfl) rfl rfl fun K hK => ?_
        go_simp
        refine (HY.out _).mono ?_
        rintro e w2_ ⟨A2, c2, B2, d2, rfl, h2_, hb⟩
        have HBx9 := Lib.hid (show Below u.heap.size u w2_ from pt HBn.out hb)
        have R2 := Lib.hid h2_
        clear h2_
        replace R1 := Lib.hid (R1.out.past hb)
        replace XN := Lib.hid (XN.out.past hb)
        unfold ratV
        refine hK.out _ _ (fun _ => HSS.out _ HBx9.out) ?_
        clear hK K hb
        refine wpAnyG_one (i := 10) (by kernel_rfl) rfl rfl fun K hK => ?_
        go_simp
        refine (HS.out _ A1 c1 B1 d1 A2 c2 B2 d2 R1.out R2.out).mono ?_
        rintro e w9_ ⟨A9, c9, B9, d9, rfl, h9_, hb⟩
        have HBx10 := Lib.hid (show Below u.heap.size u w9_ from pt HBx9.out hb)
        have R9 := Lib.hid h9_
        clear h9_
        replace R1 := Lib.hid (R1.out.past hb)
        replace R2 := Lib.hid (R2.out.past hb)
        replace XN := Lib.hid (XN.out.past hb)
        unfold ratV
        refine hK.out _ _ (fun _ => HSS.out _ HBx10.out) ?_
        clear hK K hb
        have f0 := XN.out.frozen 0; have f1 := XN.out.frozen 1; have f2 := XN.out.frozen 2; have f3 := XN.out.frozen 3; have fl := XN.out.lt; have h0_ := XN.out.cellAt 0 rfl; have h1_ := XN.out.cellAt 1 rfl; have h2_ := XN.out.cellAt 2 rfl; have h3_ := XN.out.cellAt 3 rfl
        refine wpAnyG_one (i := 12) (by kernel_rfl) rfl rfl fun K hK => ?_
        go_simp
        refine hK.out _ _ (fun h => absurd h (by decide)) ?_
        clear hK K
        refine wpAnyG_done (by kernel_rfl) ?_
        clear f0 f1 f2 f3 fl h0_ h1_ h2_ h3_
        have hR := rat4_setM (u0 := (.int .i64 (signD (s).num))) (u1 := (.slice A9 (dl (s).num) c9)) (u2 := (.int .i64 (signD ((s).den : Int)))) (u3 := (.slice B9 (dl ((s).den : Int)) d9)) XN.out
        have hA := rat4_farM (u0 := (.int .i64 (signD (s).num))) (u1 := (.slice A9 (dl (s).num) c9)) (u2 := (.int .i64 (signD ((s).den : Int)))) (u3 := (.slice B9 (dl ((s).den : Int)) d9)) XN.out R9.out
        have hQ := bel4M (u0 := (.int .i64 (signD (s).num))) (u1 := (.slice A9 (dl (s).num) c9)) (u2 := (.int .i64 (signD ((s).den : Int)))) (u3 := (.slice B9 (dl ((s).den : Int)) d9)) HBx10.out HNb.out
        go_wp2
        go_meet
        case rel => exact ⟨nb, A9, c9, B9, d9, rfl, hR, hA, hQ⟩
    · go_simp
      have HBn := Lib.hid (show Below u.heap.size u (ud.alloc (Obj.cells #[.int .i64 0, .slice none 0 0, .int .i64 0, .slice none 0 0] 55)) from HB0.out.alloc HB0.out.size _)
      have XN := Lib.hid (Blk.new ud 55 #[.int .i64 0, .slice none 0 0, .int .i64 0, .slice none 0 0])
      have HNb := Lib.hid (HB0.out.size)
      refine hK.out _ _ (fun _ => HSS.out _ HBn.out) ?_
      clear hK K
      generalize ud.alloc (Obj.cells #[.int .i64 0, .slice none 0 0, .int .i64 0, .slice none 0 0] 55) = wn_ at *
      generalize ud.heap.size = nb at *
      refine wpAnyG_one (i := 4) (by kernel_rfl) rfl rfl fun K hK => ?_
      go_simp
      refine (HX.out _).mono ?_
      rintro e w1_ ⟨A1, c1, B1, d1, rfl, h1_, hb⟩
      have HBx4 := Lib.hid (show Below u.heap.size u w1_ from pt HBn.out hb)
      have R1 := Lib.hid h1_
      clear h1_
      replace XN := Lib.hid (XN.out.past hb)
      unfold ratV
      refine hK.out _ _ (fun _ => HSS.out _ HBx4.out) ?_
      clear hK K hb
      refine wpAnyG_one (i := 9) (by kernel_rfl) rfl rfl fun K hK => ?_
      go_simp
      refine (HY.out _).mono ?_
      rintro e w2_ ⟨A2, c2, B2, d2, rfl, h2_, hb⟩
      have HBx9 := Lib.hid (show Below u.heap.size u w2_ from pt HBx4.out hb)
      have R2 := Lib.hid h2_
      clear h2_
      replace R1 := Lib.hid (R1.out.past hb)
      replace XN := Lib.hid (XN.out.past hb)
      unfold ratV
      refine hK.out _ _ (fun _ => HSS.out _ HBx9.out) ?_
      clear hK K hb
      refine wpAnyG_one (i := 10) (by kernel_rfl) rfl rfl fun K hK => ?_
      go_simp
      refine (HS.out _ A1 c1 B1 d1 A2 c2 B2 d2 R1.out R2.out).mono ?_
      rintro e w9_ ⟨A9, c9, B9, d9, rfl, h9_, hb⟩
      have HBx10 := Lib.hid (show Below u.heap.size u w9_ from pt HBx9.out hb)
      have R9 := Lib.hid h9_
      clear h9_
      replace R1 := Lib.hid (R1.out.past hb)
      replace R2 := Lib.hid (R2.out.past hb)
      replace XN := Lib.hid (XN.out.past hb)
      unfold ratV
      refine hK.out _ _ (fun _ => HSS.out _ HBx10.out) ?_
      clear hK K hb
      have f0 := XN.out.frozen 0; have f1 := XN.out.frozen 1; have f2 := XN.out.frozen 2; have f3 := XN.out.frozen 3; have fl := XN.out.lt; have h0_ := XN.out.cellAt 0 rfl; have h1_ := XN.out.cellAt 1 rfl; have h2_ := XN.out.cellAt 2 rfl; have h3_ := XN.out.cellAt 3 rfl
      refine wpAnyG_one (i := 12) (by kernel_rfl) rfl rfl fun K hK => ?_
      go_simp
      refine hK.out _ _ (fun h => absurd h (by decide)) ?_
      clear hK K
      refine wpAnyG_done (by kernel_rfl) ?_
      clear f0 f1 f2 f3 fl h0_ h1_ h2_ h3_
      have hR := rat4_setM (u0 := (.int .i64 (signD (s).num))) (u1 := (.slice A9 (dl (s).num) c9)) (u2 := (.int .i64 (signD ((s).den : Int)))) (u3 := (.slice B9 (dl ((s).den : Int)) d9)) XN.out
      have hA := rat4_farM (u0 := (.int .i64 (signD (s).num))) (u1 := (.slice A9 (dl (s).num) c9)) (u2 := (.int .i64 (signD ((s).den : Int)))) (u3 := (.slice B9 (dl ((s).den : Int)) d9)) XN.out R9.out
      have hQ := bel4M (u0 := (.int .i64 (signD (s).num))) (u1 := (.slice A9 (dl (s).num) c9)) (u2 := (.int .i64 (signD ((s).den : Int)))) (u3 := (.slice B9 (dl ((s).den : Int)) d9)) HBx10.out HNb.out
      go_wp2
      go_meet
      case rel => exact ⟨nb, A9, c9, B9, d9, rfl, hR, hA, hQ⟩
  case rest =>
    obtain ⟨bx, A9, c9, B9, d9, rfl, hR, hA, hQ⟩ := hcut
    obtain ⟨u2, rfl⟩ : ∃ W, W = wc := ⟨_, rfl⟩
    have HR := Lib.hid hR
    have R9 := Lib.hid hA
    have HF2 := Lib.hid (HF.out.past hQ)
    have HQ2 := Lib.hid (HQ.out.trans (hQ.mono HQ.out.size))
    clear hR hA hQ HF HQ HB HX HY HS
    go_wp2
    have HSS := Lib.hid (show ∀ W, Below u2.heap.size u2 W → W.cell? ⟨bx, 0, none⟩ = some (.int .i64 (signD (s).num)) ∧ W.cell? ⟨bx, 1, none⟩ = some (.slice A9 (dl (s).num) c9) ∧ W.cell? ⟨bx, 2, none⟩ = some (.int .i64 (signD ((s).den : Int))) ∧ W.cell? ⟨bx, 3, none⟩ = some (.slice B9 (dl ((s).den : Int)) d9) ∧ W.cell? ⟨w.heap.size, 0, none⟩ = some (.int .i64 cn) ∧ W.cell? ⟨w.heap.size, 1, none⟩ = some (.int .i64 cd) from fun W hW => ⟨(HR.out.past hW).cellAt 0 rfl, (HR.out.past hW).cellAt 1 rfl, (HR.out.past hW).cellAt 2 rfl, (HR.out.past hW).cellAt 3 rfl, (HF2.out.past hW).cellAt 0 rfl, (HF2.out.past hW).cellAt 1 rfl⟩)
    refine wp_region_G 8 follows_mixed (fun W => W.cell? ⟨bx, 0, none⟩ = some (.int .i64 (signD (s).num)) ∧ W.cell? ⟨bx, 1, none⟩ = some (.slice A9 (dl (s).num) c9) ∧ W.cell? ⟨bx, 2, none⟩ = some (.int .i64 (signD ((s).den : Int))) ∧ W.cell? ⟨bx, 3, none⟩ = some (.slice B9 (dl ((s).den : Int)) d9) ∧ W.cell? ⟨w.heap.size, 0, none⟩ = some (.int .i64 cn) ∧ W.cell? ⟨w.heap.size, 1, none⟩ = some (.int .i64 cd)) (HSS.out _ (pd pr)) ?_
    intro hSd inv
    have HSd := Lib.hid hSd
    clear hSd
    have HB0 := Lib.hid (show Below u2.heap.size u2 u2.drew from pd pr)
    refine wpAnyG_take (i := 0) (v := ?_) rfl (by kernel_rfl) (by kernel_rfl) (by kernel_rfl) (by kernel_rfl) (by kernel_rfl) (by decide) (by decide) inv (fun _ _ _ h => h) (Or.inl ⟨by rfl, ?_⟩) HSd.out ?_; rotate_left; (focus (intro W y1; obtain ⟨y1, y2, y3, y4, y5, y6⟩ := y1; go_simp; (first | done | with_reducible rfl))); clear inv; intro inv; simp only [List.getElem_toArray, List.getElem_cons_zero, Act.put, List.setIfInBounds_toArray, List.set_cons_zero, List.set_cons_succ]
    refine wpAnyG_take (i := 1) (v := ?_) rfl (by kernel_rfl) (by kernel_rfl) (by kernel_rfl) (by kernel_rfl) (by kernel_rfl) (by decide) (by decide) inv (fun _ _ _ h => h) (Or.inl ⟨by rfl, ?_⟩) HSd.out ?_; rotate_left; (focus (intro W y1; obtain ⟨y1, y2, y3, y4, y5, y6⟩ := y1; go_simp; (first | done | with_reducible rfl))); clear inv; intro inv; simp only [List.getElem_toArray, List.getElem_cons_zero, List.getElem_cons_succ, Act.put, List.setIfInBounds_toArray, List.set_cons_zero, List.set_cons_succ]
    refine wpAnyG_take (i := 4) (v := ?_) rfl (by kernel_rfl) (by kernel_rfl) (by kernel_rfl) (by kernel_rfl) (by kernel_rfl) (by decide) (by decide) inv (fun _ _ _ h => h) (Or.inl ⟨by rfl, ?_⟩) HSd.out ?_; rotate_left; (focus (intro W y1; obtain ⟨y1, y2, y3, y4, y5, y6⟩ := y1; go_simp; (first | done | with_reducible rfl))); clear inv; intro inv; simp only [List.getElem_toArray, List.getElem_cons_zero, List.getElem_cons_succ, Act.put, List.setIfInBounds_toArray, List.set_cons_zero, List.set_cons_succ]
    have HInv := Lib.hid inv
    clear inv
    refine wpAnyG_one (i := 2) (by kernel_rfl) rfl rfl fun K hK => ?_
    go_simp
    refine (HZ.out _).mono ?_
    rintro e w4_ ⟨A4, c4, B4, d4, rfl, h4_, hb⟩
    have HBx2 := Lib.hid (show Below u2.heap.size u2 w4_ from pt HB0.out hb)
    have R4 := Lib.hid h4_
    clear h4_
    unfold ratV
    refine hK.out _ _ (fun _ => HSS.out _ HBx2.out) ?_
    clear hK K hb
    replace HInv := Lib.hid (inv_one (i := 2) HInv.out (by kernel_rfl) (by decide))
    refine wpAnyG_one (i := 3) (by kernel_rfl) rfl rfl fun K hK => ?_
    go_simp
    refine (HM.out _ A9 c9 B9 d9 A4 c4 B4 d4 (R9.out.past HBx2.out) R4.out).mono ?_
    rintro e w5_ ⟨A5, c5, B5, d5, rfl, h5_, hb⟩
    have HBx3 := Lib.hid (show Below u2.heap.size u2 w5_ from pt HBx2.out hb)
    have R5 := Lib.hid h5_
    clear h5_
    replace R4 := Lib.hid (R4.out.past hb)
    unfold ratV
    refine hK.out _ _ (fun _ => HSS.out _ HBx3.out) ?_
    clear hK K hb
    replace HInv := Lib.hid (inv_one (i := 3) HInv.out (by kernel_rfl) (by decide))
    refine wpAnyG_one (i := 5) (by kernel_rfl) rfl rfl fun K hK => ?_
    go_simp
    refine (HI.out _).mono ?_
    rintro e w6_ ⟨A6, c6, B6, d6, rfl, h6_, hb⟩
    have HBx5 := Lib.hid (show Below u2.heap.size u2 w6_ from pt HBx3.out hb)
    have R6 := Lib.hid h6_
    clear h6_
    replace R4 := Lib.hid (R4.out.past hb)
    replace R5 := Lib.hid (R5.out.past hb)
    unfold ratV
    refine hK.out _ _ (fun _ => HSS.out _ HBx5.out) ?_
    clear hK K hb
    replace HInv := Lib.hid (inv_one (i := 5) HInv.out (by kernel_rfl) (by decide))
    refine wpAnyG_one (i := 6) (by kernel_rfl) rfl rfl fun K hK => ?_
    go_simp
    refine (HC.out _ A5 c5 B5 d5 A6 c6 B6 d6 R5.out R6.out).mono ?_
    rintro e w7_ ⟨rfl, hb⟩
    have HBx6 := Lib.hid (show Below u2.heap.size u2 w7_ from pt HBx5.out hb)
    replace R4 := Lib.hid (R4.out.past hb)
    replace R5 := Lib.hid (R5.out.past hb)
    replace R6 := Lib.hid (R6.out.past hb)
    refine hK.out _ _ (fun _ => HSS.out _ HBx6.out) ?_
    clear hK K hb
    replace HInv := Lib.hid (inv_one (i := 6) HInv.out (by kernel_rfl) (by decide))
    have inv := HInv.out
    clear HInv
    replace HSd := Lib.hid (HSS.out _ HBx6.out)
    refine wpAnyG_take (i := 7) (v := ?_) rfl (by kernel_rfl) (by kernel_rfl) (by kernel_rfl) (by kernel_rfl) (by kernel_rfl) (by decide) (by decide) inv (fun _ _ _ h => h) (Or.inl ⟨by rfl, ?_⟩) HSd.out ?_; rotate_left; (focus (intro W y1; obtain ⟨y1, y2, y3, y4, y5, y6⟩ := y1; go_simp; (first | done | with_reducible rfl))); clear inv; intro inv; simp only [List.getElem_toArray, List.getElem_cons_zero, List.getElem_cons_succ, Act.put, List.setIfInBounds_toArray, List.set_cons_zero, List.set_cons_succ]
    have HInv := Lib.hid inv
    clear inv
    refine wpAnyG_one (i := 8) (by kernel_rfl) rfl rfl fun K hK => ?_
    go_simp
    refine hK.out _ _ (fun h => absurd h (by decide)) ?_
    clear hK K
    refine wpAnyG_done (by kernel_rfl) ?_
    clear HInv
    clear HSS HSd HB0
    have HQ3 := Lib.hid (HQ2.out.trans (HBx6.out.mono HQ2.out.size))
    go_wp2
    go_ret
    exact ⟨rfl, HQ3.out⟩

end Go.Proofs.YtpdkbhjcpddnpaaGreatDoor
end
