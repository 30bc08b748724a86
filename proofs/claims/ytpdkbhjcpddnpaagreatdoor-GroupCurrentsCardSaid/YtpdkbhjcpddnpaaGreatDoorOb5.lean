/- Contract: a ratio of two wide numbers. Printed by a program (gen_ratio.py). -/
import Derived.Test.YtpdkbhjcpddnpaaGreatDoorOb4
import Derived.Test.YtpdkbhjcpddnpaaGreatDoorOa1

section
namespace Go.Proofs.YtpdkbhjcpddnpaaGreatDoor
open Go.RowKit
attribute [local go_sem ↓] Go.wp_at_zero Go.wp_at_succ

/-- A ratio as a value; where its parts lie; as a result. -/
def ratV (r : Rat) (A : Option Addr) (c : Nat) (A2 : Option Addr) (c2 : Nat) : Value := .agg #[.int .i64 (signD r.num), .slice A (dl r.num) c, .int .i64 (signD (r.den : Int)), .slice A2 (dl (r.den : Int)) c2]
def RatAt (w : World) (A : Option Addr) (c : Nat) (A2 : Option Addr) (c2 : Nat) (r : Rat) : Prop := WideAt w A c r.num ∧ WideAt w A2 c2 (r.den : Int)
theorem RatAt.past {w w' : World} {A : Option Addr} {c : Nat} {A2 : Option Addr} {c2 : Nat} {r : Rat} (h : RatAt w A c A2 c2 r) (hb : Below w.heap.size w w') : RatAt w' A c A2 c2 r := ⟨h.1.past hb, h.2.past hb⟩
def RatRet (w : World) (r : Rat) (e : Ending) (w' : World) : Prop := ∃ (A : Option Addr) (c : Nat) (A2 : Option Addr) (c2 : Nat), e = .returned (ratV r A c A2 c2) ∧ RatAt w' A c A2 c2 r ∧ Below w.heap.size w w'
theorem ratio_size : (Tryz.prog.info? 55).map (·.size) = some 4 := by kernel_rfl

/-- Two boxes of wide numbers, and one of a ratio, empty. -/
structure MakeSt (w : World) (x y : Int) (A A2 : Option Addr) (c c2 : Nat) (wr : World) : Prop where
  b1 : Blk wr w.heap.size 53 #[.int .i64 (signD x), .slice A (dl x) c]
  b2 : Blk wr (w.heap.size + 1) 53 #[.int .i64 (signD y), .slice A2 (dl y) c2]
  b3 : Blk wr (w.heap.size + 1 + 1) 55 #[.int .i64 0, .slice none 0 0, .int .i64 0, .slice none 0 0]
  a1 : WideAt wr A c x
  a2 : WideAt wr A2 c2 y
  q : Below w.heap.size w wr
section
variable {w : World} {x y : Int} {A A2 : Option Addr} {c c2 : Nat} {wr W : World}
theorem MakeSt.past (h : MakeSt w x y A A2 c c2 wr) (hb : Below wr.heap.size wr W) : MakeSt w x y A A2 c c2 W := ⟨h.b1.past hb, h.b2.past hb, h.b3.past hb, h.a1.past hb, h.a2.past hb, pt h.q hb⟩
theorem MakeSt.set1 (h : MakeSt w x y A A2 c c2 wr) {z : Int} {A3 : Option Addr} {c3 : Nat} (hz : WideAt wr A3 c3 z) : MakeSt w z y A3 A2 c3 c2 ((wr.setCell ⟨w.heap.size, 0, none⟩ (.int .i64 (signD z))).setCell ⟨w.heap.size, 1, none⟩ (.slice A3 (dl z) c3)) := by
  have hb := h.b1
  have hb2 := hb.set_ 0 (.int .i64 (signD z))
  exact ⟨hb2.set_ 1 (.slice A3 (dl z) c3), (h.b2.far (Nat.succ_ne_self _)).far (Nat.succ_ne_self _), (h.b3.far (by show w.heap.size + 1 + 1 ≠ w.heap.size; omega)).far (by show w.heap.size + 1 + 1 ≠ w.heap.size; omega), (hz.far (p := ⟨w.heap.size, 0, none⟩) hb (by decide)).far (p := ⟨w.heap.size, 1, none⟩) hb2 (by decide), (h.a2.far (p := ⟨w.heap.size, 0, none⟩) hb (by decide)).far (p := ⟨w.heap.size, 1, none⟩) hb2 (by decide), ps (ps h.q (Nat.le_refl _)) (Nat.le_refl _)⟩
theorem MakeSt.set2 (h : MakeSt w x y A A2 c c2 wr) {z : Int} {A3 : Option Addr} {c3 : Nat} (hz : WideAt wr A3 c3 z) : MakeSt w x z A A3 c c3 ((wr.setCell ⟨w.heap.size + 1, 0, none⟩ (.int .i64 (signD z))).setCell ⟨w.heap.size + 1, 1, none⟩ (.slice A3 (dl z) c3)) := by
  have hb := h.b2
  have hb2 := hb.set_ 0 (.int .i64 (signD z))
  exact ⟨(h.b1.far (by show w.heap.size ≠ w.heap.size + 1; omega)).far (by show w.heap.size ≠ w.heap.size + 1; omega), hb2.set_ 1 (.slice A3 (dl z) c3), (h.b3.far (by show w.heap.size + 1 + 1 ≠ w.heap.size + 1; omega)).far (by show w.heap.size + 1 + 1 ≠ w.heap.size + 1; omega), (h.a1.far (p := ⟨w.heap.size + 1, 0, none⟩) hb (by decide)).far (p := ⟨w.heap.size + 1, 1, none⟩) hb2 (by decide), (hz.far (p := ⟨w.heap.size + 1, 0, none⟩) hb (by decide)).far (p := ⟨w.heap.size + 1, 1, none⟩) hb2 (by decide), ps (ps h.q (Nat.le_succ _)) (Nat.le_succ _)⟩
end
theorem rat_far {w : World} {A : Option Addr} {c : Nat} {n : Int} {b : Nat} {cs : Array Value} (hb : Blk w b 55 cs) (h : WideAt w A c n) {u0 u1 u2 u3 : Value} : WideAt ((((w.setCell ⟨b, 0, none⟩ u0).setCell ⟨b, 1, none⟩ u1).setCell ⟨b, 2, none⟩ u2).setCell ⟨b, 3, none⟩ u3) A c n :=
  (((h.far (p := ⟨b, 0, none⟩) hb (by decide)).far (p := ⟨b, 1, none⟩) (hb.set_ 0 u0) (by decide)).far (p := ⟨b, 2, none⟩) ((hb.set_ 0 u0).set_ 1 u1) (by decide)).far (p := ⟨b, 3, none⟩) (((hb.set_ 0 u0).set_ 1 u1).set_ 2 u2) (by decide)
theorem make_facts {n d : Int} (hd : d ≠ 0) (hp : 0 < d) :
    0 < ((Int.gcd n d : Nat) : Int) ∧ (((Int.gcd n d : Nat) : Int) - 1 = 0 ↔ ((Int.gcd n d : Nat) : Int) = 1) ∧
    (Rat.divInt n d).num = n / ((Int.gcd n d : Nat) : Int) ∧ ((Rat.divInt n d).den : Int) = d / ((Int.gcd n d : Nat) : Int) := by
  have h1 : 0 < Int.gcd n d := Int.gcd_pos_of_ne_zero_right n hd
  have h2 := make_num (n := n) hd
  have h3 := make_den (n := n) hd
  have e1 : makeN n d = n := by unfold makeN; rw [if_neg (by omega)]
  have e2 : makeD d = d := by unfold makeD; rw [if_neg (by omega)]
  rw [e1, e2] at h2 h3
  exact ⟨by omega, by omega, h2, h3⟩
theorem neg_make (n d : Int) : Rat.divInt (-n) (-d) = Rat.divInt n d := by first | exact Rat.neg_divInt_neg n d | simp


set_option maxHeartbeats 16000000 in
set_option maxRecDepth 100000 in
theorem ratioMake_neg (a b : Int) (hb0 : b < 0) (M : Nat) (A A2 : Option Addr) (c c2 : Nat) (w : World) (ha : WideAt w A c a) (hb : WideAt w A2 c2 b) (h1 : dl a ≤ M) (h2 : dl b ≤ M) (hM : 2 * M + 6 ≤ wL) :
    Calls Tryz.prog 63 #[wideV a A c, wideV b A2 c2] w (RatRet w (Rat.divInt a b)) := by
  have HAt := Lib.hid (And.intro ha hb)
  have hM' := hM
  have hD1 : dl (-a) ≤ M := by rw [dl_neg]; exact h1
  have hD2 : dl (-b) ≤ M := by rw [dl_neg]; exact h2
  have hyp : 0 < (-b) := by omega
  obtain ⟨f1, f2, f3, f4⟩ := make_facts (n := (-a)) (d := (-b)) (by omega) hyp
  have hrat : Rat.divInt (-a) (-b) = Rat.divInt a b := neg_make a b
  rw [hrat] at f3 f4
  have HF := Lib.hid (And.intro f1 (And.intro f2 (And.intro f3 f4)))
  have hgl : dl ((Int.gcd (-a) (-b) : Nat) : Int) ≤ dl (-b) := dl_le_of (by have := Nat.le_of_dvd (by omega) (Int.gcd_dvd_natAbs_right (-a) (-b)); omega)
  have HB := Lib.hid (show dl (-a) + dl ((Int.gcd (-a) (-b) : Nat) : Int) + 6 ≤ wL ∧ dl (-b) + dl ((Int.gcd (-a) (-b) : Nat) : Int) + 6 ≤ wL ∧ dl ((Int.gcd (-a) (-b) : Nat) : Int) < wL from ⟨by omega, by omega, by omega⟩)
  have HD := Lib.hid (And.intro hD1 (And.intro hD2 hM))
  have hsb : signD b = -1 := by rcases signD_cases b with ⟨h, _⟩ | ⟨_, h⟩ | ⟨h, _⟩ <;> omega
  have HSg := Lib.hid (show ∀ W, Calls Tryz.prog 105 #[.agg #[.int .i64 (signD b), .slice A2 (dl b) c2]] W fun e w' => e = .returned (.int .i64 (-1)) ∧ Below W.heap.size W w' from fun W => (wideSign_any b A2 c2 W).mono fun e w' h => ⟨by rw [h.1, hsb], h.2⟩)
  have HN1 := Lib.hid (fun W => wideNeg_any a A c W)
  have HN2 := Lib.hid (fun W => wideNeg_any b A2 c2 W)
  have HSb := Lib.hid hsb
  clear ha hb hM hM' h1 h2 hD1 hD2 f1 f2 f3 f4 hrat hgl hsb hyp hb0
  unfold wideV
  unfold wideV at HN1 HN2
  go_enter Tryz.func63, Tryz.ntmps63
  have G0 := Lib.hid (show MakeSt w a b A A2 c c2 (((w.alloc (.cells #[.int .i64 (signD a), .slice A (dl a) c] 53)).alloc (.cells #[.int .i64 (signD b), .slice A2 (dl b) c2] 53)).alloc (.cells #[.int .i64 0, .slice none 0 0, .int .i64 0, .slice none 0 0] 55)) from ⟨(Blk.newAt rfl).alloc.alloc, (Blk.newAt (by simp)).alloc, Blk.newAt (by simp), HAt.out.1.past (pa (pa (pa pr))), HAt.out.2.past (pa (pa (pa pr))), pa (pa (pa pr))⟩)
  go_wp2_with (go_at_call 105; (with_reducible refine (HSg.out _).mono ?_); rintro e w1 ⟨rfl, hb1⟩; have G1 := Lib.hid (G0.out.past hb1); clear hb1)
  have X1 := Lib.hid G1.out.b1
  have X2 := Lib.hid G1.out.b2
  have HSS := Lib.hid (show ∀ W, Below w1.heap.size w1 W → W.cell? ⟨w.heap.size, 0, none⟩ = some (.int .i64 (signD a)) ∧ W.cell? ⟨w.heap.size, 1, none⟩ = some (.slice A (dl a) c) ∧ W.cell? ⟨w.heap.size + 1, 0, none⟩ = some (.int .i64 (signD b)) ∧ W.cell? ⟨w.heap.size + 1, 1, none⟩ = some (.slice A2 (dl b) c2) from fun W hW => ⟨(X1.out.past hW).cellAt 0 rfl, (X1.out.past hW).cellAt 1 rfl, (X2.out.past hW).cellAt 0 rfl, (X2.out.past hW).cellAt 1 rfl⟩)
  refine wp_region_G 4 follows_mixed (fun W => W.cell? ⟨w.heap.size, 0, none⟩ = some (.int .i64 (signD a)) ∧ W.cell? ⟨w.heap.size, 1, none⟩ = some (.slice A (dl a) c) ∧ W.cell? ⟨w.heap.size + 1, 0, none⟩ = some (.int .i64 (signD b)) ∧ W.cell? ⟨w.heap.size + 1, 1, none⟩ = some (.slice A2 (dl b) c2)) (HSS.out _ (pd pr)) ?_
  intro hSd inv
  have HSd := Lib.hid hSd
  clear hSd
  have HB0 := Lib.hid (show Below w1.heap.size w1 w1.drew from pd pr)
  refine wpAnyG_take (i := 0) (v := ?_) rfl (by kernel_rfl) (by kernel_rfl) (by kernel_rfl) (by kernel_rfl) (by kernel_rfl) (by decide) (by decide) inv (fun _ _ _ h => h) (Or.inl ⟨by rfl, ?_⟩) HSd.out ?_; rotate_left; (focus (intro W y1; obtain ⟨y1, y2, y3, y4⟩ := y1; go_simp; (first | done | with_reducible rfl))); clear inv; intro inv; simp only [List.getElem_toArray, List.getElem_cons_zero, Act.put, List.setIfInBounds_toArray, List.set_cons_zero, List.set_cons_succ]
  refine wpAnyG_take (i := 2) (v := ?_) rfl (by kernel_rfl) (by kernel_rfl) (by kernel_rfl) (by kernel_rfl) (by kernel_rfl) (by decide) (by decide) inv (fun _ _ _ h => h) (Or.inl ⟨by rfl, ?_⟩) HSd.out ?_; rotate_left; (focus (intro W y1; obtain ⟨y1, y2, y3, y4⟩ := y1; go_simp; (first | done | with_reducible rfl))); clear inv; intro inv; simp only [List.getElem_toArray, List.getElem_cons_zero, List.getElem_cons_succ, Act.put, List.setIfInBounds_toArray, List.set_cons_zero, List.set_cons_succ]
  have HInv := Lib.hid inv
  clear inv
  refine wpAnyG_one (i := 1) (by kernel_rfl) rfl rfl fun K hK => ?_
  go_simp
  refine (HN1.out _).mono ?_
  rintro e w4 ⟨rfl, hb⟩
  have HBx1 := Lib.hid (show Below w1.heap.size w1 w4 from pt HB0.out hb)
  refine hK.out _ _ (fun _ => HSS.out _ HBx1.out) ?_
  clear hK K hb
  replace HInv := Lib.hid (inv_one (i := 1) HInv.out (by kernel_rfl) (by decide))
  refine wpAnyG_one (i := 3) (by kernel_rfl) rfl rfl fun K hK => ?_
  go_simp
  refine (HN2.out _).mono ?_
  rintro e w5 ⟨rfl, hb⟩
  have HBx3 := Lib.hid (show Below w1.heap.size w1 w5 from pt HBx1.out hb)
  have G5 := Lib.hid (G1.out.past HBx3.out)
  refine hK.out _ _ (fun _ => HSS.out _ HBx3.out) ?_
  clear hK K hb
  replace HInv := Lib.hid (inv_one (i := 3) HInv.out (by kernel_rfl) (by decide))
  have f0 := G5.out.b1.frozen 0; have f1 := G5.out.b1.frozen 1; have fl := G5.out.b1.lt; have h0_ := G5.out.b1.cellAt 0 rfl; have h1_ := G5.out.b1.cellAt 1 rfl
  refine wpAnyG_one (i := 4) (by kernel_rfl) rfl rfl fun K hK => ?_
  go_simp
  refine hK.out _ _ (fun h => absurd h (by decide)) ?_
  clear hK K
  clear f0 f1 fl h0_ h1_
  have G_w6 := Lib.hid (G5.out.set1 (G5.out.a1.neg))
  generalize (w5.setCell ⟨w.heap.size, 0, none⟩ (.int .i64 (signD (-a)))).setCell ⟨w.heap.size, 1, none⟩ (.slice A (dl (-a)) c) = w6 at *
  have f0 := G_w6.out.b2.frozen 0; have f1 := G_w6.out.b2.frozen 1; have fl := G_w6.out.b2.lt; have h0_ := G_w6.out.b2.cellAt 0 rfl; have h1_ := G_w6.out.b2.cellAt 1 rfl
  refine wpAnyG_one (i := 5) (by kernel_rfl) rfl rfl fun K hK => ?_
  go_simp
  refine hK.out _ _ (fun h => absurd h (by decide)) ?_
  clear hK K
  clear f0 f1 fl h0_ h1_
  have G_w7 := Lib.hid (G_w6.out.set2 (G_w6.out.a2.neg))
  generalize (w6.setCell ⟨w.heap.size + 1, 0, none⟩ (.int .i64 (signD (-b)))).setCell ⟨w.heap.size + 1, 1, none⟩ (.slice A2 (dl (-b)) c2) = w7 at *
  refine wpAnyG_done (by kernel_rfl) ?_
  clear HInv
  clear HSS HSd HB0
  clear X1 X2 G1 G5 G_w6 HBx1 HBx3 G0 HN1 HN2 HAt HSg
  obtain ⟨v, rfl⟩ : ∃ v, v = w7 := ⟨_, rfl⟩
  have HG := Lib.hid G_w7.out
  clear G_w7
  as_aux_lemma =>
  have x0 := HG.out.b1.cellAt 0 rfl
  have x1 := HG.out.b1.cellAt 1 rfl
  have xl := HG.out.b1.lt
  have y0 := HG.out.b2.cellAt 0 rfl
  have y1 := HG.out.b2.cellAt 1 rfl
  have yl := HG.out.b2.lt
  have HGc := Lib.hid (wideGcd_any (-a) (-b) M A A2 c c2 v HG.out.a1 HG.out.a2 HD.out.1 HD.out.2.1 HD.out.2.2)
  generalize ((Int.gcd (-a) (-b) : Nat) : Int) = g at *
  unfold wideV at HGc
  go_wp2_with (go_at_call 107; (with_reducible refine HGc.out.mono ?_); rintro e w2 ⟨A3, c3, rfl, h3, hb2⟩; have HG2 := Lib.hid (HG.out.past hb2); have H3 := Lib.hid h3; clear hb2 h3 x0 x1 xl y0 y1 yl; unfold wideV)
  have X5 := Lib.hid (Blk.new w2 53 #[.int .i64 (signD g), .slice A3 (dl g) c3])
  have HG := Lib.hid (HG2.out.past (pa (o := .cells #[.int .i64 (signD g), .slice A3 (dl g) c3] 53) pr))
  have H3 := Lib.hid (H3.out.past (pa (o := .cells #[.int .i64 (signD g), .slice A3 (dl g) c3] 53) pr))
  clear HG2 HGc
  generalize w2.alloc (.cells #[.int .i64 (signD g), .slice A3 (dl g) c3] 53) = u at *
  generalize w2.heap.size = gb at *
  have HO1 := Lib.hid (fun W => wideOfInt_any 1 W (by decide) (by decide))
  have HCm := Lib.hid (show ∀ W A7 c7, Below u.heap.size u W → WideAt W A7 c7 1 → Calls Tryz.prog 61 #[.agg #[.int .i64 (signD g), .slice A3 (dl g) c3], wideV 1 A7 c7] W fun e w' => e = .returned (.int .i64 (signD (g - 1))) ∧ Below W.heap.size W w' from fun W A7 c7 hW h7 => wideCmp_any g 1 A3 A7 c3 c7 W (H3.out.past hW) h7 HB.out.2.2 (Nat.lt_of_le_of_lt (dl_small ⟨by decide, by decide⟩) (by decide)))
  have HSS := Lib.hid (show ∀ W, Below u.heap.size u W → W.cell? ⟨gb, 0, none⟩ = some (.int .i64 (signD g)) ∧ W.cell? ⟨gb, 1, none⟩ = some (.slice A3 (dl g) c3) from fun W hW => ⟨(X5.out.past hW).cellAt 0 rfl, (X5.out.past hW).cellAt 1 rfl⟩)
  refine wp_region_G 3 follows_mixed (fun W => W.cell? ⟨gb, 0, none⟩ = some (.int .i64 (signD g)) ∧ W.cell? ⟨gb, 1, none⟩ = some (.slice A3 (dl g) c3)) (HSS.out _ (pd pr)) ?_
  intro hSd inv
  have HSd := Lib.hid hSd
  clear hSd
  have HB0 := Lib.hid (show Below u.heap.size u u.drew from pd pr)
  refine wpAnyG_take (i := 0) (v := ?_) rfl (by kernel_rfl) (by kernel_rfl) (by kernel_rfl) (by kernel_rfl) (by kernel_rfl) (by decide) (by decide) inv (fun _ _ _ h => h) (Or.inl ⟨by rfl, ?_⟩) HSd.out ?_; rotate_left; (focus (intro W y1; obtain ⟨y1, y2⟩ := y1; go_simp; (first | done | with_reducible rfl))); clear inv; intro inv; simp only [List.getElem_toArray, List.getElem_cons_zero, Act.put, List.setIfInBounds_toArray, List.set_cons_zero, List.set_cons_succ]
  have HInv := Lib.hid inv
  clear inv
  refine wpAnyG_one (i := 1) (by kernel_rfl) rfl rfl fun K hK => ?_
  go_simp
  refine (HO1.out _).mono ?_
  rintro e w4 ⟨A7, c7, rfl, h7, hb⟩
  have HBx1 := Lib.hid (show Below u.heap.size u w4 from pt HB0.out hb)
  have H7 := Lib.hid h7
  clear h7
  refine hK.out _ _ (fun _ => HSS.out _ HBx1.out) ?_
  clear hK K hb
  replace HInv := Lib.hid (inv_one (i := 1) HInv.out (by kernel_rfl) (by decide))
  refine wpAnyG_one (i := 2) (by kernel_rfl) rfl rfl fun K hK => ?_
  go_simp
  refine (HCm.out _ A7 c7 HBx1.out H7.out).mono ?_
  rintro e w5 ⟨rfl, hb⟩
  have HBx2 := Lib.hid (show Below u.heap.size u w5 from pt HBx1.out hb)
  refine hK.out _ _ (fun _ => HSS.out _ HBx2.out) ?_
  clear hK K hb
  replace HInv := Lib.hid (inv_one (i := 2) HInv.out (by kernel_rfl) (by decide))
  refine wpAnyG_one (i := 3) (by kernel_rfl) rfl rfl fun K hK => ?_
  go_simp
  refine hK.out _ _ (fun h => absurd h (by decide)) ?_
  clear hK K
  refine wpAnyG_done (by kernel_rfl) ?_
  clear HInv
  clear HSS HSd HB0
  have HG := Lib.hid (HG.out.past HBx2.out)
  have X5 := Lib.hid (X5.out.past HBx2.out)
  have H3 := Lib.hid (H3.out.past HBx2.out)
  clear H7 HBx1 HBx2 HO1 HCm
  obtain ⟨v, rfl⟩ : ∃ v, v = w5 := ⟨_, rfl⟩
  have x0 := HG.out.b1.cellAt 0 rfl
  have x1 := HG.out.b1.cellAt 1 rfl
  have xl := HG.out.b1.lt
  have y0 := HG.out.b2.cellAt 0 rfl
  have y1 := HG.out.b2.cellAt 1 rfl
  have yl := HG.out.b2.lt
  by_cases hg : g = 1
  · as_aux_lemma =>
    have e0 : signD (g - 1) = 0 := by rw [hg]; rfl
    have hN : (Rat.divInt a b).num = (-a) := by rw [HF.out.2.2.1, hg, Int.ediv_one]
    have hD : ((Rat.divInt a b).den : Int) = (-b) := by rw [HF.out.2.2.2, hg, Int.ediv_one]
    have HWv := Lib.hid (show ratV (Rat.divInt a b) A c A2 c2 = .agg #[.int .i64 (signD (-a)), .slice A (dl (-a)) c, .int .i64 (signD (-b)), .slice A2 (dl (-b)) c2] by unfold ratV; rw [hN, hD])
    have HRa := Lib.hid (show ∀ W, MakeSt w (-a) (-b) A A2 c c2 W → RatAt W A c A2 c2 (Rat.divInt a b) from fun W h => ⟨by rw [hN]; exact h.a1, by rw [hD]; exact h.a2⟩)
    have R3 := HG.out.b3
    rw [e0]
    clear hN hD e0 hg
    go_wp2_with ((with_reducible refine store_blk (T := 55) (x := .tmp 4) (y := .tmp 22) (vs := #[.int .i64 (signD (-a)), .slice A (dl (-a)) c, .int .i64 (signD (-b)), .slice A2 (dl (-b)) c2]) R3 ?_ ?_ ?_ ?_ ?_ ?_); (focus rfl); (focus exact ratio_size); (focus (simp [Value.oneCell']; done)); (focus rfl); (focus rfl); intro WF RF PF)
    have HPut := Lib.hid (show RatAt WF A c A2 c2 (Rat.divInt a b) from ⟨(HRa.out _ HG.out).1.put R3 (by decide) PF, (HRa.out _ HG.out).2.put R3 (by decide) PF⟩)
    have g0 := RF.cellAt 0 rfl
    have g1 := RF.cellAt 1 rfl
    have g2 := RF.cellAt 2 rfl
    have g3 := RF.cellAt 3 rfl
    exact bodyPost_ret (v := .agg #[.int .i64 (signD (-a)), .slice A (dl (-a)) c, .int .i64 (signD (-b)), .slice A2 (dl (-b)) c2]) (by simp [results, Tryz.results63, go_sem, g0, g1, g2, g3]) rfl ⟨A, c, A2, c2, by rw [HWv.out], HPut.out, pp HG.out.q PF (Nat.le_add_right _ 2)⟩
  · as_aux_lemma =>
    have e0 : ¬ signD (g - 1) = 0 := fun e => hg (HF.out.2.1.1 (signD_zero.1 e))
    have e1 : (signD (g - 1) == 0) = false := beq_eq_false_iff_ne.2 e0
    clear hg
    have X1 := Lib.hid HG.out.b1
    have X2 := Lib.hid HG.out.b2
    have HF1 := Lib.hid (show ∀ W, Below v.heap.size v W → Calls Tryz.prog 108 #[.agg #[.int .i64 (signD (-a)), .slice A (dl (-a)) c], .agg #[.int .i64 (signD g), .slice A3 (dl g) c3]] W (WideRet W (Rat.divInt a b).num) from fun W hW => by
      have zz := wideFloor_any (-a) g HF.out.1 A A3 c c3 W (HG.out.a1.past hW) (H3.out.past hW) HB.out.1
      rw [← HF.out.2.2.1] at zz
      exact zz)
    have HF2 := Lib.hid (show ∀ W, Below v.heap.size v W → Calls Tryz.prog 108 #[.agg #[.int .i64 (signD (-b)), .slice A2 (dl (-b)) c2], .agg #[.int .i64 (signD g), .slice A3 (dl g) c3]] W (WideRet W ((Rat.divInt a b).den : Int)) from fun W hW => by
      have zz := wideFloor_any (-b) g HF.out.1 A2 A3 c2 c3 W (HG.out.a2.past hW) (H3.out.past hW) HB.out.2.1
      rw [← HF.out.2.2.2] at zz
      exact zz)
    go_wp2
    clear x0 x1 xl y0 y1 yl
    have HSS := Lib.hid (show ∀ W, Below v.heap.size v W → W.cell? ⟨w.heap.size, 0, none⟩ = some (.int .i64 (signD (-a))) ∧ W.cell? ⟨w.heap.size, 1, none⟩ = some (.slice A (dl (-a)) c) ∧ W.cell? ⟨w.heap.size + 1, 0, none⟩ = some (.int .i64 (signD (-b))) ∧ W.cell? ⟨w.heap.size + 1, 1, none⟩ = some (.slice A2 (dl (-b)) c2) ∧ W.cell? ⟨gb, 0, none⟩ = some (.int .i64 (signD g)) ∧ W.cell? ⟨gb, 1, none⟩ = some (.slice A3 (dl g) c3) from fun W hW => ⟨(X1.out.past hW).cellAt 0 rfl, (X1.out.past hW).cellAt 1 rfl, (X2.out.past hW).cellAt 0 rfl, (X2.out.past hW).cellAt 1 rfl, (X5.out.past hW).cellAt 0 rfl, (X5.out.past hW).cellAt 1 rfl⟩)
    refine wp_region_G 7 follows_mixed (fun W => W.cell? ⟨w.heap.size, 0, none⟩ = some (.int .i64 (signD (-a))) ∧ W.cell? ⟨w.heap.size, 1, none⟩ = some (.slice A (dl (-a)) c) ∧ W.cell? ⟨w.heap.size + 1, 0, none⟩ = some (.int .i64 (signD (-b))) ∧ W.cell? ⟨w.heap.size + 1, 1, none⟩ = some (.slice A2 (dl (-b)) c2) ∧ W.cell? ⟨gb, 0, none⟩ = some (.int .i64 (signD g)) ∧ W.cell? ⟨gb, 1, none⟩ = some (.slice A3 (dl g) c3)) (HSS.out _ (pd pr)) ?_
    intro hSd inv
    have HSd := Lib.hid hSd
    clear hSd
    have HB0 := Lib.hid (show Below v.heap.size v v.drew from pd pr)
    refine wpAnyG_take (i := 0) (v := ?_) rfl (by kernel_rfl) (by kernel_rfl) (by kernel_rfl) (by kernel_rfl) (by kernel_rfl) (by decide) (by decide) inv (fun _ _ _ h => h) (Or.inl ⟨by rfl, ?_⟩) HSd.out ?_; rotate_left; (focus (intro W y1; obtain ⟨y1, y2, y3, y4, y5, y6⟩ := y1; go_simp; (first | done | with_reducible rfl))); clear inv; intro inv; simp only [List.getElem_toArray, List.getElem_cons_zero, Act.put, List.setIfInBounds_toArray, List.set_cons_zero, List.set_cons_succ]
    refine wpAnyG_take (i := 1) (v := ?_) rfl (by kernel_rfl) (by kernel_rfl) (by kernel_rfl) (by kernel_rfl) (by kernel_rfl) (by decide) (by decide) inv (fun _ _ _ h => h) (Or.inl ⟨by rfl, ?_⟩) HSd.out ?_; rotate_left; (focus (intro W y1; obtain ⟨y1, y2, y3, y4, y5, y6⟩ := y1; go_simp; (first | done | with_reducible rfl))); clear inv; intro inv; simp only [List.getElem_toArray, List.getElem_cons_zero, List.getElem_cons_succ, Act.put, List.setIfInBounds_toArray, List.set_cons_zero, List.set_cons_succ]
    refine wpAnyG_take (i := 3) (v := ?_) rfl (by kernel_rfl) (by kernel_rfl) (by kernel_rfl) (by kernel_rfl) (by kernel_rfl) (by decide) (by decide) inv (fun _ _ _ h => h) (Or.inl ⟨by rfl, ?_⟩) HSd.out ?_; rotate_left; (focus (intro W y1; obtain ⟨y1, y2, y3, y4, y5, y6⟩ := y1; go_simp; (first | done | with_reducible rfl))); clear inv; intro inv; simp only [List.getElem_toArray, List.getElem_cons_zero, List.getElem_cons_succ, Act.put, List.setIfInBounds_toArray, List.set_cons_zero, List.set_cons_succ]
    refine wpAnyG_take (i := 4) (v := ?_) rfl (by kernel_rfl) (by kernel_rfl) (by kernel_rfl) (by kernel_rfl) (by kernel_rfl) (by decide) (by decide) inv (fun _ _ _ h => h) (Or.inl ⟨by rfl, ?_⟩) HSd.out ?_; rotate_left; (focus (intro W y1; obtain ⟨y1, y2, y3, y4, y5, y6⟩ := y1; go_simp; (first | done | with_reducible rfl))); clear inv; intro inv; simp only [List.getElem_toArray, List.getElem_cons_zero, List.getElem_cons_succ, Act.put, List.setIfInBounds_toArray, List.set_cons_zero, List.set_cons_succ]
    have HInv := Lib.hid inv
    clear inv
    refine wpAnyG_one (i := 2) (by kernel_rfl) rfl rfl fun K hK => ?_
    go_simp
    refine (HF1.out _ HB0.out).mono ?_
    rintro e w6 ⟨A8, c8, rfl, h8, hb⟩
    have HBx2 := Lib.hid (show Below v.heap.size v w6 from pt HB0.out hb)
    have H8 := Lib.hid h8
    clear h8
    unfold wideV
    refine hK.out _ _ (fun _ => HSS.out _ HBx2.out) ?_
    clear hK K hb
    replace HInv := Lib.hid (inv_one (i := 2) HInv.out (by kernel_rfl) (by decide))
    refine wpAnyG_one (i := 5) (by kernel_rfl) rfl rfl fun K hK => ?_
    go_simp
    refine (HF2.out _ HBx2.out).mono ?_
    rintro e w7 ⟨A9, c9, rfl, h9, hb⟩
    have HBx5 := Lib.hid (show Below v.heap.size v w7 from pt HBx2.out hb)
    have H9 := Lib.hid h9
    have H8 := Lib.hid (H8.out.past hb)
    clear h9
    unfold wideV
    refine hK.out _ _ (fun _ => HSS.out _ HBx5.out) ?_
    clear hK K hb
    replace HInv := Lib.hid (inv_one (i := 5) HInv.out (by kernel_rfl) (by decide))
    refine wpAnyG_one (i := 6) (by kernel_rfl) rfl rfl fun K hK => ?_
    go_simp
    refine hK.out _ _ (fun _ => HSS.out _ HBx5.out) ?_
    clear hK K
    replace HInv := Lib.hid (inv_one (i := 6) HInv.out (by kernel_rfl) (by decide))
    have R7 := Lib.hid ((HG.out.past HBx5.out).b3)
    have Q7 := Lib.hid ((HG.out.past HBx5.out).q)
    have f0 := R7.out.frozen 0; have f1 := R7.out.frozen 1; have f2 := R7.out.frozen 2; have f3 := R7.out.frozen 3; have fl := R7.out.lt; have h0_ := R7.out.cellAt 0 rfl; have h1_ := R7.out.cellAt 1 rfl; have h2_ := R7.out.cellAt 2 rfl; have h3_ := R7.out.cellAt 3 rfl
    refine wpAnyG_one (i := 7) (by kernel_rfl) rfl rfl fun K hK => ?_
    go_simp
    refine hK.out _ _ (fun h => absurd h (by decide)) ?_
    clear hK K
    refine wpAnyG_done (by kernel_rfl) ?_
    clear HInv
    clear HSS HSd HB0
    clear f0 f1 f2 f3 fl h0_ h1_ h2_ h3_
    have hR := (((R7.out.set_ 0 (.int .i64 (signD (Rat.divInt a b).num))).set_ 1 (.slice A8 (dl (Rat.divInt a b).num) c8)).set_ 2 (.int .i64 (signD ((Rat.divInt a b).den : Int)))).set_ 3 (.slice A9 (dl ((Rat.divInt a b).den : Int)) c9)
    have hA := rat_far R7.out H8.out (u0 := (.int .i64 (signD (Rat.divInt a b).num))) (u1 := (.slice A8 (dl (Rat.divInt a b).num) c8)) (u2 := (.int .i64 (signD ((Rat.divInt a b).den : Int)))) (u3 := (.slice A9 (dl ((Rat.divInt a b).den : Int)) c9))
    have hA2 := rat_far R7.out H9.out (u0 := (.int .i64 (signD (Rat.divInt a b).num))) (u1 := (.slice A8 (dl (Rat.divInt a b).num) c8)) (u2 := (.int .i64 (signD ((Rat.divInt a b).den : Int)))) (u3 := (.slice A9 (dl ((Rat.divInt a b).den : Int)) c9))
    have hQ := ps (ps (ps (ps Q7.out (p := ⟨w.heap.size + 1 + 1, 0, none⟩) (u := (.int .i64 (signD (Rat.divInt a b).num))) (Nat.le_add_right _ 2)) (p := ⟨w.heap.size + 1 + 1, 1, none⟩) (u := (.slice A8 (dl (Rat.divInt a b).num) c8)) (Nat.le_add_right _ 2)) (p := ⟨w.heap.size + 1 + 1, 2, none⟩) (u := (.int .i64 (signD ((Rat.divInt a b).den : Int)))) (Nat.le_add_right _ 2)) (p := ⟨w.heap.size + 1 + 1, 3, none⟩) (u := (.slice A9 (dl ((Rat.divInt a b).den : Int)) c9)) (Nat.le_add_right _ 2)
    generalize (((w7.setCell ⟨w.heap.size + 1 + 1, 0, none⟩ (.int .i64 (signD (Rat.divInt a b).num))).setCell ⟨w.heap.size + 1 + 1, 1, none⟩ (.slice A8 (dl (Rat.divInt a b).num) c8)).setCell ⟨w.heap.size + 1 + 1, 2, none⟩ (.int .i64 (signD ((Rat.divInt a b).den : Int)))).setCell ⟨w.heap.size + 1 + 1, 3, none⟩ (.slice A9 (dl ((Rat.divInt a b).den : Int)) c9) = wz at *
    have g0 := hR.cellAt 0 rfl
    have g1 := hR.cellAt 1 rfl
    have g2 := hR.cellAt 2 rfl
    have g3 := hR.cellAt 3 rfl
    go_wp2
    exact bodyPost_ret (v := .agg #[.int .i64 (signD (Rat.divInt a b).num), .slice A8 (dl (Rat.divInt a b).num) c8, .int .i64 (signD ((Rat.divInt a b).den : Int)), .slice A9 (dl ((Rat.divInt a b).den : Int)) c9]) (by simp [results, Tryz.results63, go_sem, g0, g1, g2, g3]) rfl ⟨A8, c8, A9, c9, rfl, ⟨hA, hA2⟩, hQ⟩

set_option maxHeartbeats 16000000 in
set_option maxRecDepth 100000 in
theorem ratioMake_pos (a b : Int) (hb0 : 0 < b) (M : Nat) (A A2 : Option Addr) (c c2 : Nat) (w : World) (ha : WideAt w A c a) (hb : WideAt w A2 c2 b) (h1 : dl a ≤ M) (h2 : dl b ≤ M) (hM : 2 * M + 6 ≤ wL) :
    Calls Tryz.prog 63 #[wideV a A c, wideV b A2 c2] w (RatRet w (Rat.divInt a b)) := by
  have HAt := Lib.hid (And.intro ha hb)
  have hM' := hM
  have hD1 : dl a ≤ M := by exact h1
  have hD2 : dl b ≤ M := by exact h2
  have hyp : 0 < b := by omega
  obtain ⟨f1, f2, f3, f4⟩ := make_facts (n := a) (d := b) (by omega) hyp
  have hrat : Rat.divInt a b = Rat.divInt a b := rfl
  rw [hrat] at f3 f4
  have HF := Lib.hid (And.intro f1 (And.intro f2 (And.intro f3 f4)))
  have hgl : dl ((Int.gcd a b : Nat) : Int) ≤ dl b := dl_le_of (by have := Nat.le_of_dvd (by omega) (Int.gcd_dvd_natAbs_right a b); omega)
  have HB := Lib.hid (show dl a + dl ((Int.gcd a b : Nat) : Int) + 6 ≤ wL ∧ dl b + dl ((Int.gcd a b : Nat) : Int) + 6 ≤ wL ∧ dl ((Int.gcd a b : Nat) : Int) < wL from ⟨by omega, by omega, by omega⟩)
  have HD := Lib.hid (And.intro hD1 (And.intro hD2 hM))
  have hsb : signD b = 1 := by rcases signD_cases b with ⟨h, _⟩ | ⟨_, h⟩ | ⟨h, _⟩ <;> omega
  have HSg := Lib.hid (show ∀ W, Calls Tryz.prog 105 #[.agg #[.int .i64 (signD b), .slice A2 (dl b) c2]] W fun e w' => e = .returned (.int .i64 (1)) ∧ Below W.heap.size W w' from fun W => (wideSign_any b A2 c2 W).mono fun e w' h => ⟨by rw [h.1, hsb], h.2⟩)
  have HN1 := Lib.hid (fun W => wideNeg_any a A c W)
  have HN2 := Lib.hid (fun W => wideNeg_any b A2 c2 W)
  have HSb := Lib.hid hsb
  clear ha hb hM hM' h1 h2 hD1 hD2 f1 f2 f3 f4 hrat hgl hsb hyp hb0
  unfold wideV
  unfold wideV at HN1 HN2
  go_enter Tryz.func63, Tryz.ntmps63
  have G0 := Lib.hid (show MakeSt w a b A A2 c c2 (((w.alloc (.cells #[.int .i64 (signD a), .slice A (dl a) c] 53)).alloc (.cells #[.int .i64 (signD b), .slice A2 (dl b) c2] 53)).alloc (.cells #[.int .i64 0, .slice none 0 0, .int .i64 0, .slice none 0 0] 55)) from ⟨(Blk.newAt rfl).alloc.alloc, (Blk.newAt (by simp)).alloc, Blk.newAt (by simp), HAt.out.1.past (pa (pa (pa pr))), HAt.out.2.past (pa (pa (pa pr))), pa (pa (pa pr))⟩)
  go_upto_region 3 with (go_at_call 105; (with_reducible refine (HSg.out _).mono ?_); rintro e w1 ⟨rfl, hb1⟩; have G1 := Lib.hid (G0.out.past hb1); clear hb1)
  clear G0 HN1 HN2 HAt HSg
  obtain ⟨v, rfl⟩ : ∃ v, v = w1 := ⟨_, rfl⟩
  have HG := Lib.hid G1.out
  clear G1
  as_aux_lemma =>
  have x0 := HG.out.b1.cellAt 0 rfl
  have x1 := HG.out.b1.cellAt 1 rfl
  have xl := HG.out.b1.lt
  have y0 := HG.out.b2.cellAt 0 rfl
  have y1 := HG.out.b2.cellAt 1 rfl
  have yl := HG.out.b2.lt
  have HGc := Lib.hid (wideGcd_any a b M A A2 c c2 v HG.out.a1 HG.out.a2 HD.out.1 HD.out.2.1 HD.out.2.2)
  generalize ((Int.gcd a b : Nat) : Int) = g at *
  unfold wideV at HGc
  go_wp2_with (go_at_call 107; (with_reducible refine HGc.out.mono ?_); rintro e w2 ⟨A3, c3, rfl, h3, hb2⟩; have HG2 := Lib.hid (HG.out.past hb2); have H3 := Lib.hid h3; clear hb2 h3 x0 x1 xl y0 y1 yl; unfold wideV)
  have X5 := Lib.hid (Blk.new w2 53 #[.int .i64 (signD g), .slice A3 (dl g) c3])
  have HG := Lib.hid (HG2.out.past (pa (o := .cells #[.int .i64 (signD g), .slice A3 (dl g) c3] 53) pr))
  have H3 := Lib.hid (H3.out.past (pa (o := .cells #[.int .i64 (signD g), .slice A3 (dl g) c3] 53) pr))
  clear HG2 HGc
  generalize w2.alloc (.cells #[.int .i64 (signD g), .slice A3 (dl g) c3] 53) = u at *
  generalize w2.heap.size = gb at *
  have HO1 := Lib.hid (fun W => wideOfInt_any 1 W (by decide) (by decide))
  have HCm := Lib.hid (show ∀ W A7 c7, Below u.heap.size u W → WideAt W A7 c7 1 → Calls Tryz.prog 61 #[.agg #[.int .i64 (signD g), .slice A3 (dl g) c3], wideV 1 A7 c7] W fun e w' => e = .returned (.int .i64 (signD (g - 1))) ∧ Below W.heap.size W w' from fun W A7 c7 hW h7 => wideCmp_any g 1 A3 A7 c3 c7 W (H3.out.past hW) h7 HB.out.2.2 (Nat.lt_of_le_of_lt (dl_small ⟨by decide, by decide⟩) (by decide)))
  have HSS := Lib.hid (show ∀ W, Below u.heap.size u W → W.cell? ⟨gb, 0, none⟩ = some (.int .i64 (signD g)) ∧ W.cell? ⟨gb, 1, none⟩ = some (.slice A3 (dl g) c3) from fun W hW => ⟨(X5.out.past hW).cellAt 0 rfl, (X5.out.past hW).cellAt 1 rfl⟩)
  refine wp_region_G 3 follows_mixed (fun W => W.cell? ⟨gb, 0, none⟩ = some (.int .i64 (signD g)) ∧ W.cell? ⟨gb, 1, none⟩ = some (.slice A3 (dl g) c3)) (HSS.out _ (pd pr)) ?_
  intro hSd inv
  have HSd := Lib.hid hSd
  clear hSd
  have HB0 := Lib.hid (show Below u.heap.size u u.drew from pd pr)
  refine wpAnyG_take (i := 0) (v := ?_) rfl (by kernel_rfl) (by kernel_rfl) (by kernel_rfl) (by kernel_rfl) (by kernel_rfl) (by decide) (by decide) inv (fun _ _ _ h => h) (Or.inl ⟨by rfl, ?_⟩) HSd.out ?_; rotate_left; (focus (intro W y1; obtain ⟨y1, y2⟩ := y1; go_simp; (first | done | with_reducible rfl))); clear inv; intro inv; simp only [List.getElem_toArray, List.getElem_cons_zero, Act.put, List.setIfInBounds_toArray, List.set_cons_zero, List.set_cons_succ]
  have HInv := Lib.hid inv
  clear inv
  refine wpAnyG_one (i := 1) (by kernel_rfl) rfl rfl fun K hK => ?_
  go_simp
  refine (HO1.out _).mono ?_
  rintro e w4 ⟨A7, c7, rfl, h7, hb⟩
  have HBx1 := Lib.hid (show Below u.heap.size u w4 from pt HB0.out hb)
  have H7 := Lib.hid h7
  clear h7
  refine hK.out _ _ (fun _ => HSS.out _ HBx1.out) ?_
  clear hK K hb
  replace HInv := Lib.hid (inv_one (i := 1) HInv.out (by kernel_rfl) (by decide))
  refine wpAnyG_one (i := 2) (by kernel_rfl) rfl rfl fun K hK => ?_
  go_simp
  refine (HCm.out _ A7 c7 HBx1.out H7.out).mono ?_
  rintro e w5 ⟨rfl, hb⟩
  have HBx2 := Lib.hid (show Below u.heap.size u w5 from pt HBx1.out hb)
  refine hK.out _ _ (fun _ => HSS.out _ HBx2.out) ?_
  clear hK K hb
  replace HInv := Lib.hid (inv_one (i := 2) HInv.out (by kernel_rfl) (by decide))
  refine wpAnyG_one (i := 3) (by kernel_rfl) rfl rfl fun K hK => ?_
  go_simp
  refine hK.out _ _ (fun h => absurd h (by decide)) ?_
  clear hK K
  refine wpAnyG_done (by kernel_rfl) ?_
  clear HInv
  clear HSS HSd HB0
  have HG := Lib.hid (HG.out.past HBx2.out)
  have X5 := Lib.hid (X5.out.past HBx2.out)
  have H3 := Lib.hid (H3.out.past HBx2.out)
  clear H7 HBx1 HBx2 HO1 HCm
  obtain ⟨v, rfl⟩ : ∃ v, v = w5 := ⟨_, rfl⟩
  have x0 := HG.out.b1.cellAt 0 rfl
  have x1 := HG.out.b1.cellAt 1 rfl
  have xl := HG.out.b1.lt
  have y0 := HG.out.b2.cellAt 0 rfl
  have y1 := HG.out.b2.cellAt 1 rfl
  have yl := HG.out.b2.lt
  by_cases hg : g = 1
  · as_aux_lemma =>
    have e0 : signD (g - 1) = 0 := by rw [hg]; rfl
    have hN : (Rat.divInt a b).num = a := by rw [HF.out.2.2.1, hg, Int.ediv_one]
    have hD : ((Rat.divInt a b).den : Int) = b := by rw [HF.out.2.2.2, hg, Int.ediv_one]
    have HWv := Lib.hid (show ratV (Rat.divInt a b) A c A2 c2 = .agg #[.int .i64 (signD a), .slice A (dl a) c, .int .i64 (signD b), .slice A2 (dl b) c2] by unfold ratV; rw [hN, hD])
    have HRa := Lib.hid (show ∀ W, MakeSt w a b A A2 c c2 W → RatAt W A c A2 c2 (Rat.divInt a b) from fun W h => ⟨by rw [hN]; exact h.a1, by rw [hD]; exact h.a2⟩)
    have R3 := HG.out.b3
    rw [e0]
    clear hN hD e0 hg
    go_wp2_with ((with_reducible refine store_blk (T := 55) (x := .tmp 4) (y := .tmp 22) (vs := #[.int .i64 (signD a), .slice A (dl a) c, .int .i64 (signD b), .slice A2 (dl b) c2]) R3 ?_ ?_ ?_ ?_ ?_ ?_); (focus rfl); (focus exact ratio_size); (focus (simp [Value.oneCell']; done)); (focus rfl); (focus rfl); intro WF RF PF)
    have HPut := Lib.hid (show RatAt WF A c A2 c2 (Rat.divInt a b) from ⟨(HRa.out _ HG.out).1.put R3 (by decide) PF, (HRa.out _ HG.out).2.put R3 (by decide) PF⟩)
    have g0 := RF.cellAt 0 rfl
    have g1 := RF.cellAt 1 rfl
    have g2 := RF.cellAt 2 rfl
    have g3 := RF.cellAt 3 rfl
    exact bodyPost_ret (v := .agg #[.int .i64 (signD a), .slice A (dl a) c, .int .i64 (signD b), .slice A2 (dl b) c2]) (by simp [results, Tryz.results63, go_sem, g0, g1, g2, g3]) rfl ⟨A, c, A2, c2, by rw [HWv.out], HPut.out, pp HG.out.q PF (Nat.le_add_right _ 2)⟩
  · as_aux_lemma =>
    have e0 : ¬ signD (g - 1) = 0 := fun e => hg (HF.out.2.1.1 (signD_zero.1 e))
    have e1 : (signD (g - 1) == 0) = false := beq_eq_false_iff_ne.2 e0
    clear hg
    have X1 := Lib.hid HG.out.b1
    have X2 := Lib.hid HG.out.b2
    have HF1 := Lib.hid (show ∀ W, Below v.heap.size v W → Calls Tryz.prog 108 #[.agg #[.int .i64 (signD a), .slice A (dl a) c], .agg #[.int .i64 (signD g), .slice A3 (dl g) c3]] W (WideRet W (Rat.divInt a b).num) from fun W hW => by
      have zz := wideFloor_any a g HF.out.1 A A3 c c3 W (HG.out.a1.past hW) (H3.out.past hW) HB.out.1
      rw [← HF.out.2.2.1] at zz
      exact zz)
    have HF2 := Lib.hid (show ∀ W, Below v.heap.size v W → Calls Tryz.prog 108 #[.agg #[.int .i64 (signD b), .slice A2 (dl b) c2], .agg #[.int .i64 (signD g), .slice A3 (dl g) c3]] W (WideRet W ((Rat.divInt a b).den : Int)) from fun W hW => by
      have zz := wideFloor_any b g HF.out.1 A2 A3 c2 c3 W (HG.out.a2.past hW) (H3.out.past hW) HB.out.2.1
      rw [← HF.out.2.2.2] at zz
      exact zz)
    go_wp2
    clear x0 x1 xl y0 y1 yl
    have HSS := Lib.hid (show ∀ W, Below v.heap.size v W → W.cell? ⟨w.heap.size, 0, none⟩ = some (.int .i64 (signD a)) ∧ W.cell? ⟨w.heap.size, 1, none⟩ = some (.slice A (dl a) c) ∧ W.cell? ⟨w.heap.size + 1, 0, none⟩ = some (.int .i64 (signD b)) ∧ W.cell? ⟨w.heap.size + 1, 1, none⟩ = some (.slice A2 (dl b) c2) ∧ W.cell? ⟨gb, 0, none⟩ = some (.int .i64 (signD g)) ∧ W.cell? ⟨gb, 1, none⟩ = some (.slice A3 (dl g) c3) from fun W hW => ⟨(X1.out.past hW).cellAt 0 rfl, (X1.out.past hW).cellAt 1 rfl, (X2.out.past hW).cellAt 0 rfl, (X2.out.past hW).cellAt 1 rfl, (X5.out.past hW).cellAt 0 rfl, (X5.out.past hW).cellAt 1 rfl⟩)
    refine wp_region_G 7 follows_mixed (fun W => W.cell? ⟨w.heap.size, 0, none⟩ = some (.int .i64 (signD a)) ∧ W.cell? ⟨w.heap.size, 1, none⟩ = some (.slice A (dl a) c) ∧ W.cell? ⟨w.heap.size + 1, 0, none⟩ = some (.int .i64 (signD b)) ∧ W.cell? ⟨w.heap.size + 1, 1, none⟩ = some (.slice A2 (dl b) c2) ∧ W.cell? ⟨gb, 0, none⟩ = some (.int .i64 (signD g)) ∧ W.cell? ⟨gb, 1, none⟩ = some (.slice A3 (dl g) c3)) (HSS.out _ (pd pr)) ?_
    intro hSd inv
    have HSd := Lib.hid hSd
    clear hSd
    have HB0 := Lib.hid (show Below v.heap.size v v.drew from pd pr)
    refine wpAnyG_take (i := 0) (v := ?_) rfl (by kernel_rfl) (by kernel_rfl) (by kernel_rfl) (by kernel_rfl) (by kernel_rfl) (by decide) (by decide) inv (fun _ _ _ h => h) (Or.inl ⟨by rfl, ?_⟩) HSd.out ?_; rotate_left; (focus (intro W y1; obtain ⟨y1, y2, y3, y4, y5, y6⟩ := y1; go_simp; (first | done | with_reducible rfl))); clear inv; intro inv; simp only [List.getElem_toArray, List.getElem_cons_zero, Act.put, List.setIfInBounds_toArray, List.set_cons_zero, List.set_cons_succ]
    refine wpAnyG_take (i := 1) (v := ?_) rfl (by kernel_rfl) (by kernel_rfl) (by kernel_rfl) (by kernel_rfl) (by kernel_rfl) (by decide) (by decide) inv (fun _ _ _ h => h) (Or.inl ⟨by rfl, ?_⟩) HSd.out ?_; rotate_left; (focus (intro W y1; obtain ⟨y1, y2, y3, y4, y5, y6⟩ := y1; go_simp; (first | done | with_reducible rfl))); clear inv; intro inv; simp only [List.getElem_toArray, List.getElem_cons_zero, List.getElem_cons_succ, Act.put, List.setIfInBounds_toArray, List.set_cons_zero, List.set_cons_succ]
    refine wpAnyG_take (i := 3) (v := ?_) rfl (by kernel_rfl) (by kernel_rfl) (by kernel_rfl) (by kernel_rfl) (by kernel_rfl) (by decide) (by decide) inv (fun _ _ _ h => h) (Or.inl ⟨by rfl, ?_⟩) HSd.out ?_; rotate_left; (focus (intro W y1; obtain ⟨y1, y2, y3, y4, y5, y6⟩ := y1; go_simp; (first | done | with_reducible rfl))); clear inv; intro inv; simp only [List.getElem_toArray, List.getElem_cons_zero, List.getElem_cons_succ, Act.put, List.setIfInBounds_toArray, List.set_cons_zero, List.set_cons_succ]
    refine wpAnyG_take (i := 4) (v := ?_) rfl (by kernel_rfl) (by kernel_rfl) (by kernel_rfl) (by kernel_rfl) (by kernel_rfl) (by decide) (by decide) inv (fun _ _ _ h => h) (Or.inl ⟨by rfl, ?_⟩) HSd.out ?_; rotate_left; (focus (intro W y1; obtain ⟨y1, y2, y3, y4, y5, y6⟩ := y1; go_simp; (first | done | with_reducible rfl))); clear inv; intro inv; simp only [List.getElem_toArray, List.getElem_cons_zero, List.getElem_cons_succ, Act.put, List.setIfInBounds_toArray, List.set_cons_zero, List.set_cons_succ]
    have HInv := Lib.hid inv
    clear inv
    refine wpAnyG_one (i := 2) (by kernel_rfl) rfl rfl fun K hK => ?_
    go_simp
    refine (HF1.out _ HB0.out).mono ?_
    rintro e w6 ⟨A8, c8, rfl, h8, hb⟩
    have HBx2 := Lib.hid (show Below v.heap.size v w6 from pt HB0.out hb)
    have H8 := Lib.hid h8
    clear h8
    unfold wideV
    refine hK.out _ _ (fun _ => HSS.out _ HBx2.out) ?_
    clear hK K hb
    replace HInv := Lib.hid (inv_one (i := 2) HInv.out (by kernel_rfl) (by decide))
    refine wpAnyG_one (i := 5) (by kernel_rfl) rfl rfl fun K hK => ?_
    go_simp
    refine (HF2.out _ HBx2.out).mono ?_
    rintro e w7 ⟨A9, c9, rfl, h9, hb⟩
    have HBx5 := Lib.hid (show Below v.heap.size v w7 from pt HBx2.out hb)
    have H9 := Lib.hid h9
    have H8 := Lib.hid (H8.out.past hb)
    clear h9
    unfold wideV
    refine hK.out _ _ (fun _ => HSS.out _ HBx5.out) ?_
    clear hK K hb
    replace HInv := Lib.hid (inv_one (i := 5) HInv.out (by kernel_rfl) (by decide))
    refine wpAnyG_one (i := 6) (by kernel_rfl) rfl rfl fun K hK => ?_
    go_simp
    refine hK.out _ _ (fun _ => HSS.out _ HBx5.out) ?_
    clear hK K
    replace HInv := Lib.hid (inv_one (i := 6) HInv.out (by kernel_rfl) (by decide))
    have R7 := Lib.hid ((HG.out.past HBx5.out).b3)
    have Q7 := Lib.hid ((HG.out.past HBx5.out).q)
    have f0 := R7.out.frozen 0; have f1 := R7.out.frozen 1; have f2 := R7.out.frozen 2; have f3 := R7.out.frozen 3; have fl := R7.out.lt; have h0_ := R7.out.cellAt 0 rfl; have h1_ := R7.out.cellAt 1 rfl; have h2_ := R7.out.cellAt 2 rfl; have h3_ := R7.out.cellAt 3 rfl
    refine wpAnyG_one (i := 7) (by kernel_rfl) rfl rfl fun K hK => ?_
    go_simp
    refine hK.out _ _ (fun h => absurd h (by decide)) ?_
    clear hK K
    refine wpAnyG_done (by kernel_rfl) ?_
    clear HInv
    clear HSS HSd HB0
    clear f0 f1 f2 f3 fl h0_ h1_ h2_ h3_
    have hR := (((R7.out.set_ 0 (.int .i64 (signD (Rat.divInt a b).num))).set_ 1 (.slice A8 (dl (Rat.divInt a b).num) c8)).set_ 2 (.int .i64 (signD ((Rat.divInt a b).den : Int)))).set_ 3 (.slice A9 (dl ((Rat.divInt a b).den : Int)) c9)
    have hA := rat_far R7.out H8.out (u0 := (.int .i64 (signD (Rat.divInt a b).num))) (u1 := (.slice A8 (dl (Rat.divInt a b).num) c8)) (u2 := (.int .i64 (signD ((Rat.divInt a b).den : Int)))) (u3 := (.slice A9 (dl ((Rat.divInt a b).den : Int)) c9))
    have hA2 := rat_far R7.out H9.out (u0 := (.int .i64 (signD (Rat.divInt a b).num))) (u1 := (.slice A8 (dl (Rat.divInt a b).num) c8)) (u2 := (.int .i64 (signD ((Rat.divInt a b).den : Int)))) (u3 := (.slice A9 (dl ((Rat.divInt a b).den : Int)) c9))
    have hQ := ps (ps (ps (ps Q7.out (p := ⟨w.heap.size + 1 + 1, 0, none⟩) (u := (.int .i64 (signD (Rat.divInt a b).num))) (Nat.le_add_right _ 2)) (p := ⟨w.heap.size + 1 + 1, 1, none⟩) (u := (.slice A8 (dl (Rat.divInt a b).num) c8)) (Nat.le_add_right _ 2)) (p := ⟨w.heap.size + 1 + 1, 2, none⟩) (u := (.int .i64 (signD ((Rat.divInt a b).den : Int)))) (Nat.le_add_right _ 2)) (p := ⟨w.heap.size + 1 + 1, 3, none⟩) (u := (.slice A9 (dl ((Rat.divInt a b).den : Int)) c9)) (Nat.le_add_right _ 2)
    generalize (((w7.setCell ⟨w.heap.size + 1 + 1, 0, none⟩ (.int .i64 (signD (Rat.divInt a b).num))).setCell ⟨w.heap.size + 1 + 1, 1, none⟩ (.slice A8 (dl (Rat.divInt a b).num) c8)).setCell ⟨w.heap.size + 1 + 1, 2, none⟩ (.int .i64 (signD ((Rat.divInt a b).den : Int)))).setCell ⟨w.heap.size + 1 + 1, 3, none⟩ (.slice A9 (dl ((Rat.divInt a b).den : Int)) c9) = wz at *
    have g0 := hR.cellAt 0 rfl
    have g1 := hR.cellAt 1 rfl
    have g2 := hR.cellAt 2 rfl
    have g3 := hR.cellAt 3 rfl
    go_wp2
    exact bodyPost_ret (v := .agg #[.int .i64 (signD (Rat.divInt a b).num), .slice A8 (dl (Rat.divInt a b).num) c8, .int .i64 (signD ((Rat.divInt a b).den : Int)), .slice A9 (dl ((Rat.divInt a b).den : Int)) c9]) (by simp [results, Tryz.results63, go_sem, g0, g1, g2, g3]) rfl ⟨A8, c8, A9, c9, rfl, ⟨hA, hA2⟩, hQ⟩
theorem ratioMake_any (a b : Int) (hb0 : b ≠ 0) (M : Nat) (A A2 : Option Addr) (c c2 : Nat) (w : World) (ha : WideAt w A c a) (hb : WideAt w A2 c2 b) (h1 : dl a ≤ M) (h2 : dl b ≤ M) (hM : 2 * M + 6 ≤ wL) :
    Calls Tryz.prog 63 #[wideV a A c, wideV b A2 c2] w (RatRet w (Rat.divInt a b)) := by
  by_cases h : b < 0
  · exact ratioMake_neg a b h M A A2 c c2 w ha hb h1 h2 hM
  · exact ratioMake_pos a b (by omega) M A A2 c c2 w ha hb h1 h2 hM

end Go.Proofs.YtpdkbhjcpddnpaaGreatDoor
end
