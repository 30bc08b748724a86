/- Contract: the greatest common divisor of wide numbers. Printed by a program (gen_gcd.py). -/
import Derived.Test.YtpdkbhjcpddnpaaGreatDoorOb3
import Derived.Deep.DeepCutAuto
import Derived.Deep.LoopGhost

section
namespace Go.Proofs.YtpdkbhjcpddnpaaGreatDoor
open Go.RowKit
attribute [local go_sem ↓] Go.wp_at_zero Go.wp_at_succ

theorem inv_one {md : Region.Mode} {ops : Array Oper} {n i : Nat} {listed : Array Bool} (inv : HeadInv md ops n listed) (hr : Region.ready md ops listed = [i]) (hi : i < n) : HeadInv md ops n (listed.setIfInBounds i true) := inv.set (by rw [hr]; exact List.mem_singleton_self i) hi
/-- One of the two that may come up comes up. -/
theorem wpAnyG_two {P : Program} {ops : Array Oper} {md : Region.Mode} {Q : Exit → Act → World → Prop} {S : World → Prop} {n : Nat} {i k : Nat} {oi ok : Oper} {fuel : Nat} {listed : Array Bool} {a : Act} {w : World} (hr : Region.ready md ops listed = [i, k]) (hi : ops[i]? = some oi) (hk : ops[k]? = some ok) (gi : oi.guard = none) (gk : ok.guard = none)
    (h1 : ∀ K' : Act → World → Prop, Hid (∀ a w, (i < n → S w) → wpAnyG P md ops Q S n fuel (listed.setIfInBounds i true) a w → K' a w) → oi.wp P a w K' Q)
    (h2 : ∀ K' : Act → World → Prop, Hid (∀ a w, (k < n → S w) → wpAnyG P md ops Q S n fuel (listed.setIfInBounds k true) a w → K' a w) → ok.wp P a w K' Q) : wpAnyG P md ops Q S n (fuel + 1) listed a w := by
  refine ⟨fun h0 => (by rw [hr] at h0; cases h0), fun j hj => ?_⟩
  rw [hr] at hj
  have hj' : j = i ∨ j = k := by simpa using hj
  rcases hj' with rfl | rfl
  · refine wpOp_step hi fun K' hK => ?_
    rw [if_pos (by simp [Region.wanted, gi])]
    exact h1 K' (Lib.hid fun a w h1 h2 => hK a w ⟨h1, h2⟩)
  · refine wpOp_step hk fun K' hK => ?_
    rw [if_pos (by simp [Region.wanted, gk])]
    exact h2 K' (Lib.hid fun a w h1 h2 => hK a w ⟨h1, h2⟩)

/-- Three boxes of wide numbers, the last one empty. -/
structure GcdSt (w : World) (x y : Int) (A A2 : Option Addr) (c c2 : Nat) (wr : World) : Prop where
  b1 : Blk wr w.heap.size 53 #[.int .i64 (signD x), .slice A (dl x) c]
  b2 : Blk wr (w.heap.size + 1) 53 #[.int .i64 (signD y), .slice A2 (dl y) c2]
  b3 : Blk wr (w.heap.size + 1 + 1) 53 #[.int .i64 0, .slice none 0 0]
  a1 : WideAt wr A c x
  a2 : WideAt wr A2 c2 y
  q : Below w.heap.size w wr
section
variable {w : World} {x y : Int} {A A2 : Option Addr} {c c2 : Nat} {wr W : World}
theorem GcdSt.past (h : GcdSt w x y A A2 c c2 wr) (hb : Below wr.heap.size wr W) : GcdSt w x y A A2 c c2 W := ⟨h.b1.past hb, h.b2.past hb, h.b3.past hb, h.a1.past hb, h.a2.past hb, pt h.q hb⟩
/-- A box is filled anew. -/
theorem GcdSt.set1 (h : GcdSt w x y A A2 c c2 wr) {z : Int} {A3 : Option Addr} {c3 : Nat} (hz : WideAt wr A3 c3 z) : GcdSt w z y A3 A2 c3 c2 ((wr.setCell ⟨w.heap.size, 0, none⟩ (.int .i64 (signD z))).setCell ⟨w.heap.size, 1, none⟩ (.slice A3 (dl z) c3)) := by
  have hb := h.b1
  have hb2 := hb.set_ 0 (.int .i64 (signD z))
  exact ⟨hb2.set_ 1 (.slice A3 (dl z) c3), (h.b2.far (Nat.succ_ne_self _)).far (Nat.succ_ne_self _), (h.b3.far (by show w.heap.size + 1 + 1 ≠ w.heap.size; omega)).far (by show w.heap.size + 1 + 1 ≠ w.heap.size; omega), (hz.far (p := ⟨w.heap.size, 0, none⟩) hb (by decide)).far (p := ⟨w.heap.size, 1, none⟩) hb2 (by decide), (h.a2.far (p := ⟨w.heap.size, 0, none⟩) hb (by decide)).far (p := ⟨w.heap.size, 1, none⟩) hb2 (by decide), ps (ps h.q (Nat.le_refl _)) (Nat.le_refl _)⟩
theorem GcdSt.set2 (h : GcdSt w x y A A2 c c2 wr) {z : Int} {A3 : Option Addr} {c3 : Nat} (hz : WideAt wr A3 c3 z) : GcdSt w x z A A3 c c3 ((wr.setCell ⟨w.heap.size + 1, 0, none⟩ (.int .i64 (signD z))).setCell ⟨w.heap.size + 1, 1, none⟩ (.slice A3 (dl z) c3)) := by
  have hb := h.b2
  have hb2 := hb.set_ 0 (.int .i64 (signD z))
  exact ⟨(h.b1.far (by show w.heap.size ≠ w.heap.size + 1; omega)).far (by show w.heap.size ≠ w.heap.size + 1; omega), hb2.set_ 1 (.slice A3 (dl z) c3), (h.b3.far (by show w.heap.size + 1 + 1 ≠ w.heap.size + 1; omega)).far (by show w.heap.size + 1 + 1 ≠ w.heap.size + 1; omega), (h.a1.far (p := ⟨w.heap.size + 1, 0, none⟩) hb (by decide)).far (p := ⟨w.heap.size + 1, 1, none⟩) hb2 (by decide), (hz.far (p := ⟨w.heap.size + 1, 0, none⟩) hb (by decide)).far (p := ⟨w.heap.size + 1, 1, none⟩) hb2 (by decide), ps (ps h.q (Nat.le_succ _)) (Nat.le_succ _)⟩
theorem GcdSt.off (h : GcdSt w x y A A2 c c2 wr) {b : Nat} {cs : Array Value} (hb : Blk wr b 53 cs) (hn : w.heap.size + 1 + 1 < b) {u0 u1 : Value} : GcdSt w x y A A2 c c2 ((wr.setCell ⟨b, 0, none⟩ u0).setCell ⟨b, 1, none⟩ u1) := by
  have hb2 := hb.set_ 0 u0
  exact ⟨(h.b1.far (by show w.heap.size ≠ b; omega)).far (by show w.heap.size ≠ b; omega), (h.b2.far (by show w.heap.size + 1 ≠ b; omega)).far (by show w.heap.size + 1 ≠ b; omega), (h.b3.far (by show w.heap.size + 1 + 1 ≠ b; omega)).far (by show w.heap.size + 1 + 1 ≠ b; omega), (h.a1.far (p := ⟨b, 0, none⟩) hb (by decide)).far (p := ⟨b, 1, none⟩) hb2 (by decide), (h.a2.far (p := ⟨b, 0, none⟩) hb (by decide)).far (p := ⟨b, 1, none⟩) hb2 (by decide), ps (ps h.q (by show w.heap.size ≤ b; omega)) (by show w.heap.size ≤ b; omega)⟩
end
theorem gcd_next {x y : Int} (hx : 0 ≤ x) (hy : 0 < y) : Int.gcd y (x % y) = Int.gcd x y := by
  obtain ⟨m, rfl⟩ := Int.eq_ofNat_of_zero_le hx
  obtain ⟨n, rfl⟩ := Int.eq_ofNat_of_zero_le (Int.le_of_lt hy)
  rw [← Int.natCast_emod]
  show Nat.gcd n (m % n) = Nat.gcd m n
  rw [Nat.gcd_comm n, ← Nat.gcd_rec, Nat.gcd_comm]
theorem wide_abs {w : World} {A : Option Addr} {c : Nat} {n : Int} (h : WideAt w A c n) : WideAt w A c (n.natAbs : Int) := by
  unfold WideAt dl digD at *
  rw [Int.natAbs_natCast]
  exact h
theorem gcd_facts {x y : Int} {M : Nat} (hx : 0 ≤ x) (hy : 0 < y) (h1 : dl x ≤ M) (h2 : dl y ≤ M) (hM : 2 * M + 6 ≤ wL) :
    (x - x / y * y = x % y ∧ 0 ≤ x % y ∧ x % y < y ∧ dl (x % y) ≤ M) ∧ dl x + dl y + 6 ≤ wL ∧ dl (x / y) + dl y + 1 ≤ wL ∧ dl x < wL ∧ dl (x / y * y) < wL ∧ Int.gcd y (x % y) = Int.gcd x y := by
  have h3 := Int.emod_nonneg x (show y ≠ 0 by omega)
  have h4 := Int.emod_lt_of_pos x hy
  have h5 : dl (x / y) ≤ dl x := dl_div x y
  have h6 := mod_of_floor (a := x) (b := y)
  have h7 : 0 ≤ x / y * y := Int.mul_nonneg (Int.ediv_nonneg hx (Int.le_of_lt hy)) (Int.le_of_lt hy)
  have h8 : dl (x / y * y) ≤ dl x := dl_le_of (by omega)
  have h9 : dl (x % y) ≤ dl y := dl_le_of (by omega)
  refine ⟨⟨h6, h3, h4, by omega⟩, by omega, by omega, by omega, by omega, ?_⟩
  exact gcd_next hx hy
theorem gcd_at_end {x : Int} (hx : 0 ≤ x) : ((Int.gcd x 0 : Nat) : Int) = x := by rw [Int.gcd_zero_right]; omega

set_option maxHeartbeats 16000000 in
set_option maxRecDepth 100000 in
theorem wideGcd_any (a b : Int) (M : Nat) (A A2 : Option Addr) (c c2 : Nat) (w : World) (ha : WideAt w A c a) (hb : WideAt w A2 c2 b) (h1 : dl a ≤ M) (h2 : dl b ≤ M) (hM : 2 * M + 6 ≤ wL) :
    Calls Tryz.prog 107 #[wideV a A c, wideV b A2 c2] w (WideRet w ((Int.gcd a b : Nat) : Int)) := by
  have HS1 := Lib.hid (fun W => wideSize_any a A c W)
  have HS2 := Lib.hid (fun W => wideSize_any b A2 c2 W)
  have HAt := Lib.hid (And.intro ha hb)
  have HG0 := Lib.hid (show Int.gcd (a.natAbs : Int) (b.natAbs : Int) = Int.gcd a b by simp [Int.gcd])
  have HD1 := Lib.hid (show dl (a.natAbs : Int) ≤ M from Nat.le_trans (dl_le_of (by omega)) h1)
  have HD2 := Lib.hid (show dl (b.natAbs : Int) ≤ M from Nat.le_trans (dl_le_of (by omega)) h2)
  have HM := Lib.hid hM
  have hA1 : 0 ≤ (a.natAbs : Int) := Int.natCast_nonneg _
  have hA2 : 0 ≤ (b.natAbs : Int) := Int.natCast_nonneg _
  have HA1 := Lib.hid hA1
  have HA2 := Lib.hid hA2
  have HWa := Lib.hid (fun W (h : WideAt W A c a) => show WideAt W A c (a.natAbs : Int) from wide_abs h)
  have HWb := Lib.hid (fun W (h : WideAt W A2 c2 b) => show WideAt W A2 c2 (b.natAbs : Int) from wide_abs h)
  clear ha hb h1 h2 hM hA1 hA2
  generalize hga : Int.gcd a b = G at *
  clear hga
  unfold wideV
  obtain ⟨aa, haa⟩ : ∃ x, (a.natAbs : Int) = x := ⟨_, rfl⟩
  obtain ⟨bb, hbb⟩ : ∃ x, (b.natAbs : Int) = x := ⟨_, rfl⟩
  rw [haa] at HS1 HG0 HD1 HA1 HWa
  rw [hbb] at HS2 HG0 HD2 HA2 HWb
  clear haa hbb
  unfold wideV at HS1 HS2
  go_enter Tryz.func107, Tryz.ntmps107
  go_wp2
  have G0 := Lib.hid (show GcdSt w a b A A2 c c2 (((w.alloc (.cells #[.int .i64 (signD a), .slice A (dl a) c] 53)).alloc (.cells #[.int .i64 (signD b), .slice A2 (dl b) c2] 53)).alloc (.cells #[.int .i64 0, .slice none 0 0] 53)) from ⟨(Blk.newAt rfl).alloc.alloc, (Blk.newAt (by simp)).alloc, Blk.newAt (by simp), HAt.out.1.past (pa (pa (pa pr))), HAt.out.2.past (pa (pa (pa pr))), pa (pa (pa pr))⟩)
  have X1 := Lib.hid G0.out.b1
  have X2 := Lib.hid G0.out.b2
  generalize (((w.alloc (.cells #[.int .i64 (signD a), .slice A (dl a) c] 53)).alloc (.cells #[.int .i64 (signD b), .slice A2 (dl b) c2] 53)).alloc (.cells #[.int .i64 0, .slice none 0 0] 53)) = v at *
  have HSS := Lib.hid (show ∀ W, Below v.heap.size v W → W.cell? ⟨w.heap.size, 0, none⟩ = some (.int .i64 (signD a)) ∧ W.cell? ⟨w.heap.size, 1, none⟩ = some (.slice A (dl a) c) ∧ W.cell? ⟨w.heap.size + 1, 0, none⟩ = some (.int .i64 (signD b)) ∧ W.cell? ⟨w.heap.size + 1, 1, none⟩ = some (.slice A2 (dl b) c2) from fun W hW => ⟨(X1.out.past hW).cellAt 0 rfl, (X1.out.past hW).cellAt 1 rfl, (X2.out.past hW).cellAt 0 rfl, (X2.out.past hW).cellAt 1 rfl⟩)
  refine wp_region_G 4 follows_mixed (fun W => W.cell? ⟨w.heap.size, 0, none⟩ = some (.int .i64 (signD a)) ∧ W.cell? ⟨w.heap.size, 1, none⟩ = some (.slice A (dl a) c) ∧ W.cell? ⟨w.heap.size + 1, 0, none⟩ = some (.int .i64 (signD b)) ∧ W.cell? ⟨w.heap.size + 1, 1, none⟩ = some (.slice A2 (dl b) c2)) (HSS.out _ (pd pr)) ?_
  intro hSd inv
  have HSd := Lib.hid hSd
  clear hSd
  have HB0 := Lib.hid (show Below v.heap.size v v.drew from pd pr)
  refine wpAnyG_take (i := 0) (v := ?_) rfl (by kernel_rfl) (by kernel_rfl) (by kernel_rfl) (by kernel_rfl) (by kernel_rfl) (by decide) (by decide) inv (fun _ _ _ h => h) (Or.inl ⟨by rfl, ?_⟩) HSd.out ?_; rotate_left; (focus (intro W y1; obtain ⟨y1, y2, y3, y4⟩ := y1; go_simp; (first | done | with_reducible rfl))); clear inv; intro inv; simp only [List.getElem_toArray, List.getElem_cons_zero, Act.put, List.setIfInBounds_toArray, List.set_cons_zero, List.set_cons_succ]
  refine wpAnyG_take (i := 2) (v := ?_) rfl (by kernel_rfl) (by kernel_rfl) (by kernel_rfl) (by kernel_rfl) (by kernel_rfl) (by decide) (by decide) inv (fun _ _ _ h => h) (Or.inl ⟨by rfl, ?_⟩) HSd.out ?_; rotate_left; (focus (intro W y1; obtain ⟨y1, y2, y3, y4⟩ := y1; go_simp; (first | done | with_reducible rfl))); clear inv; intro inv; simp only [List.getElem_toArray, List.getElem_cons_zero, List.getElem_cons_succ, Act.put, List.setIfInBounds_toArray, List.set_cons_zero, List.set_cons_succ]
  have HInv := Lib.hid inv
  clear inv
  refine wpAnyG_one (i := 1) (by kernel_rfl) rfl rfl fun K hK => ?_
  go_simp
  refine (HS1.out _).mono ?_
  rintro e w4 ⟨rfl, hb⟩
  have HBx1 := Lib.hid (show Below v.heap.size v w4 from pt HB0.out hb)
  refine hK.out _ _ (fun _ => HSS.out _ HBx1.out) ?_
  clear hK K hb
  replace HInv := Lib.hid (inv_one (i := 1) HInv.out (by kernel_rfl) (by decide))
  refine wpAnyG_one (i := 3) (by kernel_rfl) rfl rfl fun K hK => ?_
  go_simp
  refine (HS2.out _).mono ?_
  rintro e w5 ⟨rfl, hb⟩
  have HBx3 := Lib.hid (show Below v.heap.size v w5 from pt HBx1.out hb)
  have G5 := Lib.hid (G0.out.past HBx3.out)
  refine hK.out _ _ (fun _ => HSS.out _ HBx3.out) ?_
  clear hK K hb
  replace HInv := Lib.hid (inv_one (i := 3) HInv.out (by kernel_rfl) (by decide))
  have f0 := G5.out.b1.frozen 0; have f1 := G5.out.b1.frozen 1; have fl := G5.out.b1.lt; have h0_ := G5.out.b1.cellAt 0 rfl; have h1_ := G5.out.b1.cellAt 1 rfl
  refine wpAnyG_one (i := 4) (by kernel_rfl) rfl rfl fun K hK => ?_
  go_simp
  refine hK.out _ _ (fun h => absurd h (by decide)) ?_
  clear hK K
  clear f0 f1 fl h0_ h1_
  have G_w6 := Lib.hid (G5.out.set1 (HWa.out _ G5.out.a1))
  generalize (w5.setCell ⟨w.heap.size, 0, none⟩ (.int .i64 (signD aa))).setCell ⟨w.heap.size, 1, none⟩ (.slice A (dl aa) c) = w6 at *
  have Gb6 := Lib.hid (show WideAt w6 A2 c2 bb from G_w6.out.a2 |> fun h => HWb.out _ h)
  have f0 := G_w6.out.b2.frozen 0; have f1 := G_w6.out.b2.frozen 1; have fl := G_w6.out.b2.lt; have h0_ := G_w6.out.b2.cellAt 0 rfl; have h1_ := G_w6.out.b2.cellAt 1 rfl
  refine wpAnyG_one (i := 5) (by kernel_rfl) rfl rfl fun K hK => ?_
  go_simp
  refine hK.out _ _ (fun h => absurd h (by decide)) ?_
  clear hK K
  clear f0 f1 fl h0_ h1_
  have G_w7 := Lib.hid (G_w6.out.set2 (Gb6.out))
  generalize (w6.setCell ⟨w.heap.size + 1, 0, none⟩ (.int .i64 (signD bb))).setCell ⟨w.heap.size + 1, 1, none⟩ (.slice A2 (dl bb) c2) = w7 at *
  refine wpAnyG_done (by kernel_rfl) ?_
  clear HInv
  clear HSS HSd HB0
  clear G0 G5 G_w6 Gb6 X1 X2 HWa HWb HS1 HS2 HAt HBx1 HBx3
  as_aux_lemma =>
  go_wp2
  go_loopg [] (bb.toNat) (fun k wr => ∃ (x y : Int) (A4 : Option Addr) (c4 : Nat) (A5 : Option Addr) (c5 : Nat), 0 ≤ x ∧ 0 ≤ y ∧ y.toNat ≤ k ∧ dl x ≤ M ∧ dl y ≤ M ∧ Int.gcd x y = G ∧ GcdSt w x y A4 A5 c4 c5 wr)
  case atStart => exact ⟨aa, bb, A, c, A2, c2, HA1.out, HA2.out, Nat.le_refl _, HD1.out, HD2.out, HG0.out, G_w7.out⟩
  case round =>
    clear G_w7 HA1 HA2 HD1 HD2 HG0
    obtain ⟨x, y, A4, c4, A5, c5, hx, hy, hk, hdx, hdy, hg, hst⟩ := hrel
    have HS := Lib.hid hst
    have HGx := Lib.hid hg
    have HDs := Lib.hid (And.intro hdx hdy)
    have HXY := Lib.hid (And.intro hx hy)
    have HKk := Lib.hid hk
    have HSg := Lib.hid (fun W => wideSign_any y A5 c5 W)
    have y0 := hst.b2.cellAt 0 rfl
    have y1 := hst.b2.cellAt 1 rfl
    have yl := hst.b2.lt
    clear hst hg hdx hdy hx hk
    unfold wideV at HSg
    by_cases hy0 : y = 0
    · as_aux_lemma =>
      have e0 : signD y = 0 := by rw [hy0]; rfl
      have HRes := Lib.hid (show ((G : Nat) : Int) = x by rw [← HGx.out, hy0]; exact gcd_at_end HXY.out.1)
      rw [e0] at HSg y0
      clear hy hy0 e0
      have HWv := Lib.hid (show wideV ((G : Nat) : Int) A4 c4 = .agg #[.int .i64 (signD x), .slice A4 (dl x) c4] by rw [HRes.out]; rfl)
      go_wp2_with (first
        | (go_at_call 105; (with_reducible refine (HSg.out _).mono ?_); rintro e w2 ⟨rfl, hb2⟩; have HS2 := Lib.hid (HS.out.past hb2); clear hb2 y0 y1 yl; have x0 := HS2.out.b1.cellAt 0 rfl; have x1 := HS2.out.b1.cellAt 1 rfl; have xl := HS2.out.b1.lt; have R3 := HS2.out.b3)
        | ((with_reducible refine store_blk (T := 53) (x := .tmp 4) (y := .tmp 22) (vs := #[.int .i64 (signD x), .slice A4 (dl x) c4]) R3 ?_ ?_ ?_ ?_ ?_ ?_); (focus rfl); (focus exact wide_size); (focus (simp [Value.oneCell']; done)); (focus rfl); (focus rfl); intro WF RF PF))
      have g0 := RF.cellAt 0 rfl
      have g1 := RF.cellAt 1 rfl
      have hAt := HS2.out.a1
      rw [← HRes.out] at hAt
      exact bodyPost_ret (v := .agg #[.int .i64 (signD x), .slice A4 (dl x) c4]) (by simp [results, Tryz.results107, go_sem, g0, g1]) rfl ⟨A4, c4, by rw [HWv.out], hAt.put R3 (by decide) PF, pp HS2.out.q PF (Nat.le_add_right _ 2)⟩
    · as_aux_lemma =>
      have hyp : 0 < y := by omega
      have e0 : (signD y != 0) = true := by simpa using (fun e => hy0 (signD_zero.1 e) : ¬ signD y = 0)
      have e1 : ¬ signD y = 0 := fun e => hy0 (signD_zero.1 e)
      have HF := Lib.hid (gcd_facts HXY.out.1 hyp HDs.out.1 HDs.out.2 HM.out)
      have HYp := Lib.hid hyp
      have hkk : (x % y).toNat < y.toNat := by have := HF.out.1.2.2.1; omega
      have HKl := Lib.hid hkk
      clear hy hy0 hyp hkk
      go_wp2_with (go_at_call 105; (with_reducible refine (HSg.out _).mono ?_); rintro e w2 ⟨rfl, hb2⟩; have HS2 := Lib.hid (HS.out.past hb2); clear hb2 y0 y1 yl)
      obtain ⟨v, rfl⟩ : ∃ v, v = w2 := ⟨_, rfl⟩
      have X1 := Lib.hid HS2.out.b1
      have X2 := Lib.hid HS2.out.b2
      have HFl := Lib.hid (show ∀ W, Below v.heap.size v W → Calls Tryz.prog 108 #[.agg #[.int .i64 (signD x), .slice A4 (dl x) c4], .agg #[.int .i64 (signD y), .slice A5 (dl y) c5]] W (WideRet W (x / y)) from fun W hW => wideFloor_any x y HYp.out A4 A5 c4 c5 W (HS2.out.a1.past hW) (HS2.out.a2.past hW) HF.out.2.1)
      have HMu := Lib.hid (show ∀ W A6 c6, Below v.heap.size v W → WideAt W A6 c6 (x / y) → Calls Tryz.prog 62 #[.agg #[.int .i64 (signD (x / y)), .slice A6 (dl (x / y)) c6], .agg #[.int .i64 (signD y), .slice A5 (dl y) c5]] W (WideRet W (x / y * y)) from fun W A6 c6 hW h6 => wideMul_any (x / y) y A6 A5 c6 c5 W h6 (HS2.out.a2.past hW) HF.out.2.2.1)
      have HSb := Lib.hid (show ∀ W A6 c6, Below v.heap.size v W → WideAt W A6 c6 (x / y * y) → Calls Tryz.prog 103 #[.agg #[.int .i64 (signD x), .slice A4 (dl x) c4], .agg #[.int .i64 (signD (x / y * y)), .slice A6 (dl (x / y * y)) c6]] W (WideRet W (x % y)) from fun W A6 c6 hW h6 => by
        have zz := wideSub_any x (x / y * y) A4 A6 c4 c6 W (HS2.out.a1.past hW) h6 HF.out.2.2.2.1 HF.out.2.2.2.2.1
        rw [HF.out.1.1] at zz
        exact zz)
      go_cut [5] (fun pv wx => ∃ (bx : Nat) (A6 : Option Addr) (c6 : Nat), pv = .pointer (some ⟨bx, 0, none⟩) ∧ w.heap.size + 1 + 1 < bx ∧ Blk wx bx 53 #[.int .i64 (signD (x % y)), .slice A6 (dl (x % y)) c6] ∧ WideAt wx A6 c6 (x % y) ∧ GcdSt w x y A4 A5 c4 c5 wx)
      case first =>
        have HSS := Lib.hid (show ∀ W, Below v.heap.size v W → W.cell? ⟨w.heap.size, 0, none⟩ = some (.int .i64 (signD x)) ∧ W.cell? ⟨w.heap.size, 1, none⟩ = some (.slice A4 (dl x) c4) ∧ W.cell? ⟨w.heap.size + 1, 0, none⟩ = some (.int .i64 (signD y)) ∧ W.cell? ⟨w.heap.size + 1, 1, none⟩ = some (.slice A5 (dl y) c5) from fun W hW => ⟨(X1.out.past hW).cellAt 0 rfl, (X1.out.past hW).cellAt 1 rfl, (X2.out.past hW).cellAt 0 rfl, (X2.out.past hW).cellAt 1 rfl⟩)
        refine wp_region_G 8 follows_mixed (fun W => W.cell? ⟨w.heap.size, 0, none⟩ = some (.int .i64 (signD x)) ∧ W.cell? ⟨w.heap.size, 1, none⟩ = some (.slice A4 (dl x) c4) ∧ W.cell? ⟨w.heap.size + 1, 0, none⟩ = some (.int .i64 (signD y)) ∧ W.cell? ⟨w.heap.size + 1, 1, none⟩ = some (.slice A5 (dl y) c5)) (HSS.out _ (pd pr)) ?_
        intro hSd inv
        have HSd := Lib.hid hSd
        clear hSd
        have HB0 := Lib.hid (show Below v.heap.size v v.drew from pd pr)
        refine wpAnyG_take (i := 0) (v := ?_) rfl (by kernel_rfl) (by kernel_rfl) (by kernel_rfl) (by kernel_rfl) (by kernel_rfl) (by decide) (by decide) inv (fun _ _ _ h => h) (Or.inl ⟨by rfl, ?_⟩) HSd.out ?_; rotate_left; (focus (intro W y1; obtain ⟨y1, y2, y3, y4⟩ := y1; go_simp; (first | done | with_reducible rfl))); clear inv; intro inv; simp only [List.getElem_toArray, List.getElem_cons_zero, Act.put, List.setIfInBounds_toArray, List.set_cons_zero, List.set_cons_succ]
        refine wpAnyG_take (i := 1) (v := ?_) rfl (by kernel_rfl) (by kernel_rfl) (by kernel_rfl) (by kernel_rfl) (by kernel_rfl) (by decide) (by decide) inv (fun _ _ _ h => h) (Or.inl ⟨by rfl, ?_⟩) HSd.out ?_; rotate_left; (focus (intro W y1; obtain ⟨y1, y2, y3, y4⟩ := y1; go_simp; (first | done | with_reducible rfl))); clear inv; intro inv; simp only [List.getElem_toArray, List.getElem_cons_zero, List.getElem_cons_succ, Act.put, List.setIfInBounds_toArray, List.set_cons_zero, List.set_cons_succ]
        refine wpAnyG_take (i := 2) (v := ?_) rfl (by kernel_rfl) (by kernel_rfl) (by kernel_rfl) (by kernel_rfl) (by kernel_rfl) (by decide) (by decide) inv (fun _ _ _ h => h) (Or.inl ⟨by rfl, ?_⟩) HSd.out ?_; rotate_left; (focus (intro W y1; obtain ⟨y1, y2, y3, y4⟩ := y1; go_simp; (first | done | with_reducible rfl))); clear inv; intro inv; simp only [List.getElem_toArray, List.getElem_cons_zero, List.getElem_cons_succ, Act.put, List.setIfInBounds_toArray, List.set_cons_zero, List.set_cons_succ]
        refine wpAnyG_take (i := 4) (v := ?_) rfl (by kernel_rfl) (by kernel_rfl) (by kernel_rfl) (by kernel_rfl) (by kernel_rfl) (by decide) (by decide) inv (fun _ _ _ h => h) (Or.inl ⟨by rfl, ?_⟩) HSd.out ?_; rotate_left; (focus (intro W y1; obtain ⟨y1, y2, y3, y4⟩ := y1; go_simp; (first | done | with_reducible rfl))); clear inv; intro inv; simp only [List.getElem_toArray, List.getElem_cons_zero, List.getElem_cons_succ, Act.put, List.setIfInBounds_toArray, List.set_cons_zero, List.set_cons_succ]
        have HInv := Lib.hid inv
        clear inv
        clear HInv
        generalize v.drew = vd at *
        refine wpAnyG_two (i := 3) (k := 7) (by kernel_rfl) rfl rfl rfl rfl (fun K hK => ?_) (fun K hK => ?_)
        · go_simp
          refine (HFl.out _ HB0.out).mono ?_
          rintro e wf ⟨Af, cf, rfl, hf, hb⟩
          have HBx3 := Lib.hid (show Below v.heap.size v wf from pt HB0.out hb)
          have HFa := Lib.hid hf
          clear hf
          unfold wideV
          refine hK.out _ _ (fun _ => HSS.out _ HBx3.out) ?_
          clear hK K hb
          refine wpAnyG_two (i := 5) (k := 7) (by kernel_rfl) rfl rfl rfl rfl (fun K hK => ?_) (fun K hK => ?_)
          · go_simp
            refine (HMu.out _ Af cf HBx3.out HFa.out).mono ?_
            rintro e wm ⟨Am, cm, rfl, hm, hb⟩
            have HBx5 := Lib.hid (show Below v.heap.size v wm from pt HBx3.out hb)
            have HMa := Lib.hid hm
            clear hm
            unfold wideV
            refine hK.out _ _ (fun _ => HSS.out _ HBx5.out) ?_
            clear hK K hb
            refine wpAnyG_two (i := 6) (k := 7) (by kernel_rfl) rfl rfl rfl rfl (fun K hK => ?_) (fun K hK => ?_)
            · go_simp
              refine (HSb.out _ Am cm HBx5.out HMa.out).mono ?_
              rintro e ws ⟨As, cs_, rfl, hs_, hb⟩
              have HBx6 := Lib.hid (show Below v.heap.size v ws from pt HBx5.out hb)
              have HSa_ := Lib.hid hs_
              clear hs_
              unfold wideV
              refine hK.out _ _ (fun _ => HSS.out _ HBx6.out) ?_
              clear hK K hb
              have HNb := Lib.hid (show w.heap.size + 1 + 1 < ws.heap.size from (HS2.out.past HBx6.out).b3.lt)
              refine wpAnyG_one (i := 7) (by kernel_rfl) rfl rfl fun K hK => ?_
              go_simp
              replace HSa_ := Lib.hid (HSa_.out.past (pa (o := (Obj.cells #[.int .i64 0, .slice none 0 0] 53)) (pr (w := ws))))
              have HBn := Lib.hid (show Below v.heap.size v (ws.alloc (Obj.cells #[.int .i64 0, .slice none 0 0] 53)) from HBx6.out.alloc HBx6.out.size _)
              have XN := Lib.hid (Blk.new ws 53 #[.int .i64 0, .slice none 0 0])
              refine hK.out _ _ (fun _ => HSS.out _ HBn.out) ?_
              clear hK K
              generalize ws.alloc (Obj.cells #[.int .i64 0, .slice none 0 0] 53) = wn at *
              generalize ws.heap.size = nb at *
              have HSn := Lib.hid HSa_.out
              have f0 := XN.out.frozen 0; have f1 := XN.out.frozen 1; have fl := XN.out.lt; have h0_ := XN.out.cellAt 0 rfl; have h1_ := XN.out.cellAt 1 rfl
              refine wpAnyG_one (i := 8) (by kernel_rfl) rfl rfl fun K hK => ?_
              go_simp
              refine hK.out _ _ (fun h => absurd h (by decide)) ?_
              clear hK K
              refine wpAnyG_done (by kernel_rfl) ?_
              clear f0 f1 fl h0_ h1_
              have hR := (XN.out.set_ 0 (.int .i64 (signD (x % y)))).set_ 1 (.slice As (dl (x % y)) cs_)
              have hAf := (HSn.out.far (p := ⟨nb, 0, none⟩) XN.out (by decide) (u := .int .i64 (signD (x % y)))).far (p := ⟨nb, 1, none⟩) (XN.out.set_ 0 (.int .i64 (signD (x % y)))) (by decide) (u := .slice As (dl (x % y)) cs_)
              have hGs := GcdSt.off (b := nb) (HS2.out.past HBn.out) XN.out HNb.out (u0 := .int .i64 (signD (x % y))) (u1 := .slice As (dl (x % y)) cs_)
              go_wp2
              go_meet
              case rel => exact ⟨nb, As, cs_, rfl, HNb.out, hR, hAf, hGs⟩
            · go_simp
              have HNb := Lib.hid (show w.heap.size + 1 + 1 < wm.heap.size from (HS2.out.past HBx5.out).b3.lt)
              replace HMa := Lib.hid (HMa.out.past (pa (o := (Obj.cells #[.int .i64 0, .slice none 0 0] 53)) (pr (w := wm))))
              have HBn := Lib.hid (show Below v.heap.size v (wm.alloc (Obj.cells #[.int .i64 0, .slice none 0 0] 53)) from HBx5.out.alloc HBx5.out.size _)
              have XN := Lib.hid (Blk.new wm 53 #[.int .i64 0, .slice none 0 0])
              refine hK.out _ _ (fun _ => HSS.out _ HBn.out) ?_
              clear hK K
              generalize wm.alloc (Obj.cells #[.int .i64 0, .slice none 0 0] 53) = wn at *
              generalize wm.heap.size = nb at *
              refine wpAnyG_one (i := 6) (by kernel_rfl) rfl rfl fun K hK => ?_
              go_simp
              refine (HSb.out _ Am cm HBn.out HMa.out).mono ?_
              rintro e ws ⟨As, cs_, rfl, hs_, hb⟩
              have HBx6 := Lib.hid (show Below v.heap.size v ws from pt HBn.out hb)
              have HSa_ := Lib.hid hs_
              clear hs_
              replace XN := Lib.hid (XN.out.past hb)
              unfold wideV
              refine hK.out _ _ (fun _ => HSS.out _ HBx6.out) ?_
              clear hK K hb
              have HSn := Lib.hid HSa_.out
              have f0 := XN.out.frozen 0; have f1 := XN.out.frozen 1; have fl := XN.out.lt; have h0_ := XN.out.cellAt 0 rfl; have h1_ := XN.out.cellAt 1 rfl
              refine wpAnyG_one (i := 8) (by kernel_rfl) rfl rfl fun K hK => ?_
              go_simp
              refine hK.out _ _ (fun h => absurd h (by decide)) ?_
              clear hK K
              refine wpAnyG_done (by kernel_rfl) ?_
              clear f0 f1 fl h0_ h1_
              have hR := (XN.out.set_ 0 (.int .i64 (signD (x % y)))).set_ 1 (.slice As (dl (x % y)) cs_)
              have hAf := (HSn.out.far (p := ⟨nb, 0, none⟩) XN.out (by decide) (u := .int .i64 (signD (x % y)))).far (p := ⟨nb, 1, none⟩) (XN.out.set_ 0 (.int .i64 (signD (x % y)))) (by decide) (u := .slice As (dl (x % y)) cs_)
              have hGs := GcdSt.off (b := nb) (HS2.out.past HBx6.out) XN.out HNb.out (u0 := .int .i64 (signD (x % y))) (u1 := .slice As (dl (x % y)) cs_)
              go_wp2
              go_meet
              case rel => exact ⟨nb, As, cs_, rfl, HNb.out, hR, hAf, hGs⟩
          · go_simp
            have HNb := Lib.hid (show w.heap.size + 1 + 1 < wf.heap.size from (HS2.out.past HBx3.out).b3.lt)
            replace HFa := Lib.hid (HFa.out.past (pa (o := (Obj.cells #[.int .i64 0, .slice none 0 0] 53)) (pr (w := wf))))
            have HBn := Lib.hid (show Below v.heap.size v (wf.alloc (Obj.cells #[.int .i64 0, .slice none 0 0] 53)) from HBx3.out.alloc HBx3.out.size _)
            have XN := Lib.hid (Blk.new wf 53 #[.int .i64 0, .slice none 0 0])
            refine hK.out _ _ (fun _ => HSS.out _ HBn.out) ?_
            clear hK K
            generalize wf.alloc (Obj.cells #[.int .i64 0, .slice none 0 0] 53) = wn at *
            generalize wf.heap.size = nb at *
            refine wpAnyG_one (i := 5) (by kernel_rfl) rfl rfl fun K hK => ?_
            go_simp
            refine (HMu.out _ Af cf HBn.out HFa.out).mono ?_
            rintro e wm ⟨Am, cm, rfl, hm, hb⟩
            have HBx5 := Lib.hid (show Below v.heap.size v wm from pt HBn.out hb)
            have HMa := Lib.hid hm
            clear hm
            replace XN := Lib.hid (XN.out.past hb)
            unfold wideV
            refine hK.out _ _ (fun _ => HSS.out _ HBx5.out) ?_
            clear hK K hb
            refine wpAnyG_one (i := 6) (by kernel_rfl) rfl rfl fun K hK => ?_
            go_simp
            refine (HSb.out _ Am cm HBx5.out HMa.out).mono ?_
            rintro e ws ⟨As, cs_, rfl, hs_, hb⟩
            have HBx6 := Lib.hid (show Below v.heap.size v ws from pt HBx5.out hb)
            have HSa_ := Lib.hid hs_
            clear hs_
            replace XN := Lib.hid (XN.out.past hb)
            unfold wideV
            refine hK.out _ _ (fun _ => HSS.out _ HBx6.out) ?_
            clear hK K hb
            have HSn := Lib.hid HSa_.out
            have f0 := XN.out.frozen 0; have f1 := XN.out.frozen 1; have fl := XN.out.lt; have h0_ := XN.out.cellAt 0 rfl; have h1_ := XN.out.cellAt 1 rfl
            refine wpAnyG_one (i := 8) (by kernel_rfl) rfl rfl fun K hK => ?_
            go_simp
            refine hK.out _ _ (fun h => absurd h (by decide)) ?_
            clear hK K
            refine wpAnyG_done (by kernel_rfl) ?_
            clear f0 f1 fl h0_ h1_
            have hR := (XN.out.set_ 0 (.int .i64 (signD (x % y)))).set_ 1 (.slice As (dl (x % y)) cs_)
            have hAf := (HSn.out.far (p := ⟨nb, 0, none⟩) XN.out (by decide) (u := .int .i64 (signD (x % y)))).far (p := ⟨nb, 1, none⟩) (XN.out.set_ 0 (.int .i64 (signD (x % y)))) (by decide) (u := .slice As (dl (x % y)) cs_)
            have hGs := GcdSt.off (b := nb) (HS2.out.past HBx6.out) XN.out HNb.out (u0 := .int .i64 (signD (x % y))) (u1 := .slice As (dl (x % y)) cs_)
            go_wp2
            go_meet
            case rel => exact ⟨nb, As, cs_, rfl, HNb.out, hR, hAf, hGs⟩
        · go_simp
          have HNb := Lib.hid (show w.heap.size + 1 + 1 < vd.heap.size from (HS2.out.past HB0.out).b3.lt)
          have HBn := Lib.hid (show Below v.heap.size v (vd.alloc (Obj.cells #[.int .i64 0, .slice none 0 0] 53)) from HB0.out.alloc HB0.out.size _)
          have XN := Lib.hid (Blk.new vd 53 #[.int .i64 0, .slice none 0 0])
          refine hK.out _ _ (fun _ => HSS.out _ HBn.out) ?_
          clear hK K
          generalize vd.alloc (Obj.cells #[.int .i64 0, .slice none 0 0] 53) = wn at *
          generalize vd.heap.size = nb at *
          refine wpAnyG_one (i := 3) (by kernel_rfl) rfl rfl fun K hK => ?_
          go_simp
          refine (HFl.out _ HBn.out).mono ?_
          rintro e wf ⟨Af, cf, rfl, hf, hb⟩
          have HBx3 := Lib.hid (show Below v.heap.size v wf from pt HBn.out hb)
          have HFa := Lib.hid hf
          clear hf
          replace XN := Lib.hid (XN.out.past hb)
          unfold wideV
          refine hK.out _ _ (fun _ => HSS.out _ HBx3.out) ?_
          clear hK K hb
          refine wpAnyG_one (i := 5) (by kernel_rfl) rfl rfl fun K hK => ?_
          go_simp
          refine (HMu.out _ Af cf HBx3.out HFa.out).mono ?_
          rintro e wm ⟨Am, cm, rfl, hm, hb⟩
          have HBx5 := Lib.hid (show Below v.heap.size v wm from pt HBx3.out hb)
          have HMa := Lib.hid hm
          clear hm
          replace XN := Lib.hid (XN.out.past hb)
          unfold wideV
          refine hK.out _ _ (fun _ => HSS.out _ HBx5.out) ?_
          clear hK K hb
          refine wpAnyG_one (i := 6) (by kernel_rfl) rfl rfl fun K hK => ?_
          go_simp
          refine (HSb.out _ Am cm HBx5.out HMa.out).mono ?_
          rintro e ws ⟨As, cs_, rfl, hs_, hb⟩
          have HBx6 := Lib.hid (show Below v.heap.size v ws from pt HBx5.out hb)
          have HSa_ := Lib.hid hs_
          clear hs_
          replace XN := Lib.hid (XN.out.past hb)
          unfold wideV
          refine hK.out _ _ (fun _ => HSS.out _ HBx6.out) ?_
          clear hK K hb
          have HSn := Lib.hid HSa_.out
          have f0 := XN.out.frozen 0; have f1 := XN.out.frozen 1; have fl := XN.out.lt; have h0_ := XN.out.cellAt 0 rfl; have h1_ := XN.out.cellAt 1 rfl
          refine wpAnyG_one (i := 8) (by kernel_rfl) rfl rfl fun K hK => ?_
          go_simp
          refine hK.out _ _ (fun h => absurd h (by decide)) ?_
          clear hK K
          refine wpAnyG_done (by kernel_rfl) ?_
          clear f0 f1 fl h0_ h1_
          have hR := (XN.out.set_ 0 (.int .i64 (signD (x % y)))).set_ 1 (.slice As (dl (x % y)) cs_)
          have hAf := (HSn.out.far (p := ⟨nb, 0, none⟩) XN.out (by decide) (u := .int .i64 (signD (x % y)))).far (p := ⟨nb, 1, none⟩) (XN.out.set_ 0 (.int .i64 (signD (x % y)))) (by decide) (u := .slice As (dl (x % y)) cs_)
          have hGs := GcdSt.off (b := nb) (HS2.out.past HBx6.out) XN.out HNb.out (u0 := .int .i64 (signD (x % y))) (u1 := .slice As (dl (x % y)) cs_)
          go_wp2
          go_meet
          case rel => exact ⟨nb, As, cs_, rfl, HNb.out, hR, hAf, hGs⟩
      case rest =>
        obtain ⟨bx, A6, c6, rfl, hbn, hbx, hax, hst⟩ := hcut
        have HBn := Lib.hid hbn
        clear hbn
        obtain ⟨v8, rfl⟩ : ∃ v8, v8 = wc := ⟨_, rfl⟩
        have HS8 := Lib.hid hst
        have X5 := Lib.hid hbx
        have X2 := Lib.hid hst.b2
        have HA8 := Lib.hid hax
        clear hbx hax hst HS2 X1 HFl HMu HSb HS
        go_wp2
        have HSS := Lib.hid (show ∀ W, Below v8.heap.size v8 W → W.cell? ⟨w.heap.size + 1, 0, none⟩ = some (.int .i64 (signD y)) ∧ W.cell? ⟨w.heap.size + 1, 1, none⟩ = some (.slice A5 (dl y) c5) ∧ W.cell? ⟨bx, 0, none⟩ = some (.int .i64 (signD (x % y))) ∧ W.cell? ⟨bx, 1, none⟩ = some (.slice A6 (dl (x % y)) c6) from fun W hW => ⟨(X2.out.past hW).cellAt 0 rfl, (X2.out.past hW).cellAt 1 rfl, (X5.out.past hW).cellAt 0 rfl, (X5.out.past hW).cellAt 1 rfl⟩)
        refine wp_region_G 3 follows_mixed (fun W => W.cell? ⟨w.heap.size + 1, 0, none⟩ = some (.int .i64 (signD y)) ∧ W.cell? ⟨w.heap.size + 1, 1, none⟩ = some (.slice A5 (dl y) c5) ∧ W.cell? ⟨bx, 0, none⟩ = some (.int .i64 (signD (x % y))) ∧ W.cell? ⟨bx, 1, none⟩ = some (.slice A6 (dl (x % y)) c6)) (HSS.out _ (pd pr)) ?_
        intro hSd inv
        have HSd := Lib.hid hSd
        clear hSd
        have HB0 := Lib.hid (show Below v8.heap.size v8 v8.drew from pd pr)
        refine wpAnyG_take (i := 0) (v := ?_) rfl (by kernel_rfl) (by kernel_rfl) (by kernel_rfl) (by kernel_rfl) (by kernel_rfl) (by decide) (by decide) inv (fun _ _ _ h => h) (Or.inl ⟨by rfl, ?_⟩) HSd.out ?_; rotate_left; (focus (intro W y1; obtain ⟨y1, y2, y3, y4⟩ := y1; go_simp; (first | done | with_reducible rfl))); clear inv; intro inv; simp only [List.getElem_toArray, List.getElem_cons_zero, Act.put, List.setIfInBounds_toArray, List.set_cons_zero, List.set_cons_succ]
        refine wpAnyG_take (i := 1) (v := ?_) rfl (by kernel_rfl) (by kernel_rfl) (by kernel_rfl) (by kernel_rfl) (by kernel_rfl) (by decide) (by decide) inv (fun _ _ _ h => h) (Or.inl ⟨by rfl, ?_⟩) HSd.out ?_; rotate_left; (focus (intro W y1; obtain ⟨y1, y2, y3, y4⟩ := y1; go_simp; (first | done | with_reducible rfl))); clear inv; intro inv; simp only [List.getElem_toArray, List.getElem_cons_zero, List.getElem_cons_succ, Act.put, List.setIfInBounds_toArray, List.set_cons_zero, List.set_cons_succ]
        generalize hvd : v8.drew = vd at *
        have hvd8 : Below v8.heap.size v8 vd := by rw [← hvd]; exact pd pr
        clear hvd
        have G8 := Lib.hid (show GcdSt w x y A4 A5 c4 c5 vd from HS8.out.past hvd8)
        have HA9 := Lib.hid (HA8.out.past hvd8)
        have HSx := Lib.hid (GcdSt.set1 G8.out (z := y) (A3 := A5) (c3 := c5) G8.out.a2)
        have HX5 := Lib.hid (((X5.out.past hvd8).far (p := ⟨w.heap.size, 0, none⟩) (Nat.ne_of_gt (Nat.lt_trans (Nat.lt_trans (Nat.lt_succ_self _) (Nat.lt_succ_self _)) HBn.out)) (u := .int .i64 (signD y))).far (p := ⟨w.heap.size, 1, none⟩) (Nat.ne_of_gt (Nat.lt_trans (Nat.lt_trans (Nat.lt_succ_self _) (Nat.lt_succ_self _)) HBn.out)) (u := .slice A5 (dl y) c5))
        have f0 := G8.out.b1.frozen 0; have f1 := G8.out.b1.frozen 1; have fl := G8.out.b1.lt; have h0_ := G8.out.b1.cellAt 0 rfl; have h1_ := G8.out.b1.cellAt 1 rfl
        have HInv := Lib.hid inv
        clear inv
        refine wpAnyG_one (i := 2) (by kernel_rfl) rfl rfl fun K hK => ?_
        go_simp
        refine hK.out _ _ (fun _ => ⟨HSx.out.b2.cellAt 0 rfl, HSx.out.b2.cellAt 1 rfl, HX5.out.cellAt 0 rfl, HX5.out.cellAt 1 rfl⟩) ?_
        clear hK K
        clear f0 f1 fl h0_ h1_
        have G_w9 := Lib.hid (G8.out.set1 (G8.out.a2))
        have HAx := Lib.hid ((HA9.out.far (p := ⟨w.heap.size, 0, none⟩) G8.out.b1 (by decide) (u := .int .i64 (signD y))).far (p := ⟨w.heap.size, 1, none⟩) (G8.out.b1.set_ 0 (.int .i64 (signD y))) (by decide) (u := .slice A5 (dl y) c5))
        generalize (vd.setCell ⟨w.heap.size, 0, none⟩ (.int .i64 (signD y))).setCell ⟨w.heap.size, 1, none⟩ (.slice A5 (dl y) c5) = w9 at *
        clear HSx HX5 X5
        have f0 := G_w9.out.b2.frozen 0; have f1 := G_w9.out.b2.frozen 1; have fl := G_w9.out.b2.lt; have h0_ := G_w9.out.b2.cellAt 0 rfl; have h1_ := G_w9.out.b2.cellAt 1 rfl
        refine wpAnyG_one (i := 3) (by kernel_rfl) rfl rfl fun K hK => ?_
        go_simp
        refine hK.out _ _ (fun h => absurd h (by decide)) ?_
        clear hK K
        clear f0 f1 fl h0_ h1_
        have G_wz := Lib.hid (G_w9.out.set2 (HAx.out))
        generalize (w9.setCell ⟨w.heap.size + 1, 0, none⟩ (.int .i64 (signD (x % y)))).setCell ⟨w.heap.size + 1, 1, none⟩ (.slice A6 (dl (x % y)) c6) = wz at *
        refine wpAnyG_done (by kernel_rfl) ?_
        clear HInv
        clear HSS HSd HB0
        go_wp2
        go_roundg (x % y).toNat
        case measure => exact Nat.lt_of_lt_of_le HKl.out HKk.out
        case rel => exact ⟨y, x % y, A5, c5, A6, c6, HXY.out.2, HF.out.1.2.1, Nat.le_refl _, HDs.out.2, HF.out.1.2.2.2, HF.out.2.2.2.2.2.trans HGx.out, G_wz.out⟩

end Go.Proofs.YtpdkbhjcpddnpaaGreatDoor
end
