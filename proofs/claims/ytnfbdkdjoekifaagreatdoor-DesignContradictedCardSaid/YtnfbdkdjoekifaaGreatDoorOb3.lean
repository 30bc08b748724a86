/- Contracts: the margin of a requirement, what a part takes from it, what a part costs (package design). Printed by a program (gen_d2part.py). -/
import Derived.Test.YtnfbdkdjoekifaaGreatDoorOb2

section
namespace Go.Proofs.YtnfbdkdjoekifaaGreatDoor
open Go.RowKit

theorem sumT_all {ts : List DTerm} {v : Int → Int × Int} (ht : TermsOk ts) (hv : ValsOk v) : (-80000000000 ≤ (sumT ts v).1 ∧ (sumT ts v).1 ≤ 80000000000) ∧ -80000000000 ≤ (sumT ts v).2 ∧ (sumT ts v).2 ≤ 80000000000 := by
  have h := sumT_bd hv ht ts.length (Nat.le_refl _)
  rw [List.take_length] at h
  have := ht.1
  omega

set_option maxRecDepth 100000 in
set_option maxHeartbeats 4000000 in
theorem margin_any (B : Nat) (r : DReq) (A : Option Addr) (n c : Nat) (v : Int → Int × Int) (w : World) (hr : CellsIn B w A (termsC r.ts)) (hB : B ≤ w.heap.size) (hn : r.ts.length = n) (ht : TermsOk r.ts) (hv : ValsOk v) (hl : -1000000000 ≤ r.lim ∧ r.lim ≤ 1000000000) :
    Calls Tryz.prog 69 #[.agg #[.slice A n c, .bool r.ge, .int .i64 r.lim, .int .i64 r.unit], valsV v] w fun e w' => e = .returned (rngV (marginV r v)) ∧ Below w.heap.size w w' := by
  have HS := Lib.hid (fun W (hW : Below w.heap.size w W) => sum_any B r.ts A n c r.ge r.lim r.unit v W (hr.below (hW.mono hB)) (Nat.le_trans hB hW.size) hn ht hv)
  have hbd := sumT_all ht hv
  clear hr hn ht hv
  have HM := Lib.hid (show marginV r v = if r.ge then ((sumT r.ts v).1 - r.lim, (sumT r.ts v).2 - r.lim) else (r.lim - (sumT r.ts v).2, r.lim - (sumT r.ts v).1) from rfl)
  obtain ⟨rts, ge, lim, unit⟩ := r
  dsimp only at *
  generalize marginV ⟨rts, ge, lim, unit⟩ v = M at *
  unfold rngV at HS
  generalize (sumT rts v).1 = s1 at *
  generalize (sumT rts v).2 = s2 at *
  unfold valsV valsC at *
  obtain ⟨⟨b1, b2⟩, b3, b4⟩ := hbd
  cases ge
  · have HM2 := Lib.hid (show M = (lim - s2, lim - s1) by rw [HM.out]; rfl)
    clear HM
    go_enter Tryz.func69, Tryz.ntmps69
    go_wp2_with (first
      | (go_at_call 86; refine (HS.out _ (pa (pa (pa pr)))).mono ?_; rintro e w1 ⟨rfl, hb1⟩; have R2 := Lib.hid ((show Blk (((w.alloc (.cells #[.slice A n c, .bool false, .int .i64 lim, .int .i64 unit] 45)).alloc (.cells #[.int .i64 (v 0).1, .int .i64 (v 0).2, .int .i64 (v 1).1, .int .i64 (v 1).2, .int .i64 (v 2).1, .int .i64 (v 2).2, .int .i64 (v 3).1, .int .i64 (v 3).2, .int .i64 (v 4).1, .int .i64 (v 4).2, .int .i64 (v 5).1, .int .i64 (v 5).2] 118)).alloc (.cells #[.int .i64 0, .int .i64 0] 57)) w.heap.size 45 #[.slice A n c, .bool false, .int .i64 lim, .int .i64 unit] from ((Blk.newAt rfl).alloc).alloc).past hb1); have R4 := Lib.hid ((show Blk (((w.alloc (.cells #[.slice A n c, .bool false, .int .i64 lim, .int .i64 unit] 45)).alloc (.cells #[.int .i64 (v 0).1, .int .i64 (v 0).2, .int .i64 (v 1).1, .int .i64 (v 1).2, .int .i64 (v 2).1, .int .i64 (v 2).2, .int .i64 (v 3).1, .int .i64 (v 3).2, .int .i64 (v 4).1, .int .i64 (v 4).2, .int .i64 (v 5).1, .int .i64 (v 5).2] 118)).alloc (.cells #[.int .i64 0, .int .i64 0] 57)) (w.heap.size + 1 + 1) 57 #[.int .i64 0, .int .i64 0] from Blk.newAt (by simp)).past hb1); have HB1 := Lib.hid (pt (pa (pa (pa pr))) hb1); have g0 := R2.out.cellAt 0 rfl; have g1 := R2.out.cellAt 1 rfl; have g2 := R2.out.cellAt 2 rfl; have g3 := R2.out.cellAt 3 rfl; have gl := R2.out.lt; have gm := R4.out.lt; clear hb1)
      | ((with_reducible refine store_blk (T := 57) (x := .tmp 4) (y := .tmp 32) (vs := #[.int .i64 (lim - s2), .int .i64 (lim - s1)]) (R4.out.alloc) ?_ ?_ ?_ ?_ ?_ ?_); (focus rfl); (focus exact range_size); (focus (simp [Value.oneCell']; done)); (focus (first | rfl | (go_simp; done))); (focus (first | rfl | (go_simp; done))); intro WF RF PF))
    have r0 := RF.cellAt 0 rfl
    have r1 := RF.cellAt 1 rfl
    refine bodyPost_ret (v := .agg #[.int .i64 (lim - s2), .int .i64 (lim - s1)]) (by simp [results, Tryz.results69, go_sem, r0, r1]) rfl ?_
    exact ⟨by rw [HM2.out]; rfl, pp (pa HB1.out) PF (by omega)⟩
  · have HM2 := Lib.hid (show M = (s1 - lim, s2 - lim) by rw [HM.out]; rfl)
    clear HM
    go_enter Tryz.func69, Tryz.ntmps69
    go_wp2_with (first
      | (go_at_call 86; refine (HS.out _ (pa (pa (pa pr)))).mono ?_; rintro e w1 ⟨rfl, hb1⟩; have R2 := Lib.hid ((show Blk (((w.alloc (.cells #[.slice A n c, .bool true, .int .i64 lim, .int .i64 unit] 45)).alloc (.cells #[.int .i64 (v 0).1, .int .i64 (v 0).2, .int .i64 (v 1).1, .int .i64 (v 1).2, .int .i64 (v 2).1, .int .i64 (v 2).2, .int .i64 (v 3).1, .int .i64 (v 3).2, .int .i64 (v 4).1, .int .i64 (v 4).2, .int .i64 (v 5).1, .int .i64 (v 5).2] 118)).alloc (.cells #[.int .i64 0, .int .i64 0] 57)) w.heap.size 45 #[.slice A n c, .bool true, .int .i64 lim, .int .i64 unit] from ((Blk.newAt rfl).alloc).alloc).past hb1); have R4 := Lib.hid ((show Blk (((w.alloc (.cells #[.slice A n c, .bool true, .int .i64 lim, .int .i64 unit] 45)).alloc (.cells #[.int .i64 (v 0).1, .int .i64 (v 0).2, .int .i64 (v 1).1, .int .i64 (v 1).2, .int .i64 (v 2).1, .int .i64 (v 2).2, .int .i64 (v 3).1, .int .i64 (v 3).2, .int .i64 (v 4).1, .int .i64 (v 4).2, .int .i64 (v 5).1, .int .i64 (v 5).2] 118)).alloc (.cells #[.int .i64 0, .int .i64 0] 57)) (w.heap.size + 1 + 1) 57 #[.int .i64 0, .int .i64 0] from Blk.newAt (by simp)).past hb1); have HB1 := Lib.hid (pt (pa (pa (pa pr))) hb1); have g0 := R2.out.cellAt 0 rfl; have g1 := R2.out.cellAt 1 rfl; have g2 := R2.out.cellAt 2 rfl; have g3 := R2.out.cellAt 3 rfl; have gl := R2.out.lt; have gm := R4.out.lt; clear hb1)
      | ((with_reducible refine store_blk (T := 57) (x := .tmp 4) (y := .tmp 21) (vs := #[.int .i64 (s1 - lim), .int .i64 (s2 - lim)]) (R4.out.alloc) ?_ ?_ ?_ ?_ ?_ ?_); (focus rfl); (focus exact range_size); (focus (simp [Value.oneCell']; done)); (focus (first | rfl | (go_simp; done))); (focus (first | rfl | (go_simp; done))); intro WF RF PF))
    have r0 := RF.cellAt 0 rfl
    have r1 := RF.cellAt 1 rfl
    refine bodyPost_ret (v := .agg #[.int .i64 (s1 - lim), .int .i64 (s2 - lim)]) (by simp [results, Tryz.results69, go_sem, r0, r1]) rfl ?_
    exact ⟨by rw [HM2.out]; rfl, pp (pa HB1.out) PF (by omega)⟩

set_option maxRecDepth 100000 in
set_option maxHeartbeats 4000000 in
theorem side_any (B : Nat) (r : DReq) (A : Option Addr) (n c : Nat) (p : DPart) (w : World) (hr : CellsIn B w A (termsC r.ts)) (hB : B ≤ w.heap.size) (hn : r.ts.length = n) (ht : TermsOk r.ts) (hv : ValsOk (valP p)) (hl : -1000000000 ≤ r.lim ∧ r.lim ≤ 1000000000) :
    Calls Tryz.prog 72 #[.agg #[.slice A n c, .bool r.ge, .int .i64 r.lim, .int .i64 r.unit], .agg #[.string p.name, .int .i64 p.price, .int .i64 (valP p 0).1, .int .i64 (valP p 0).2, .int .i64 (valP p 1).1, .int .i64 (valP p 1).2, .int .i64 (valP p 2).1, .int .i64 (valP p 2).2, .int .i64 (valP p 3).1, .int .i64 (valP p 3).2, .int .i64 (valP p 4).1, .int .i64 (valP p 4).2, .int .i64 (valP p 5).1, .int .i64 (valP p 5).2]] w fun e w' => e = .returned (.tuple #[.int .i64 (limitV r), .int .i64 (needV r (valP p))]) ∧ Below w.heap.size w w' := by
  have HS := Lib.hid (fun W (hW : Below w.heap.size w W) => sum_any B r.ts A n c r.ge r.lim r.unit (valP p) W (hr.below (hW.mono hB)) (Nat.le_trans hB hW.size) hn ht hv)
  have hbd := sumT_all ht hv
  clear hr hn ht hv
  have HL := Lib.hid (show limitV r = if r.ge then -r.lim else r.lim from rfl)
  have HN := Lib.hid (show needV r (valP p) = if r.ge then -(sumT r.ts (valP p)).1 else (sumT r.ts (valP p)).2 from rfl)
  obtain ⟨rts, ge, lim, unit⟩ := r
  dsimp only at *
  generalize limitV ⟨rts, ge, lim, unit⟩ = L at *
  generalize needV ⟨rts, ge, lim, unit⟩ (valP p) = N at *
  unfold rngV at HS
  generalize (sumT rts (valP p)).1 = s1 at *
  generalize (sumT rts (valP p)).2 = s2 at *
  unfold valsV valsC at *
  obtain ⟨⟨b1, b2⟩, b3, b4⟩ := hbd
  cases ge
  · have HL2 := Lib.hid (show L = lim by rw [HL.out]; rfl)
    have HN2 := Lib.hid (show N = s2 by rw [HN.out]; rfl)
    clear HL HN
    go_enter Tryz.func72, Tryz.ntmps72
    go_wp2_with (go_at_call 86; refine (HS.out _ (pa (pa pr))).mono ?_; rintro e w1 ⟨rfl, hb1⟩; have R2 := Lib.hid ((show Blk ((w.alloc (.cells #[.slice A n c, .bool false, .int .i64 lim, .int .i64 unit] 45)).alloc (.cells #[.string p.name, .int .i64 p.price, .int .i64 (valP p 0).1, .int .i64 (valP p 0).2, .int .i64 (valP p 1).1, .int .i64 (valP p 1).2, .int .i64 (valP p 2).1, .int .i64 (valP p 2).2, .int .i64 (valP p 3).1, .int .i64 (valP p 3).2, .int .i64 (valP p 4).1, .int .i64 (valP p 4).2, .int .i64 (valP p 5).1, .int .i64 (valP p 5).2] 60)) w.heap.size 45 #[.slice A n c, .bool false, .int .i64 lim, .int .i64 unit] from (Blk.newAt rfl).alloc).past hb1); have HB1 := Lib.hid (pt (pa (pa pr)) hb1); have g0 := R2.out.cellAt 0 rfl; have g1 := R2.out.cellAt 1 rfl; have g2 := R2.out.cellAt 2 rfl; have g3 := R2.out.cellAt 3 rfl; have gl := R2.out.lt; clear hb1)
    refine region_below 5 follows_mixed (by kernel_rfl) ?_
    intro C hC
    simp only [List.take_succ_cons, List.take_zero, List.drop_succ_cons, List.drop_zero]
    repeat (first
      | ((with_reducible refine quiet_plain rfl (fun K hK => ?_)); (focus (apply quiet_val; (focus (intro w' hw; obtain ⟨hcq, hfq⟩ := bcell ((hC.out _).1 hw); go_simp; (first | done | rfl))); (simp only [Act.put, List.setIfInBounds_toArray, List.set_cons_succ, List.set_cons_zero]); (with_reducible refine hK _ ?_); clear hK K)))
      | ((with_reducible refine quiet_skip ?_ ?_); (focus (first | (simp [Region.wanted, yielded]; done) | (simp [Region.wanted, yielded, undef]; done))); simp only [Act.put, List.setIfInBounds_toArray, List.set_cons_succ, List.set_cons_zero])
      | ((with_reducible refine quiet_go ?_ (fun K hK => ?_)); (focus (first | (simp [Region.wanted, yielded]; done) | (simp [Region.wanted, yielded, undef]; done))); (focus (apply quiet_val; (focus (intro w' hw; obtain ⟨hcq, hfq⟩ := bcell ((hC.out _).1 hw); go_simp; (first | done | rfl))); (simp only [Act.put, List.setIfInBounds_toArray, List.set_cons_succ, List.set_cons_zero]); (with_reducible refine hK _ ?_); clear hK K))))
    refine wpQuiet_nil ?_
    intro w1 hb1
    replace hb1 := (hC.out _).1 hb1
    clear hC C
    obtain ⟨hc1, hf1⟩ := bcell hb1
    have HB2 := Lib.hid (pt (pa HB1.out) hb1)
    go_wp2
    go_ret2
    exact ⟨ret_ii (HL2.out.symm) (HN2.out.symm), HB2.out⟩
  · have HL2 := Lib.hid (show L = -lim by rw [HL.out]; rfl)
    have HN2 := Lib.hid (show N = -s1 by rw [HN.out]; rfl)
    clear HL HN
    go_enter Tryz.func72, Tryz.ntmps72
    go_wp2_with (go_at_call 86; refine (HS.out _ (pa (pa pr))).mono ?_; rintro e w1 ⟨rfl, hb1⟩; have R2 := Lib.hid ((show Blk ((w.alloc (.cells #[.slice A n c, .bool true, .int .i64 lim, .int .i64 unit] 45)).alloc (.cells #[.string p.name, .int .i64 p.price, .int .i64 (valP p 0).1, .int .i64 (valP p 0).2, .int .i64 (valP p 1).1, .int .i64 (valP p 1).2, .int .i64 (valP p 2).1, .int .i64 (valP p 2).2, .int .i64 (valP p 3).1, .int .i64 (valP p 3).2, .int .i64 (valP p 4).1, .int .i64 (valP p 4).2, .int .i64 (valP p 5).1, .int .i64 (valP p 5).2] 60)) w.heap.size 45 #[.slice A n c, .bool true, .int .i64 lim, .int .i64 unit] from (Blk.newAt rfl).alloc).past hb1); have HB1 := Lib.hid (pt (pa (pa pr)) hb1); have g0 := R2.out.cellAt 0 rfl; have g1 := R2.out.cellAt 1 rfl; have g2 := R2.out.cellAt 2 rfl; have g3 := R2.out.cellAt 3 rfl; have gl := R2.out.lt; clear hb1)
    refine region_below 7 follows_mixed (by kernel_rfl) ?_
    intro C hC
    simp only [List.take_succ_cons, List.take_zero, List.drop_succ_cons, List.drop_zero]
    repeat (first
      | ((with_reducible refine quiet_plain rfl (fun K hK => ?_)); (focus (apply quiet_val; (focus (intro w' hw; obtain ⟨hcq, hfq⟩ := bcell ((hC.out _).1 hw); go_simp; (first | done | rfl))); (simp only [Act.put, List.setIfInBounds_toArray, List.set_cons_succ, List.set_cons_zero]); (with_reducible refine hK _ ?_); clear hK K)))
      | ((with_reducible refine quiet_skip ?_ ?_); (focus (first | (simp [Region.wanted, yielded]; done) | (simp [Region.wanted, yielded, undef]; done))); simp only [Act.put, List.setIfInBounds_toArray, List.set_cons_succ, List.set_cons_zero])
      | ((with_reducible refine quiet_go ?_ (fun K hK => ?_)); (focus (first | (simp [Region.wanted, yielded]; done) | (simp [Region.wanted, yielded, undef]; done))); (focus (apply quiet_val; (focus (intro w' hw; obtain ⟨hcq, hfq⟩ := bcell ((hC.out _).1 hw); go_simp; (first | done | rfl))); (simp only [Act.put, List.setIfInBounds_toArray, List.set_cons_succ, List.set_cons_zero]); (with_reducible refine hK _ ?_); clear hK K))))
    refine wpQuiet_nil ?_
    intro w1 hb1
    replace hb1 := (hC.out _).1 hb1
    clear hC C
    obtain ⟨hc1, hf1⟩ := bcell hb1
    have HB2 := Lib.hid (pt (pa HB1.out) hb1)
    go_wp2
    go_ret2
    exact ⟨ret_ii ((IntWalk.i64_in _ (by omega)).trans HL2.out.symm) ((IntWalk.i64_in _ (by omega)).trans HN2.out.symm), HB2.out⟩

set_option maxRecDepth 100000 in
set_option maxHeartbeats 4000000 in
theorem partCost_any (p : DPart) (A : Option Addr) (n c : Nat) (idle price : Int) (w : World) (h1 : 0 ≤ idle ∧ idle ≤ 1000) (h2 : 0 ≤ price ∧ price ≤ 1000) (hp : PartOk p) :
    Calls Tryz.prog 62 #[.agg #[.slice A n c, .int .i64 idle, .int .i64 price], .agg #[.string p.name, .int .i64 p.price, .int .i64 (valP p 0).1, .int .i64 (valP p 0).2, .int .i64 (valP p 1).1, .int .i64 (valP p 1).2, .int .i64 (valP p 2).1, .int .i64 (valP p 2).2, .int .i64 (valP p 3).1, .int .i64 (valP p 3).2, .int .i64 (valP p 4).1, .int .i64 (valP p 4).2, .int .i64 (valP p 5).1, .int .i64 (valP p 5).2]] w fun e w' => e = .returned (.int .i64 (partC idle price p)) ∧ Below w.heap.size w w' := by
  have HP := Lib.hid (show partC idle price p = p.price + idle * (valP p 2).2 + price * (valP p 3).2 from rfl)
  generalize partC idle price p = R at *
  have hq1 := hp.2.1
  have hq2 := hp.2.2 2
  have hq3 := hp.2.2 3
  clear hp
  generalize p.name = x0 at *
  generalize p.price = x1 at *
  generalize (valP p 0).1 = x2 at *
  generalize (valP p 0).2 = x3 at *
  generalize (valP p 1).1 = x4 at *
  generalize (valP p 1).2 = x5 at *
  generalize (valP p 2).1 = x6 at *
  generalize (valP p 2).2 = x7 at *
  generalize (valP p 3).1 = x8 at *
  generalize (valP p 3).2 = x9 at *
  generalize (valP p 4).1 = x10 at *
  generalize (valP p 4).2 = x11 at *
  generalize (valP p 5).1 = x12 at *
  generalize (valP p 5).2 = x13 at *
  have m1 := Int.mul_le_mul h1.2 (show x7 ≤ 1000000 by omega) (by omega) (by decide)
  have m2 := Int.mul_le_mul h2.2 (show x9 ≤ 1000000 by omega) (by omega) (by decide)
  have m3 := Int.mul_nonneg h1.1 (show 0 ≤ x7 by omega)
  have m4 := Int.mul_nonneg h2.1 (show 0 ≤ x9 by omega)
  have w1 : wrap64 (idle * x7) = idle * x7 := w64 (by omega)
  have w2 : wrap64 (price * x9) = price * x9 := w64 (by omega)
  have w3 : wrap64 (x1 + idle * x7) = x1 + idle * x7 := w64 (by omega)
  have w4 : wrap64 (x1 + idle * x7 + price * x9) = x1 + idle * x7 + price * x9 := w64 (by omega)
  clear m1 m2 m3 m4 hq1 hq2 hq3
  go_enter Tryz.func62, Tryz.ntmps62
  go_wp2
  go_ret
  exact ⟨ret_int (w4.trans HP.out.symm), pa (pa pr)⟩

end Go.Proofs.YtnfbdkdjoekifaaGreatDoor
end
