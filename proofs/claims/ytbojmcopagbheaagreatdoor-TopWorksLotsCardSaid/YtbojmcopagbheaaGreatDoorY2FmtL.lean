/- Contract: the string of a lot. Printed by a program (gen_wfl.py). -/
import Derived.Test.YtbojmcopagbheaaGreatDoorT2Fmt
namespace Go.Proofs.YtbojmcopagbheaaGreatDoor
open Go.RowKit
attribute [local go_sem ↓] Go.wp_at_zero Go.wp_at_succ

theorem i4_at0 (a b c d : Int) (W : World) : Sem.run Tryz.prog (Instr.index 107 (.agg #[.int .i64 a, .int .i64 b, .int .i64 c, .int .i64 d]) (.int .i64 0)) W = .ok (.int .i64 a) W := by kernel_rfl
attribute [local go_sem ↓ high] i4_at0
theorem i4_at1 (a b c d : Int) (W : World) : Sem.run Tryz.prog (Instr.index 107 (.agg #[.int .i64 a, .int .i64 b, .int .i64 c, .int .i64 d]) (.int .i64 1)) W = .ok (.int .i64 b) W := by kernel_rfl
attribute [local go_sem ↓ high] i4_at1
theorem i4_at2 (a b c d : Int) (W : World) : Sem.run Tryz.prog (Instr.index 107 (.agg #[.int .i64 a, .int .i64 b, .int .i64 c, .int .i64 d]) (.int .i64 2)) W = .ok (.int .i64 c) W := by kernel_rfl
attribute [local go_sem ↓ high] i4_at2
theorem i4_at3 (a b c d : Int) (W : World) : Sem.run Tryz.prog (Instr.index 107 (.agg #[.int .i64 a, .int .i64 b, .int .i64 c, .int .i64 d]) (.int .i64 3)) W = .ok (.int .i64 d) W := by kernel_rfl
attribute [local go_sem ↓ high] i4_at3

set_option maxHeartbeats 4000000 in
set_option maxRecDepth 100000 in
theorem formatLot_core (B : Nat) (nm : List UInt8) (L : List (List UInt8)) (A : Option Addr) (n c : Nat) (x1 x2 x3 x4 : Int) (w : World) (h : StrIn w) (hn : L.length = n) (hA : CellsIn B w A (L.map strV)) (hB : B ≤ w.heap.size) (hc : n ≤ c) (hm : n ≤ 100) (hnm : nm.length ≤ 1000) (hL : ∀ x ∈ L, x.length ≤ 1000)
    (i1 : I64 x1) (i2 : I64 x2) (i3 : I64 x3) (i4 : I64 x4) :
    Calls Tryz.prog 24 #[.agg #[.string ⟨nm.toArray⟩, .slice A n c, .int .i64 x1, .int .i64 x2, .int .i64 x3, .int .i64 x4]] w fun e w' => e = .returned (strV (fmtL nm L x1 x2 x3 x4)) ∧ Below w.heap.size w w' := by
  obtain ⟨i0, hi0, hz0, hz1, hz2⟩ : ∃ i0, Tryz.prog.info? 9 = some i0 ∧ i0.zero = some (.string ByteArray.empty) ∧ i0.size = 1 ∧ i0.bytes = 16 := by
    have h := string_info2
    cases hi : Tryz.prog.info? 9 with
    | none => rw [hi] at h; cases h
    | some i => rw [hi] at h; simp only [Option.map_some, Option.some.injEq, Prod.mk.injEq] at h; exact ⟨i, rfl, h.1, h.2.1, h.2.2⟩
  have hj := join_len L 44 1000 hL
  rw [hn] at hj
  have HS := Lib.hid (fun w' (hb : Below w.heap.size w w') => h.kept hb)
  have HLs := Lib.hid (fun w' (hb : Below w.heap.size w w') => listed_any L A n c w' hn ((hA.below (hb.mono hB)).more (Nat.le_trans hB hb.size)) hc (by omega) (by omega))
  have hl := listed_len L 1000 hL
  rw [hn] at hl
  have l1 := itoa_len i1.1 i1.2
  have l2 := itoa_len i2.1 i2.2
  have l3 := itoa_len i3.1 i3.2
  have l4 := itoa_len i4.1 i4.2
  have HI1 := Lib.hid (fun w' hS' => itoa_wide x1 i1.1 i1.2 w' hS')
  have HI2 := Lib.hid (fun w' hS' => itoa_wide x2 i2.1 i2.2 w' hS')
  have HI3 := Lib.hid (fun w' hS' => itoa_wide x3 i3.1 i3.2 w' hS')
  have HI4 := Lib.hid (fun w' hS' => itoa_wide x4 i4.1 i4.2 w' hS')
  unfold fmtL
  clear h hA hj hn i1 i2 i3 i4 hL
  generalize listedL L = LL at *
  generalize Lib.itoa x1 = S1 at *
  generalize Lib.itoa x2 = S2 at *
  generalize Lib.itoa x3 = S3 at *
  generalize Lib.itoa x4 = S4 at *
  have HJ := Lib.hid (fun A' c' (w' : World) (hA' : CellsIn w'.heap.size w' A' ([nm, LL, S1, S2, S3, S4].map strV)) (hc' : 6 ≤ c') => joinC_any [nm, LL, S1, S2, S3, S4] 32 A' 6 c' w' rfl hA' hc' (by decide) (Nat.le_trans (join_len _ 32 100200 (by
    intro x hx
    simp only [List.mem_cons, List.not_mem_nil, or_false] at hx
    rcases hx with rfl | rfl | rfl | rfl | rfl | rfl <;> omega)) (by simp)))
  have hbn := bsize nm
  have hbl := bsize LL
  clear hm hnm hl l1 l2 l3 l4 hc
  go_enter Tryz.func24, Tryz.ntmps24
  go_wp2
  refine region_below 5 follows_mixed (by kernel_rfl) ?_
  intro C hC
  simp only [List.take_succ_cons, List.take_zero, List.drop_succ_cons, List.drop_zero]
  repeat (first
    | ((with_reducible refine quiet_plain rfl (fun K hK => ?_)); (focus (apply quiet_val; (focus (intro w' hw; obtain ⟨hcq, hfq⟩ := bcell ((hC.out _).1 hw); go_simp; (first | done | rfl | (with_reducible exact call_below hC hw (HLs.out _ (pt (pa pr) ((hC.out _).1 hw))))))); (simp only [Act.put, List.setIfInBounds_toArray, List.set_cons_succ, List.set_cons_zero]); (with_reducible refine hK _ ?_); clear hK K)))
    | ((with_reducible refine quiet_skip ?_ ?_); (focus (first | (simp [Region.wanted, yielded]; done) | (simp [Region.wanted, yielded, undef]; done))); simp only [Act.put, List.setIfInBounds_toArray, List.set_cons_succ, List.set_cons_zero])
    | ((with_reducible refine quiet_go ?_ (fun K hK => ?_)); (focus (first | (simp [Region.wanted, yielded]; done) | (simp [Region.wanted, yielded, undef]; done))); (focus (apply quiet_val; (focus (intro w' hw; obtain ⟨hcq, hfq⟩ := bcell ((hC.out _).1 hw); go_simp; (first | done | rfl | (with_reducible exact call_below hC hw (HLs.out _ (pt (pa pr) ((hC.out _).1 hw))))))); (simp only [Act.put, List.setIfInBounds_toArray, List.set_cons_succ, List.set_cons_zero]); (with_reducible refine hK _ ?_); clear hK K))))
  refine wpQuiet_nil ?_
  intro w1 hb1
  replace hb1 := (hC.out _).1 hb1
  clear hC C
  obtain ⟨hc1, hf1⟩ := bcell hb1
  have K1 : Blk w1 w.heap.size 58 #[.string ⟨nm.toArray⟩, .slice A n c, .int .i64 x1, .int .i64 x2, .int .i64 x3, .int .i64 x4] := (Blk.new w _ _).past hb1
  have HQ1 := Lib.hid (show Below w.heap.size w w1 from pt (pa pr) hb1)
  clear hb1 hc1 hf1
  have x2_ := K1.cellAt 2 rfl
  have x3_ := K1.cellAt 3 rfl
  have x4_ := K1.cellAt 4 rfl
  have x5_ := K1.cellAt 5 rfl
  have xl := K1.lt
  obtain ⟨wa, rfl⟩ : ∃ v, v = w1 := ⟨_, rfl⟩
  have HO := Lib.hid (show (wa.alloc (.cells #[.string ⟨nm.toArray⟩, .string ⟨LL.toArray⟩] 9)).ownsRow w.heap.size 9 1 (.slice (some ⟨wa.heap.size, 0, none⟩) 2 2) 2 [.string ⟨nm.toArray⟩, .string ⟨LL.toArray⟩] from World.ownsRow_lit wa #[.string ⟨nm.toArray⟩, .string ⟨LL.toArray⟩] 2 HQ1.out.size (by decide) rfl)
  have HQ := Lib.hid (show Below w.heap.size w (wa.alloc (.cells #[.string ⟨nm.toArray⟩, .string ⟨LL.toArray⟩] 9)) from pa HQ1.out)
  go_wp2
  refine wp_loop_rounds 5 ?_
  rw [rounds_succ]
  go_wp2_with (first
    | (go_at_call 54; (with_reducible refine (HI1.out _ (HS.out _ HQ.out)).mono ?_); rintro e u0 ⟨rfl, hb⟩; have HA0 := Lib.hid ((own_past HO.out hb).alloc (.cells #[.string ⟨S1.toArray⟩] 9)); have HB0 := Lib.hid (pt HQ.out hb); have HC0 := Lib.hid (cellsIn_one u0 9 (.string ⟨S1.toArray⟩)); have hs0 := HB0.out.size; clear hb)
    | (at_builtin; go_must (refine wpList_append_cells _ rfl (.tmp 28) (.tmp 31) _ rfl w.heap.size 9 i0 _ 1 16 Tryz.underlying56 hi0 hz0 hz1 hz2 rfl (by omega) _ 2 _ rfl HA0.out (u0.heap.size + 1) (some ⟨u0.heap.size, 0, none⟩) 1 1 _ rfl HC0.out rfl (by simp [Value.oneCell']) (by simp only [maxLen]; omega) (by omega) (by simp; omega) ?_); intro y0 v0 hown hg hat; obtain ⟨A0, c0, rfl, hc0, hm0⟩ := own_form hown; have HO0 := Lib.hid hown; have HQ_0 := Lib.hid (show Below w.heap.size w v0 from pg (pa HB0.out) HA0.out (Nat.le_refl _) hg); clear hown hg hat))
  rw [rounds_succ]
  go_wp2_with (first
    | (go_at_call 54; (with_reducible refine (HI2.out _ (HS.out _ HQ_0.out)).mono ?_); rintro e u1 ⟨rfl, hb⟩; have HA1 := Lib.hid ((own_past HO0.out hb).alloc (.cells #[.string ⟨S2.toArray⟩] 9)); have HB1 := Lib.hid (pt HQ_0.out hb); have HC1 := Lib.hid (cellsIn_one u1 9 (.string ⟨S2.toArray⟩)); have hs1 := HB1.out.size; clear hb)
    | (at_builtin; go_must (refine wpList_append_cells _ rfl (.tmp 28) (.tmp 31) _ rfl w.heap.size 9 i0 _ 1 16 Tryz.underlying56 hi0 hz0 hz1 hz2 rfl (by omega) _ 3 _ rfl HA1.out (u1.heap.size + 1) (some ⟨u1.heap.size, 0, none⟩) 1 1 _ rfl HC1.out rfl (by simp [Value.oneCell']) (by simp only [maxLen]; omega) (by omega) (by simp; omega) ?_); intro y1 v1 hown hg hat; obtain ⟨A1, c1, rfl, hc1, hm1⟩ := own_form hown; have HO1 := Lib.hid hown; have HQ_1 := Lib.hid (show Below w.heap.size w v1 from pg (pa HB1.out) HA1.out (Nat.le_refl _) hg); clear hown hg hat))
  rw [rounds_succ]
  go_wp2_with (first
    | (go_at_call 54; (with_reducible refine (HI3.out _ (HS.out _ HQ_1.out)).mono ?_); rintro e u2 ⟨rfl, hb⟩; have HA2 := Lib.hid ((own_past HO1.out hb).alloc (.cells #[.string ⟨S3.toArray⟩] 9)); have HB2 := Lib.hid (pt HQ_1.out hb); have HC2 := Lib.hid (cellsIn_one u2 9 (.string ⟨S3.toArray⟩)); have hs2 := HB2.out.size; clear hb)
    | (at_builtin; go_must (refine wpList_append_cells _ rfl (.tmp 28) (.tmp 31) _ rfl w.heap.size 9 i0 _ 1 16 Tryz.underlying56 hi0 hz0 hz1 hz2 rfl (by omega) _ 4 _ rfl HA2.out (u2.heap.size + 1) (some ⟨u2.heap.size, 0, none⟩) 1 1 _ rfl HC2.out rfl (by simp [Value.oneCell']) (by simp only [maxLen]; omega) (by omega) (by simp; omega) ?_); intro y2 v2 hown hg hat; obtain ⟨A2, c2, rfl, hc2, hm2⟩ := own_form hown; have HO2 := Lib.hid hown; have HQ_2 := Lib.hid (show Below w.heap.size w v2 from pg (pa HB2.out) HA2.out (Nat.le_refl _) hg); clear hown hg hat))
  rw [rounds_succ]
  go_wp2_with (first
    | (go_at_call 54; (with_reducible refine (HI4.out _ (HS.out _ HQ_2.out)).mono ?_); rintro e u3 ⟨rfl, hb⟩; have HA3 := Lib.hid ((own_past HO2.out hb).alloc (.cells #[.string ⟨S4.toArray⟩] 9)); have HB3 := Lib.hid (pt HQ_2.out hb); have HC3 := Lib.hid (cellsIn_one u3 9 (.string ⟨S4.toArray⟩)); have hs3 := HB3.out.size; clear hb)
    | (at_builtin; go_must (refine wpList_append_cells _ rfl (.tmp 28) (.tmp 31) _ rfl w.heap.size 9 i0 _ 1 16 Tryz.underlying56 hi0 hz0 hz1 hz2 rfl (by omega) _ 5 _ rfl HA3.out (u3.heap.size + 1) (some ⟨u3.heap.size, 0, none⟩) 1 1 _ rfl HC3.out rfl (by simp [Value.oneCell']) (by simp only [maxLen]; omega) (by omega) (by simp; omega) ?_); intro y3 v3 hown hg hat; obtain ⟨A3, c3, rfl, hc3, hm3⟩ := own_form hown; have HO3 := Lib.hid hown; have HQ_3 := Lib.hid (show Below w.heap.size w v3 from pg (pa HB3.out) HA3.out (Nat.le_refl _) hg); clear hown hg hat))
  rw [rounds_succ]
  go_wp2_with (go_at_call 55; (with_reducible refine (HJ.out _ _ _ (cellsIn_of_own HO3.out) hc3).mono ?_); rintro e wz ⟨rfl, hb⟩)
  go_ret
  exact ⟨rfl, pt HQ_3.out hb⟩

end Go.Proofs.YtbojmcopagbheaaGreatDoor
