/- Contract: dominates (the specification of chapter 2). Printed by a program (gen_d7dm2.py). -/
import Derived.Test.YtabbehmodmmgoaaDoorOk4

section
namespace Go.Proofs.YtabbehmodmmgoaaDoor
open Go.RowKit

set_option maxHeartbeats 8000000 in
set_option maxRecDepth 100000 in
theorem dominates_any (a b : DPart) (w : World) :
    Calls Tryd.prog 53 #[.agg #[.string a.name, .int .i64 a.price, .int .i64 (valP a 0).1, .int .i64 (valP a 0).2, .int .i64 (valP a 1).1, .int .i64 (valP a 1).2, .int .i64 (valP a 2).1, .int .i64 (valP a 2).2, .int .i64 (valP a 3).1, .int .i64 (valP a 3).2, .int .i64 (valP a 4).1, .int .i64 (valP a 4).2, .int .i64 (valP a 5).1, .int .i64 (valP a 5).2], .agg #[.string b.name, .int .i64 b.price, .int .i64 (valP b 0).1, .int .i64 (valP b 0).2, .int .i64 (valP b 1).1, .int .i64 (valP b 1).2, .int .i64 (valP b 2).1, .int .i64 (valP b 2).2, .int .i64 (valP b 3).1, .int .i64 (valP b 3).2, .int .i64 (valP b 4).1, .int .i64 (valP b 4).2, .int .i64 (valP b 5).1, .int .i64 (valP b 5).2]] w fun e w' => e = .returned (.bool (goodB a b)) ∧ Below w.heap.size w w' := by
  have HG := Lib.hid (good_okQ (a := a) (b := b))
  have HNg := Lib.hid (fun k (hk : k < 6) => not_good (a := a) (b := b) hk)
  have R0 := Lib.hid (show Blk ((w.alloc (.cells #[.string a.name, .int .i64 a.price, .int .i64 (valP a 0).1, .int .i64 (valP a 0).2, .int .i64 (valP a 1).1, .int .i64 (valP a 1).2, .int .i64 (valP a 2).1, .int .i64 (valP a 2).2, .int .i64 (valP a 3).1, .int .i64 (valP a 3).2, .int .i64 (valP a 4).1, .int .i64 (valP a 4).2, .int .i64 (valP a 5).1, .int .i64 (valP a 5).2] 87)).alloc (.cells #[.string b.name, .int .i64 b.price, .int .i64 (valP b 0).1, .int .i64 (valP b 0).2, .int .i64 (valP b 1).1, .int .i64 (valP b 1).2, .int .i64 (valP b 2).1, .int .i64 (valP b 2).2, .int .i64 (valP b 3).1, .int .i64 (valP b 3).2, .int .i64 (valP b 4).1, .int .i64 (valP b 4).2, .int .i64 (valP b 5).1, .int .i64 (valP b 5).2] 87)) w.heap.size 87 #[.string a.name, .int .i64 a.price, .int .i64 (valP a 0).1, .int .i64 (valP a 0).2, .int .i64 (valP a 1).1, .int .i64 (valP a 1).2, .int .i64 (valP a 2).1, .int .i64 (valP a 2).2, .int .i64 (valP a 3).1, .int .i64 (valP a 3).2, .int .i64 (valP a 4).1, .int .i64 (valP a 4).2, .int .i64 (valP a 5).1, .int .i64 (valP a 5).2] from (Blk.newAt rfl).alloc)
  have R1 := Lib.hid (show Blk ((w.alloc (.cells #[.string a.name, .int .i64 a.price, .int .i64 (valP a 0).1, .int .i64 (valP a 0).2, .int .i64 (valP a 1).1, .int .i64 (valP a 1).2, .int .i64 (valP a 2).1, .int .i64 (valP a 2).2, .int .i64 (valP a 3).1, .int .i64 (valP a 3).2, .int .i64 (valP a 4).1, .int .i64 (valP a 4).2, .int .i64 (valP a 5).1, .int .i64 (valP a 5).2] 87)).alloc (.cells #[.string b.name, .int .i64 b.price, .int .i64 (valP b 0).1, .int .i64 (valP b 0).2, .int .i64 (valP b 1).1, .int .i64 (valP b 1).2, .int .i64 (valP b 2).1, .int .i64 (valP b 2).2, .int .i64 (valP b 3).1, .int .i64 (valP b 3).2, .int .i64 (valP b 4).1, .int .i64 (valP b 4).2, .int .i64 (valP b 5).1, .int .i64 (valP b 5).2] 87)) (w.heap.size + 1) 87 #[.string b.name, .int .i64 b.price, .int .i64 (valP b 0).1, .int .i64 (valP b 0).2, .int .i64 (valP b 1).1, .int .i64 (valP b 1).2, .int .i64 (valP b 2).1, .int .i64 (valP b 2).2, .int .i64 (valP b 3).1, .int .i64 (valP b 3).2, .int .i64 (valP b 4).1, .int .i64 (valP b 4).2, .int .i64 (valP b 5).1, .int .i64 (valP b 5).2] from Blk.newAt (by simp))
  have HB0 := Lib.hid (show Below w.heap.size w ((w.alloc (.cells #[.string a.name, .int .i64 a.price, .int .i64 (valP a 0).1, .int .i64 (valP a 0).2, .int .i64 (valP a 1).1, .int .i64 (valP a 1).2, .int .i64 (valP a 2).1, .int .i64 (valP a 2).2, .int .i64 (valP a 3).1, .int .i64 (valP a 3).2, .int .i64 (valP a 4).1, .int .i64 (valP a 4).2, .int .i64 (valP a 5).1, .int .i64 (valP a 5).2] 87)).alloc (.cells #[.string b.name, .int .i64 b.price, .int .i64 (valP b 0).1, .int .i64 (valP b 0).2, .int .i64 (valP b 1).1, .int .i64 (valP b 1).2, .int .i64 (valP b 2).1, .int .i64 (valP b 2).2, .int .i64 (valP b 3).1, .int .i64 (valP b 3).2, .int .i64 (valP b 4).1, .int .i64 (valP b 4).2, .int .i64 (valP b 5).1, .int .i64 (valP b 5).2] 87)) from pa (pa pr))
  have HPa := Lib.hid (fun k (hk : k < 6) => part_val a hk)
  have HPb := Lib.hid (fun k (hk : k < 6) => part_val b hk)
  have HOk := Lib.hid (fun k => (show okQ a b k ↔ (if k = 4 ∨ k = 5 then valP a (k : Int) = valP b (k : Int) else (valP a (k : Int)).1 ≤ (valP b (k : Int)).1 ∧ (valP a (k : Int)).2 ≤ (valP b (k : Int)).2) from Iff.rfl))
  have H4 := Lib.hid (show okQ a b 4 ↔ (valP a 4).1 = (valP b 4).1 ∧ (valP a 4).2 = (valP b 4).2 from (Iff.trans (show okQ a b 4 ↔ valP a 4 = valP b 4 from Iff.rfl) Prod.ext_iff))
  have H5 := Lib.hid (show okQ a b 5 ↔ (valP a 5).1 = (valP b 5).1 ∧ (valP a 5).2 = (valP b 5).2 from (Iff.trans (show okQ a b 5 ↔ valP a 5 = valP b 5 from Iff.rfl) Prod.ext_iff))
  generalize goodB a b = G at *
  generalize (valP a 4).1 = a41 at *
  generalize (valP a 4).2 = a42 at *
  generalize (valP a 5).1 = a51 at *
  generalize (valP a 5).2 = a52 at *
  generalize (valP b 4).1 = b41 at *
  generalize (valP b 4).2 = b42 at *
  generalize (valP b 5).1 = b51 at *
  generalize (valP b 5).2 = b52 at *
  have x1 := R0.out.cellAt 1 rfl
  have x10 := R0.out.cellAt 10 rfl
  have x11 := R0.out.cellAt 11 rfl
  have x12 := R0.out.cellAt 12 rfl
  have x13 := R0.out.cellAt 13 rfl
  have xl := R0.out.lt
  have y1 := R1.out.cellAt 1 rfl
  have y10 := R1.out.cellAt 10 rfl
  have y11 := R1.out.cellAt 11 rfl
  have y12 := R1.out.cellAt 12 rfl
  have y13 := R1.out.cellAt 13 rfl
  have yl := R1.out.lt
  by_cases hp : a.price ≤ b.price
  · have hp1 : ¬ b.price < a.price := by omega
    by_cases h4 : a41 = b41 ∧ a42 = b42
    · have hok4 := Lib.hid (H4.out.2 h4)
      obtain ⟨rfl, rfl⟩ := h4
      by_cases h5 : a51 = b51 ∧ a52 = b52
      · have hok5 := Lib.hid (H5.out.2 h5)
        obtain ⟨rfl, rfl⟩ := h5
        go_enter Tryd.func53, Tryd.ntmps53
        go_wp2
        clear x1 x10 x11 x12 x13 y1 y10 y11 y12 y13 xl yl
        generalize World.alloc (w.alloc _) _ = wo at *
        go_loopw [5] (fun iv wr => ∃ k : Nat, iv = .int .i64 (k : Int) ∧ k ≤ 4 ∧ (∀ j, j < k → okQ a b j) ∧ Below wo.heap.size wo wr) (fun iv _ => 4 - (intOf iv).toNat)
        case atStart => exact ⟨0, rfl, Nat.zero_le _, fun j hj => absurd hj (Nat.not_lt_zero _), pr⟩
        case round =>
          obtain ⟨k, rfl, hk, hall, hq⟩ := hrel
          have HAll := Lib.hid hall
          have HQ := Lib.hid (pt HB0.out hq)
          have HQo := Lib.hid hq
          have RA := Lib.hid (R0.out.past hq)
          have RB := Lib.hid (R1.out.past hq)
          clear hall hq
          by_cases hlt : k < 4
          · obtain ⟨p1, p2⟩ := HPa.out k (by omega)
            obtain ⟨p3, p4⟩ := HPb.out k (by omega)
            have c0 := (RA.out.cell _).trans p1
            have c1 := (RA.out.cell _).trans p2
            have d0 := (RB.out.cell _).trans p3
            have d1 := (RB.out.cell _).trans p4
            have cl := RA.out.lt
            have dl := RB.out.lt
            have k0 : (0 : Int) ≤ (k : Int) := by omega
            have k3 : (k : Int) ≤ 3 := by omega
            have k6 : (k : Int) < 6 := by omega
            have hok := HOk.out k
            rw [if_neg (by omega)] at hok
            have HNk := Lib.hid (HNg.out k (by omega))
            have HAk := Lib.hid (fun h => okQ_all HAll.out (k := k) h)
            clear p1 p2 p3 p4
            generalize (valP a (k : Int)).1 = alo at *
            generalize (valP a (k : Int)).2 = ahi at *
            generalize (valP b (k : Int)).1 = blo at *
            generalize (valP b (k : Int)).2 = bhi at *
            by_cases h6 : alo ≤ blo
            · have h61 : ¬ blo < alo := by omega
              have h62 : decide (blo < alo) = false := decide_eq_false h61
              by_cases h7 : ahi ≤ bhi
              · have h71 : ¬ bhi < ahi := by omega
                have h72 : decide (bhi < ahi) = false := decide_eq_false h71
                have HN := Lib.hid (HAk.out (hok.2 ⟨h6, h7⟩))
                clear hok
                go_wp2
                refine region_below 23 follows_mixed (by kernel_rfl) ?_
                intro C hC
                simp only [List.take_succ_cons, List.take_zero, List.drop_succ_cons, List.drop_zero]
                repeat (first
                  | ((with_reducible refine quiet_plain rfl (fun K hK => ?_)); (focus (apply quiet_val; (focus (intro w' hw; obtain ⟨hcq, hfq⟩ := bcell ((hC.out _).1 hw); go_simp; (first | done | rfl))); (simp only [Act.put, List.setIfInBounds_toArray, List.set_cons_succ, List.set_cons_zero]); (with_reducible refine hK _ ?_); clear hK K)))
                  | ((with_reducible refine quiet_skip ?_ ?_); (focus (first | (simp [Region.wanted, yielded]; done) | (simp [Region.wanted, yielded]; done))); simp only [Act.put, List.setIfInBounds_toArray, List.set_cons_succ, List.set_cons_zero])
                  | ((with_reducible refine quiet_go ?_ (fun K hK => ?_)); (focus (first | (simp [Region.wanted, yielded]; done) | (simp [Region.wanted, yielded, undef]; done))); (focus (apply quiet_val; (focus (intro w' hw; obtain ⟨hcq, hfq⟩ := bcell ((hC.out _).1 hw); go_simp; (first | done | rfl))); (simp only [Act.put, List.setIfInBounds_toArray, List.set_cons_succ, List.set_cons_zero]); (with_reducible refine hK _ ?_); clear hK K))))
                refine wpQuiet_nil ?_
                intro w1 hb1
                replace hb1 := (hC.out _).1 hb1
                clear hC C
                obtain ⟨hc1, hf1⟩ := bcell hb1
                have HQ2 := Lib.hid (pt HQo.out hb1)
                clear hb1 hc1 hf1
                go_wp2
                go_roundw
                case rel => exact ⟨k + 1, by go_num, by omega, HN.out, HQ2.out⟩
                case measure => simp [intOf]; omega
              · have h71 : bhi < ahi := by omega
                have h72 : decide (bhi < ahi) = true := decide_eq_true h71
                have HX := Lib.hid (show G = false from HNk.out (fun h => h7 (hok.1 h).2))
                clear hok
                go_wp2
                refine region_below 23 follows_mixed (by kernel_rfl) ?_
                intro C hC
                simp only [List.take_succ_cons, List.take_zero, List.drop_succ_cons, List.drop_zero]
                repeat (first
                  | ((with_reducible refine quiet_plain rfl (fun K hK => ?_)); (focus (apply quiet_val; (focus (intro w' hw; obtain ⟨hcq, hfq⟩ := bcell ((hC.out _).1 hw); go_simp; (first | done | rfl))); (simp only [Act.put, List.setIfInBounds_toArray, List.set_cons_succ, List.set_cons_zero]); (with_reducible refine hK _ ?_); clear hK K)))
                  | ((with_reducible refine quiet_skip ?_ ?_); (focus (first | (simp [Region.wanted, yielded]; done) | (simp [Region.wanted, yielded]; done))); simp only [Act.put, List.setIfInBounds_toArray, List.set_cons_succ, List.set_cons_zero])
                  | ((with_reducible refine quiet_go ?_ (fun K hK => ?_)); (focus (first | (simp [Region.wanted, yielded]; done) | (simp [Region.wanted, yielded, undef]; done))); (focus (apply quiet_val; (focus (intro w' hw; obtain ⟨hcq, hfq⟩ := bcell ((hC.out _).1 hw); go_simp; (first | done | rfl))); (simp only [Act.put, List.setIfInBounds_toArray, List.set_cons_succ, List.set_cons_zero]); (with_reducible refine hK _ ?_); clear hK K))))
                refine wpQuiet_nil ?_
                intro w1 hb1
                replace hb1 := (hC.out _).1 hb1
                clear hC C
                obtain ⟨hc1, hf1⟩ := bcell hb1
                have HQ2 := Lib.hid (pt HQ.out hb1)
                clear hb1 hc1 hf1
                go_wp2
                go_ret
                exact ⟨ret_bool HX.out.symm, HQ2.out⟩
            · have h61 : blo < alo := by omega
              have h62 : decide (blo < alo) = true := decide_eq_true h61
              have HX := Lib.hid (show G = false from HNk.out (fun h => h6 (hok.1 h).1))
              clear hok
              go_wp2
              refine region_below 23 follows_mixed (by kernel_rfl) ?_
              intro C hC
              simp only [List.take_succ_cons, List.take_zero, List.drop_succ_cons, List.drop_zero]
              repeat (first
                | ((with_reducible refine quiet_plain rfl (fun K hK => ?_)); (focus (apply quiet_val; (focus (intro w' hw; obtain ⟨hcq, hfq⟩ := bcell ((hC.out _).1 hw); go_simp; (first | done | rfl))); (simp only [Act.put, List.setIfInBounds_toArray, List.set_cons_succ, List.set_cons_zero]); (with_reducible refine hK _ ?_); clear hK K)))
                | ((with_reducible refine quiet_skip ?_ ?_); (focus (first | (simp [Region.wanted, yielded]; done) | (simp [Region.wanted, yielded, undef]; done))); simp only [Act.put, List.setIfInBounds_toArray, List.set_cons_succ, List.set_cons_zero])
                | ((with_reducible refine quiet_go ?_ (fun K hK => ?_)); (focus (first | (simp [Region.wanted, yielded]; done) | (simp [Region.wanted, yielded, undef]; done))); (focus (apply quiet_val; (focus (intro w' hw; obtain ⟨hcq, hfq⟩ := bcell ((hC.out _).1 hw); go_simp; (first | done | rfl))); (simp only [Act.put, List.setIfInBounds_toArray, List.set_cons_succ, List.set_cons_zero]); (with_reducible refine hK _ ?_); clear hK K))))
              refine wpQuiet_nil ?_
              intro w1 hb1
              replace hb1 := (hC.out _).1 hb1
              clear hC C
              obtain ⟨hc1, hf1⟩ := bcell hb1
              have HQ2 := Lib.hid (pt HQ.out hb1)
              clear hb1 hc1 hf1
              go_wp2
              go_ret
              exact ⟨ret_bool HX.out.symm, HQ2.out⟩
          · have HX := Lib.hid (show G = true from HG.out.2 ⟨hp, fun j hj => by
              rcases Nat.lt_or_ge j k with h2 | h2
              · exact HAll.out j h2
              · rcases (show j = 4 ∨ j = 5 by omega) with rfl | rfl
                · exact hok4.out
                · exact hok5.out⟩)
            have hk4 : ¬ (k : Int) ≤ 3 := by omega
            go_wp2
            go_ret
            exact ⟨ret_bool HX.out.symm, HQ.out⟩
      · have HX := Lib.hid (show G = false from HNg.out 5 (by decide) (fun h => h5 (H5.out.1 h)))
        go_enter Tryd.func53, Tryd.ntmps53
        go_wp2
        all_goals
          go_ret
          exact ⟨ret_bool HX.out.symm, pa (pa pr)⟩
    · have HX := Lib.hid (show G = false from HNg.out 4 (by decide) (fun h => h4 (H4.out.1 h)))
      go_enter Tryd.func53, Tryd.ntmps53
      go_wp2
      all_goals
        go_ret
        exact ⟨ret_bool HX.out.symm, pa (pa pr)⟩
  · have hp1 : b.price < a.price := by omega
    have HX := Lib.hid (show G = false by
      cases hG : G
      · rfl
      · exact absurd (HG.out.1 hG).1 hp)
    go_enter Tryd.func53, Tryd.ntmps53
    go_wp2
    go_ret
    exact ⟨ret_bool HX.out.symm, pa (pa pr)⟩

end Go.Proofs.YtabbehmodmmgoaaDoor
end
