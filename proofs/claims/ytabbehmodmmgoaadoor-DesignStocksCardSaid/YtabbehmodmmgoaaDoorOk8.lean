/- Contract: Undominated (the specification of chapter 2). Printed by a program (gen_d7und.py). -/
import Derived.Test.YtabbehmodmmgoaaDoorOk7
import Derived.Test.YtabbehmodmmgoaaDoorOc2

section
namespace Go.Proofs.YtabbehmodmmgoaaDoor
open Go.RowKit

/-- None of the first j parts dominates part i. -/
def freeK (l : List DPart) (i j : Nat) : Bool := !((List.range j).any fun n => domB l n i)
theorem freeK_succ (l : List DPart) (i j : Nat) : freeK l i (j + 1) = (freeK l i j && !domB l j i) := by
  unfold freeK
  rw [List.range_succ, List.any_append]
  simp
def undK (l : List DPart) (k : Nat) : List Int := ((List.range k).filter (freeB l)).map fun (i : Nat) => (i : Int)
theorem undK_succ (l : List DPart) (k : Nat) : undK l (k + 1) = if freeB l k then undK l k ++ [(k : Int)] else undK l k := by
  unfold undK
  rw [List.range_succ, List.filter_append, List.map_append]
  cases h : freeB l k <;> simp [h]
theorem undK_len (l : List DPart) (k : Nat) : (undK l k).length ≤ k := by
  unfold undK
  rw [List.length_map]
  exact Nat.le_trans (List.length_filter_le _ _) (by rw [List.length_range]; exact Nat.le_refl _)

set_option maxHeartbeats 16000000 in
set_option maxRecDepth 100000 in
theorem refUnd_any (B : Nat) (sl : List (List DPart)) (A : Option Addr) (n c : Nat) (idle price : Int) (s : Nat) (w : World) (hr : SlotsIn B w A sl) (hB : B ≤ w.heap.size) (hn : sl.length = n) (hs : s < n) (hl : (sl.getD s []).length ≤ 1000) :
    Calls Tryd.prog 29 #[.agg #[.slice A n c, .int .i64 idle, .int .i64 price], .int .i64 (s : Int)] w fun e w' => ∃ A2 c2, e = .returned (.slice A2 (undK (sl.getD s []) (sl.getD s []).length).length c2) ∧ IntsIn w'.heap.size w' A2 (undK (sl.getD s []) (sl.getD s []).length) ∧ Below w.heap.size w w' := by
  obtain ⟨i0, hi0, hz0, hz1, hz2⟩ := info_parts int_info
  obtain ⟨b, off, rfl, hb, hct⟩ := hr.at_ (k := s) (by omega)
  obtain ⟨A', c', u0, hps, hcap⟩ := hct s (by omega)
  have HPs := Lib.hid hps
  have R0 := Lib.hid (show Blk (w.alloc (.cells #[.slice (some ⟨b, off, none⟩) n c, .int .i64 idle, .int .i64 price] 51)) w.heap.size 51 #[.slice (some ⟨b, off, none⟩) n c, .int .i64 idle, .int .i64 price] from Blk.newAt rfl)
  have HB0 := Lib.hid (show Below w.heap.size w (w.alloc (.cells #[.slice (some ⟨b, off, none⟩) n c, .int .i64 idle, .int .i64 price] 51)) from pa pr)
  have x0 := R0.out.cellAt 0 rfl
  have xl := R0.out.lt
  have hbw : b < w.heap.size := by omega
  have y0 := (HB0.out.cell (p := ⟨b, off + s, none⟩) hbw).trans u0
  have hbw2 : b < (w.alloc (.cells #[.slice (some ⟨b, off, none⟩) n c, .int .i64 idle, .int .i64 price] 51)).heap.size := Nat.lt_of_lt_of_le hbw HB0.out.size
  have s0 : (0 : Int) ≤ (s : Int) := by omega
  have s1 : (s : Int) < (n : Int) := by omega
  clear hct hr hps u0
  generalize sl.getD s [] = l at *
  generalize hm : l.length = m at *
  have HM := Lib.hid hm
  clear hm hcap
  go_enter Tryd.func29, Tryd.ntmps29
  go_wp2
  clear x0 xl y0 hbw2
  generalize (w.alloc (.cells #[.slice (some ⟨b, off, none⟩) n c, .int .i64 idle, .int .i64 price] 51)) = wo at *
  go_loopw [6, 7] (fun ov iv wr => ∃ (k q : Nat) (A2 : Option Addr) (c2 : Nat), iv = .int .i64 (k : Int) ∧ k ≤ m ∧ ov = .slice A2 q c2 ∧ q = (undK l k).length ∧ wr.ownsRow w.heap.size 3 1 (.slice A2 q c2) q ((undK l k).map (Value.int .i64)) ∧ Below w.heap.size w wr) (fun _ iv _ => m - (intOf iv).toNat)
  case atStart => exact ⟨0, 0, none, 0, rfl, Nat.zero_le _, rfl, rfl, World.ownsRow_nil _ _ _ _, HB0.out⟩
  case round =>
    obtain ⟨k, q, A2, c2, rfl, hk, rfl, hq, hown, hbl⟩ := hrel
    have HO := Lib.hid hown
    have HQ := Lib.hid hbl
    have HQl := Lib.hid hq
    have hqk : q ≤ k := by rw [hq]; exact undK_len l k
    clear hown hbl hq
    by_cases hlt : k < m
    · have hk' : k < l.length := by rw [HM.out]; exact hlt
      have k0 : (0 : Int) ≤ (k : Int) := by omega
      have k1 : (k : Int) < (m : Int) := by omega
      have HSt := Lib.hid (undK_succ l k)
      have HFr := Lib.hid (show freeB l k = freeK l k m by rw [← HM.out]; rfl)
      go_wp2
      generalize wr = wx at *
      go_loopw [8, 9] (fun fv jv wr => ∃ j : Nat, jv = .int .i64 (j : Int) ∧ j ≤ m ∧ fv = .bool (freeK l k j) ∧ Below wx.heap.size wx wr) (fun _ jv _ => m - (intOf jv).toNat)
      case atStart => exact ⟨0, rfl, Nat.zero_le _, rfl, pr⟩
      case round =>
        obtain ⟨j, rfl, hj, rfl, hab⟩ := hrel
        have HAb := Lib.hid (pt HQ.out hab)
        have HAx := Lib.hid hab
        clear hab
        by_cases hlj : j < m
        · have hj' : j < l.length := by rw [HM.out]; exact hlj
          obtain ⟨b2, o2, rfl, hb2, hct⟩ := parts_at (HPs.out.below (HAb.out.mono hB)) hk'
          obtain ⟨u0, u1, u2, u3, u4, u5, u6, u7, u8, u9, u10, u11, u12, u13⟩ := part_cells (hct k hk')
          obtain ⟨v0, v1, v2, v3, v4, v5, v6, v7, v8, v9, v10, v11, v12, v13⟩ := part_cells (hct j hj')
          have hb2w : b2 < wr.heap.size := Nat.lt_of_lt_of_le (Nat.lt_of_lt_of_le hb2 hB) HAb.out.size
          have j0 : (0 : Int) ≤ (j : Int) := by omega
          have j1 : (j : Int) < (m : Int) := by omega
          have HD1 := Lib.hid (fun W => dominates_any (l.getD j default) (l.getD k default) W)
          have HD2 := Lib.hid (fun W => dominates_any (l.getD k default) (l.getD j default) W)
          have HDm := Lib.hid (show domB l j k = (decide (j ≠ k) && goodB (l.getD j default) (l.getD k default) && (decide (j < k) || !goodB (l.getD k default) (l.getD j default))) from rfl)
          have HFs := Lib.hid (freeK_succ l k j)
          clear hct
          by_cases hjk : j = k
          · have e1 : ((j : Int) == (k : Int)) = true := beq_iff_eq.2 (by omega)
            have e2 : ((j : Int) != (k : Int)) = false := by rw [bne, e1]; rfl
            have HX := Lib.hid (show freeK l k (j + 1) = freeK l k j by
              rw [HFs.out, HDm.out, decide_eq_false (show ¬ j ≠ k from fun h => h hjk)]; simp)
            clear hjk HD1 HD2
            go_wp2
            refine region_below 30 follows_mixed (by kernel_rfl) ?_
            intro C hC
            simp only [List.take_succ_cons, List.take_zero, List.drop_succ_cons, List.drop_zero]
            repeat (first
              | ((with_reducible refine quiet_plain rfl (fun K hK => ?_)); (focus (apply quiet_val; (focus (intro w' hw; obtain ⟨hcq, hfq⟩ := bcell ((hC.out _).1 hw); go_simp; (first | done | rfl))); (simp only [Act.put, List.setIfInBounds_toArray, List.set_cons_succ, List.set_cons_zero]); (with_reducible refine hK _ ?_); clear hK K)))
              | ((with_reducible refine quiet_skip ?_ ?_); (focus (first | (simp [Region.wanted, yielded]; done) | (simp [Region.wanted, yielded, undef]; done))); simp only [Act.put, List.setIfInBounds_toArray, List.set_cons_succ, List.set_cons_zero])
              | ((with_reducible refine quiet_go ?_ (fun K hK => ?_)); (focus (first | (simp [Region.wanted, yielded]; done) | (simp [Region.wanted, yielded, undef]; done))); (focus (apply quiet_val; (focus (intro w' hw; obtain ⟨hcq, hfq⟩ := bcell ((hC.out _).1 hw); go_simp; (first | done | rfl))); (simp only [Act.put, List.setIfInBounds_toArray, List.set_cons_succ, List.set_cons_zero]); (with_reducible refine hK _ ?_); clear hK K))))
            refine wpQuiet_nil ?_
            intro w1 hb1
            replace hb1 := (hC.out _).1 hb1
            clear hC C
            obtain ⟨hc1, hf1⟩ := bcell hb1
            have HAc := Lib.hid (pt HAx.out hb1)
            clear hb1 hc1 hf1
            go_wp2
            go_roundw
            case rel => exact ⟨j + 1, by go_num, by omega, by rw [HX.out], HAc.out⟩
            case measure => simp [intOf]; omega
          · have e1 : ((j : Int) == (k : Int)) = false := beq_eq_false_iff_ne.2 (by omega)
            have e2 : ((j : Int) != (k : Int)) = true := by rw [bne, e1]; rfl
            have e3 : ¬ (j : Int) = (k : Int) := by omega
            generalize hyk : l.getD k default = yk at *
            generalize hyj : l.getD j default = yj at *
            clear hyk hyj
            cases hg : goodB yj yk
            · rw [hg] at HD1
              have HX := Lib.hid (show freeK l k (j + 1) = freeK l k j by
                rw [HFs.out, HDm.out, hg]; simp)
              clear hjk HD2
              go_wp2
              refine region_below 30 follows_mixed (by kernel_rfl) ?_
              intro C hC
              simp only [List.take_succ_cons, List.take_zero, List.drop_succ_cons, List.drop_zero]
              repeat (first
                | ((with_reducible refine quiet_plain rfl (fun K hK => ?_)); (focus (apply quiet_val; (focus (intro w' hw; obtain ⟨hcq, hfq⟩ := bcell ((hC.out _).1 hw); go_simp; (first | done | rfl | (with_reducible exact call_below hC hw (HD1.out _))))); (simp only [Act.put, List.setIfInBounds_toArray, List.set_cons_succ, List.set_cons_zero]); (with_reducible refine hK _ ?_); clear hK K)))
                | ((with_reducible refine quiet_skip ?_ ?_); (focus (first | (simp [Region.wanted, yielded]; done) | (simp [Region.wanted, yielded, undef]; done))); simp only [Act.put, List.setIfInBounds_toArray, List.set_cons_succ, List.set_cons_zero])
                | ((with_reducible refine quiet_go ?_ (fun K hK => ?_)); (focus (first | (simp [Region.wanted, yielded]; done) | (simp [Region.wanted, yielded, undef]; done))); (focus (apply quiet_val; (focus (intro w' hw; obtain ⟨hcq, hfq⟩ := bcell ((hC.out _).1 hw); go_simp; (first | done | rfl | (with_reducible exact call_below hC hw (HD1.out _))))); (simp only [Act.put, List.setIfInBounds_toArray, List.set_cons_succ, List.set_cons_zero]); (with_reducible refine hK _ ?_); clear hK K))))
              refine wpQuiet_nil ?_
              intro w1 hb1
              replace hb1 := (hC.out _).1 hb1
              clear hC C
              obtain ⟨hc1, hf1⟩ := bcell hb1
              have HAc := Lib.hid (pt HAx.out hb1)
              clear hb1 hc1 hf1
              go_wp2
              go_roundw
              case rel => exact ⟨j + 1, by go_num, by omega, by rw [HX.out], HAc.out⟩
              case measure => simp [intOf]; omega
            · rw [hg] at HD1
              by_cases hlt2 : j < k
              · have e4 : (j : Int) < (k : Int) := by omega
                have e5 : decide ((j : Int) < (k : Int)) = true := decide_eq_true e4
                have e6 : decide (j < k) = true := decide_eq_true hlt2
                have HX := Lib.hid (show freeK l k (j + 1) = false by
                  rw [HFs.out, HDm.out, hg, decide_eq_true hlt2, decide_eq_true hjk]; simp)
                clear HD2
                go_wp2
                refine region_below 30 follows_mixed (by kernel_rfl) ?_
                intro C hC
                simp only [List.take_succ_cons, List.take_zero, List.drop_succ_cons, List.drop_zero]
                repeat (first
                  | ((with_reducible refine quiet_plain rfl (fun K hK => ?_)); (focus (apply quiet_val; (focus (intro w' hw; obtain ⟨hcq, hfq⟩ := bcell ((hC.out _).1 hw); go_simp; (first | done | rfl | (with_reducible exact call_below hC hw (HD1.out _))))); (simp only [Act.put, List.setIfInBounds_toArray, List.set_cons_succ, List.set_cons_zero]); (with_reducible refine hK _ ?_); clear hK K)))
                  | ((with_reducible refine quiet_skip ?_ ?_); (focus (first | (simp [Region.wanted, yielded]; done) | (simp [Region.wanted, yielded, undef]; done))); simp only [Act.put, List.setIfInBounds_toArray, List.set_cons_succ, List.set_cons_zero])
                  | ((with_reducible refine quiet_go ?_ (fun K hK => ?_)); (focus (first | (simp [Region.wanted, yielded]; done) | (simp [Region.wanted, yielded, undef]; done))); (focus (apply quiet_val; (focus (intro w' hw; obtain ⟨hcq, hfq⟩ := bcell ((hC.out _).1 hw); go_simp; (first | done | rfl | (with_reducible exact call_below hC hw (HD1.out _))))); (simp only [Act.put, List.setIfInBounds_toArray, List.set_cons_succ, List.set_cons_zero]); (with_reducible refine hK _ ?_); clear hK K))))
                refine wpQuiet_nil ?_
                intro w1 hb1
                replace hb1 := (hC.out _).1 hb1
                clear hC C
                obtain ⟨hc1, hf1⟩ := bcell hb1
                have HAc := Lib.hid (pt HAx.out hb1)
                clear hb1 hc1 hf1
                go_wp2
                go_roundw
                case rel => exact ⟨j + 1, by go_num, by omega, by rw [HX.out], HAc.out⟩
                case measure => simp [intOf]; omega
              · have e4 : ¬ (j : Int) < (k : Int) := by omega
                have e5 : decide ((j : Int) < (k : Int)) = false := decide_eq_false e4
                have e6 : decide (j < k) = false := decide_eq_false hlt2
                cases hg2 : goodB yk yj
                · rw [hg2] at HD2
                  have HX := Lib.hid (show freeK l k (j + 1) = false by
                    rw [HFs.out, HDm.out, hg, hg2, decide_eq_true hjk]; simp)
                  go_wp2
                  refine region_below 30 follows_mixed (by kernel_rfl) ?_
                  intro C hC
                  simp only [List.take_succ_cons, List.take_zero, List.drop_succ_cons, List.drop_zero]
                  repeat (first
                    | ((with_reducible refine quiet_plain rfl (fun K hK => ?_)); (focus (apply quiet_val; (focus (intro w' hw; obtain ⟨hcq, hfq⟩ := bcell ((hC.out _).1 hw); go_simp; (first | done | rfl | (with_reducible exact call_below hC hw (HD1.out _)) | (with_reducible exact call_below hC hw (HD2.out _))))); (simp only [Act.put, List.setIfInBounds_toArray, List.set_cons_succ, List.set_cons_zero]); (with_reducible refine hK _ ?_); clear hK K)))
                    | ((with_reducible refine quiet_skip ?_ ?_); (focus (first | (simp [Region.wanted, yielded]; done) | (simp [Region.wanted, yielded, undef]; done))); simp only [Act.put, List.setIfInBounds_toArray, List.set_cons_succ, List.set_cons_zero])
                    | ((with_reducible refine quiet_go ?_ (fun K hK => ?_)); (focus (first | (simp [Region.wanted, yielded]; done) | (simp [Region.wanted, yielded, undef]; done))); (focus (apply quiet_val; (focus (intro w' hw; obtain ⟨hcq, hfq⟩ := bcell ((hC.out _).1 hw); go_simp; (first | done | rfl | (with_reducible exact call_below hC hw (HD1.out _)) | (with_reducible exact call_below hC hw (HD2.out _))))); (simp only [Act.put, List.setIfInBounds_toArray, List.set_cons_succ, List.set_cons_zero]); (with_reducible refine hK _ ?_); clear hK K))))
                  refine wpQuiet_nil ?_
                  intro w1 hb1
                  replace hb1 := (hC.out _).1 hb1
                  clear hC C
                  obtain ⟨hc1, hf1⟩ := bcell hb1
                  have HAc := Lib.hid (pt HAx.out hb1)
                  clear hb1 hc1 hf1
                  go_wp2
                  go_roundw
                  case rel => exact ⟨j + 1, by go_num, by omega, by rw [HX.out], HAc.out⟩
                  case measure => simp [intOf]; omega
                · rw [hg2] at HD2
                  have HX := Lib.hid (show freeK l k (j + 1) = freeK l k j by
                    rw [HFs.out, HDm.out, hg, hg2, decide_eq_false hlt2]; simp)
                  go_wp2
                  refine region_below 30 follows_mixed (by kernel_rfl) ?_
                  intro C hC
                  simp only [List.take_succ_cons, List.take_zero, List.drop_succ_cons, List.drop_zero]
                  repeat (first
                    | ((with_reducible refine quiet_plain rfl (fun K hK => ?_)); (focus (apply quiet_val; (focus (intro w' hw; obtain ⟨hcq, hfq⟩ := bcell ((hC.out _).1 hw); go_simp; (first | done | rfl | (with_reducible exact call_below hC hw (HD1.out _)) | (with_reducible exact call_below hC hw (HD2.out _))))); (simp only [Act.put, List.setIfInBounds_toArray, List.set_cons_succ, List.set_cons_zero]); (with_reducible refine hK _ ?_); clear hK K)))
                    | ((with_reducible refine quiet_skip ?_ ?_); (focus (first | (simp [Region.wanted, yielded]; done) | (simp [Region.wanted, yielded, undef]; done))); simp only [Act.put, List.setIfInBounds_toArray, List.set_cons_succ, List.set_cons_zero])
                    | ((with_reducible refine quiet_go ?_ (fun K hK => ?_)); (focus (first | (simp [Region.wanted, yielded]; done) | (simp [Region.wanted, yielded, undef]; done))); (focus (apply quiet_val; (focus (intro w' hw; obtain ⟨hcq, hfq⟩ := bcell ((hC.out _).1 hw); go_simp; (first | done | rfl | (with_reducible exact call_below hC hw (HD1.out _)) | (with_reducible exact call_below hC hw (HD2.out _))))); (simp only [Act.put, List.setIfInBounds_toArray, List.set_cons_succ, List.set_cons_zero]); (with_reducible refine hK _ ?_); clear hK K))))
                  refine wpQuiet_nil ?_
                  intro w1 hb1
                  replace hb1 := (hC.out _).1 hb1
                  clear hC C
                  obtain ⟨hc1, hf1⟩ := bcell hb1
                  have HAc := Lib.hid (pt HAx.out hb1)
                  clear hb1 hc1 hf1
                  go_wp2
                  go_roundw
                  case rel => exact ⟨j + 1, by go_num, by omega, by rw [HX.out], HAc.out⟩
                  case measure => simp [intOf]; omega
        · have hjm : j = m := by omega
          subst hjm
          rw [← HFr.out]
          have HO2 := Lib.hid (own_past HAx.out HO.out)
          have hqs := HAb.out.size
          have hm1000 : j ≤ 1000 := hl
          cases hf : freeB l k
          · have HX := Lib.hid (show undK l (k + 1) = undK l k by rw [HSt.out, hf]; rfl)
            go_wp2
            go_roundw
            case rel => exact ⟨k + 1, q, A2, c2, by go_num, by omega, rfl, by rw [HX.out]; exact HQl.out, by rw [HX.out]; exact HO2.out, HAb.out⟩
            case measure => simp [intOf]; omega
          · have HX := Lib.hid (show undK l (k + 1) = undK l k ++ [(k : Int)] by rw [HSt.out, hf]; rfl)
            go_wp2_with (at_builtin; go_must (refine wpList_append_cells _ rfl (.tmp 59) (.tmp 61) _ rfl w.heap.size 3 i0 _ 1 8 Tryd.underlying22 hi0 hz0 hz1 hz2 rfl (by omega) _ q _ rfl (HO2.out.alloc _) (wr.heap.size + 1) (some ⟨wr.heap.size, 0, none⟩) 1 1 [.int .i64 (k : Int)] rfl (cellsIn_one _ _ _) rfl (by simp [Value.oneCell']) (by simp only [maxLen]; omega) (by omega) (by simp; omega) ?_); intro v9 w9 hown9 hg9 _; obtain ⟨A9, c9, rfl, hc9, hm9⟩ := own_form hown9)
            have HO9 := Lib.hid hown9
            have HB9 := Lib.hid (pg (pa HAb.out) (HO2.out.alloc _) (Nat.le_refl _) hg9)
            clear hown9 hg9
            go_roundw
            case rel => exact ⟨k + 1, q + 1, A9, c9, by go_num, by omega, rfl, by rw [HX.out, List.length_append, ← HQl.out]; rfl, by rw [HX.out, List.map_append]; exact HO9.out, HB9.out⟩
            case measure => simp [intOf]; omega
    · have hkm : k = m := by omega
      subst hkm
      go_wp2
      go_ret
      exact ⟨A2, c2, by rw [← HQl.out]; rfl, intsIn_of_own HO.out, HQ.out⟩

end Go.Proofs.YtabbehmodmmgoaaDoor
end
