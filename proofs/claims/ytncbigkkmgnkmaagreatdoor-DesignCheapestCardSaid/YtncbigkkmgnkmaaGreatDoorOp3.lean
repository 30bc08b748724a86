/- Contract: the specification's recursive list of all choices. Printed by a program (gen_e1cho.py). -/
import Derived.Test.YtncbigkkmgnkmaaGreatDoorOp1
import Derived.Test.YtncbigkkmgnkmaaGreatDoorOp2
import Derived.Test.YtncbigkkmgnkmaaGreatDoorOn3

section
namespace Go.Proofs.YtncbigkkmgnkmaaGreatDoor
open Go.RowKit

set_option maxRecDepth 100000 in
set_option maxHeartbeats 8000000 in
theorem refChoices_any (B : Nat) (sl : List (List DPart)) (SA : Option Addr) (sn sc : Nat) (idle price : Int) (hn : sl.length = sn) (h5 : sn ≤ 5) (h6 : ∀ l ∈ sl, l.length ≤ 6) :
    ∀ (d : Nat) (xs : List Int) (A : Option Addr) (n c : Nat) (w : World), SlotsIn B w SA sl → B ≤ w.heap.size → xs.length = n → n + d = sn → n ≤ c → IntRow w A xs →
      Calls Tryz.prog 54 #[.agg #[.slice SA sn sc, .int .i64 idle, .int .i64 price], .slice A n c] w (RowsRet w (choV sl d xs)) := by
  have HSn := Lib.hid hn
  clear hn
  intro d
  induction d with
  | zero =>
    intro xs A n c w hr hB hx hd hc hi
    obtain rfl : n = sn := by omega
    have HS := Lib.hid (show choV sl 0 xs = [xs] from rfl)
    have HI := Lib.hid hi
    have HX := Lib.hid hx
    clear hr hi hx
    go_enter Tryz.func54, Tryz.ntmps54
    go_wp2
    go_ret
    rw [HS.out]
    have hxl := HX.out
    subst hxl
    have ho := World.ownsRow_lit (base := w.heap.size) (e := 32) (size := 1) (w.alloc (.cells #[.slice SA xs.length sc, .int .i64 idle, .int .i64 price] 27)) #[.slice A xs.length c] 1 (by simp) (by decide) rfl
    rw [World.size_alloc] at ho
    refine ⟨_, _, [.slice A xs.length c], rfl, ho, RowsOf.one ?_ hc, pa (pa pr)⟩
    exact HI.out.same (kept_below (pa (pa pr)))
  | succ d ih =>
    intro xs A n c w hr hB hx hd hc hi
    obtain ⟨i0, hi0, hz0, hz1, hz2⟩ := info_parts int_info
    obtain ⟨s0, hs0, hy0, hy1, hy2⟩ := info_parts slice_info
    have hns : n < sn := by omega
    have hk' : n < sl.length := by rw [HSn.out]; exact hns
    have hne : ((n : Int) == (sn : Int)) = false := by
      have : ¬ (n : Int) = (sn : Int) := by omega
      simpa using this
    obtain ⟨b1, off1, rfl, hb1, hct1⟩ := hr.at_ hk'
    obtain ⟨A2, c2, e1, hts, hcap⟩ := hct1 n hk'
    have HFull := Lib.hid (show choV sl (d + 1) xs = choUpto sl d xs (sl.getD n []).length by rw [← hx]; rfl)
    have hP6 := getD_len h6 n
    have hb1w : b1 < w.heap.size := Nat.lt_of_lt_of_le hb1 hB
    have HCell := Lib.hid (fun W (hW : Below w.heap.size w W) => (show W.cell? ⟨b1, off1 + n, none⟩ = some (.slice A2 (sl.getD n []).length c2) ∧ b1 < W.heap.size from ⟨((bcell hW).1 _ _ hb1w).trans e1, Nat.lt_of_lt_of_le hb1w hW.size⟩))
    generalize (sl.getD n []).length = P at *
    have HR := Lib.hid hr
    have HI := Lib.hid hi
    have IH := Lib.hid ih
    have HX := Lib.hid hx
    have HD := Lib.hid hd
    have HB := Lib.hid hB
    have H6 := Lib.hid h6
    have n0 : (0 : Int) ≤ (n : Int) := by omega
    have n1 : (n : Int) < (sn : Int) := by omega
    have B0 := Lib.hid (show Blk (w.alloc (.cells #[.slice (some ⟨b1, off1, none⟩) sn sc, .int .i64 idle, .int .i64 price] 27)) w.heap.size 27 #[.slice (some ⟨b1, off1, none⟩) sn sc, .int .i64 idle, .int .i64 price] from Blk.newAt rfl)
    have HQ0 := Lib.hid (show Below w.heap.size w (w.alloc (.cells #[.slice (some ⟨b1, off1, none⟩) sn sc, .int .i64 idle, .int .i64 price] 27)) from pa pr)
    clear hr hi ih hx hct1 e1 hts hcap hk' hB h6 hd
    go_enter Tryz.func54, Tryz.ntmps54
    go_wp2
    generalize w.alloc (.cells #[.slice (some ⟨b1, off1, none⟩) sn sc, .int .i64 idle, .int .i64 price] 27) = w0 at *
    go_loopw [5, 6] (fun ov iv wr => ∃ (j : Nat) (A' : Option Addr) (c' : Nat) (us : List Value), iv = .int .i64 (j : Int) ∧ ov = .slice A' (choUpto sl d xs j).length c' ∧ j ≤ P ∧ wr.ownsRow w.heap.size 32 1 (.slice A' (choUpto sl d xs j).length c') (choUpto sl d xs j).length us ∧ RowsOf wr us (choUpto sl d xs j) ∧ Below w.heap.size w wr ∧ Blk wr w.heap.size 27 #[.slice (some ⟨b1, off1, none⟩) sn sc, .int .i64 idle, .int .i64 price]) (fun _ iv _ => P - (intOf iv).toNat)
    case atStart => exact ⟨0, none, 0, [], rfl, rfl, Nat.zero_le _, World.ownsRow_nil _ _ _ _, RowsOf.nil, HQ0.out, B0.out⟩
    case round =>
      obtain ⟨j, A', c', us, rfl, rfl, hj, hown, hrow, hq, hk⟩ := hrel
      have HOwn := Lib.hid hown
      have HRow := Lib.hid hrow
      have HQ := Lib.hid hq
      have HK := Lib.hid hk
      clear hown hrow hq hk B0 HQ0
      have k0 := HK.out.cellAt 0 rfl
      have k1 := HK.out.cellAt 1 rfl
      have k2 := HK.out.cellAt 2 rfl
      have kl := HK.out.lt
      obtain ⟨e1, e2⟩ := HCell.out wr HQ.out
      by_cases hlt : j < P
      · have HG := Lib.hid (show choUpto sl d xs (j + 1) = choUpto sl d xs j ++ choV sl d (xs ++ [(j : Int)]) from choUpto_succ sl d xs j)
        have hdn : n + 1 + d = sn := by have := HD.out; omega
        have hU := Nat.le_trans (choUpto_length (fun ys => choV_few H6.out d (by omega) ys) xs j) (Nat.mul_le_mul_right 7776 (show j ≤ 6 by omega))
        have hV := choV_few H6.out d (by omega) (xs ++ [(j : Int)])
        have hIR : IntRow wr A xs := HI.out.same (kept_below HQ.out)
        have HIR := Lib.hid hIR
        have hqs := HQ.out.size
        have hUl : (choUpto sl d xs j).length ≤ 46656 := by omega
        have HLu := Lib.hid (show (choUpto sl d xs j).length = (choUpto sl d xs j).length from rfl)
        have HVl := Lib.hid hV
        clear hIR hU hV
        go_wp2
        clear k0 k1 k2 kl e1 e2
        have HSS := Lib.hid (show ∀ W, Below wr.heap.size wr W → W.cell? ⟨w.heap.size, 0, none⟩ = some (.slice (some ⟨b1, off1, none⟩) sn sc) ∧ W.cell? ⟨w.heap.size, 1, none⟩ = some (.int .i64 idle) ∧ W.cell? ⟨w.heap.size, 2, none⟩ = some (.int .i64 price) from fun W hW => ⟨(HK.out.past hW).cellAt 0 rfl, (HK.out.past hW).cellAt 1 rfl, (HK.out.past hW).cellAt 2 rfl⟩)
        refine wp_region_G 9 follows_mixed (fun W => W.cell? ⟨w.heap.size, 0, none⟩ = some (.slice (some ⟨b1, off1, none⟩) sn sc) ∧ W.cell? ⟨w.heap.size, 1, none⟩ = some (.int .i64 idle) ∧ W.cell? ⟨w.heap.size, 2, none⟩ = some (.int .i64 price)) (HSS.out _ (pd pr)) ?_
        intro hSd inv
        have HSd := Lib.hid hSd
        clear hSd
        have HB0 := Lib.hid (show Below wr.heap.size wr wr.drew from pd pr)
        refine wpAnyG_take (i := 0) (v := ?_) rfl (by kernel_rfl) (by kernel_rfl) (by kernel_rfl) (by kernel_rfl) (by kernel_rfl) (by decide) (by decide) inv (fun _ _ _ h => h) (Or.inl ⟨by rfl, ?_⟩) HSd.out ?_; rotate_left; (focus (intro W y1; obtain ⟨y1, y2, y3⟩ := y1; go_simp; (first | done | with_reducible rfl))); clear inv; intro inv; simp only [List.getElem_toArray, List.getElem_cons_zero, Act.put, List.setIfInBounds_toArray, List.set_cons_zero, List.set_cons_succ]
        refine wpAnyG_take (i := 1) (v := ?_) rfl (by kernel_rfl) (by kernel_rfl) (by kernel_rfl) (by kernel_rfl) (by kernel_rfl) (by decide) (by decide) inv (fun _ _ _ h => h) (Or.inl ⟨by rfl, ?_⟩) HSd.out ?_; rotate_left; (focus (intro W y1; obtain ⟨y1, y2, y3⟩ := y1; go_simp; (first | done | with_reducible rfl))); clear inv; intro inv; simp only [List.getElem_toArray, List.getElem_cons_zero, List.getElem_cons_succ, Act.put, List.setIfInBounds_toArray, List.set_cons_zero, List.set_cons_succ]
        refine wpAnyG_take (i := 2) (v := ?_) rfl (by kernel_rfl) (by kernel_rfl) (by kernel_rfl) (by kernel_rfl) (by kernel_rfl) (by decide) (by decide) inv (fun _ _ _ h => h) (Or.inl ⟨by rfl, ?_⟩) HSd.out ?_; rotate_left; (focus (intro W y1; obtain ⟨y1, y2, y3⟩ := y1; go_simp; (first | done | with_reducible rfl))); clear inv; intro inv; simp only [List.getElem_toArray, List.getElem_cons_zero, List.getElem_cons_succ, Act.put, List.setIfInBounds_toArray, List.set_cons_zero, List.set_cons_succ]
        refine wpAnyG_take (i := 4) (v := ?_) rfl (by kernel_rfl) (by kernel_rfl) (by kernel_rfl) (by kernel_rfl) (by kernel_rfl) (by decide) (by decide) inv (fun _ _ _ h => h) (Or.inl ⟨by rfl, ?_⟩) HSd.out ?_; rotate_left; (focus (intro W y1; obtain ⟨y1, y2, y3⟩ := y1; go_simp; (first | done | with_reducible rfl))); clear inv; intro inv; simp only [List.getElem_toArray, List.getElem_cons_zero, List.getElem_cons_succ, Act.put, List.setIfInBounds_toArray, List.set_cons_zero, List.set_cons_succ]
        have HInv := Lib.hid inv
        clear inv
        clear HInv
        generalize wr.drew = vd at *
        refine wpAnyG_twoE (i := 3) (k := 5) (by kernel_rfl) rfl rfl rfl rfl (fun K hK => ?_) (fun K hK => ?_)
        · go_simp
          refine (copyInts_any vd.heap.size A n c xs vd (HIR.out.same (kept_below HB0.out)).ints HX.out (Nat.le_refl _) (by omega)).mono ?_
          rintro e w1 ⟨v1, rfl, hown1, hb⟩
          have HBx3 := Lib.hid (show Below wr.heap.size wr w1 from pt HB0.out hb)
          rw [HX.out] at hown1
          obtain ⟨A1, c1, rfl, hc1, _⟩ := own_form hown1
          have HO0 := Lib.hid (own_base hown1 (base' := wr.heap.size) HB0.out.size)
          clear hown1
          refine hK.out _ _ (fun _ => HSS.out _ HBx3.out) ?_
          clear hK K hb
          refine wpAnyG_one (i := 5) (by kernel_rfl) rfl rfl fun K hK => ?_
          go_simp
          have HO1 := Lib.hid (HO0.out.alloc (.cells #[.int .i64 (j : Int)] 3))
          have HC1 := Lib.hid (show CellsIn (w1.alloc (.cells #[.int .i64 (j : Int)] 3)).heap.size (w1.alloc (.cells #[.int .i64 (j : Int)] 3)) (some ⟨w1.heap.size, 0, none⟩) [.int .i64 (j : Int)] from by simpa using cellsIn_one w1 3 (.int .i64 (j : Int)))
          have HBn := Lib.hid (show Below wr.heap.size wr (w1.alloc (.cells #[.int .i64 (j : Int)] 3)) from HBx3.out.alloc HBx3.out.size _)
          refine hK.out _ _ (fun _ => HSS.out _ HBn.out) ?_
          clear hK K
          generalize w1.alloc (.cells #[.int .i64 (j : Int)] 3) = wx at *
          generalize w1.heap.size = g at *
          clear HO0
          have hwx := HBn.out.size
          refine wpAnyG_one (i := 6) (by kernel_rfl) rfl rfl fun K hK => ?_
          refine wp_append_cells _ (.tmp 29) (.tmp 31) _ (by rfl) wr.heap.size 3 i0 _ 1 8 Tryz.underlying32 hi0 hz0 hz1 hz2 (by rfl) (by omega) (.slice A1 n c1) n _ (by rfl) HO1.out wx.heap.size (some ⟨g, 0, none⟩) 1 1 [.int .i64 (j : Int)] (by rfl) HC1.out rfl (by simp [Value.oneCell']) (by simp only [maxLen]; omega) (by omega) (by omega) ?_
          intro v2 w2 hown2 hg2 _
          have HB2 := Lib.hid (show Below wr.heap.size wr w2 from pg HBn.out HO1.out (Nat.le_refl _) hg2)
          obtain ⟨A3, c3, rfl, hc3, _⟩ := own_form hown2
          have HR2 := Lib.hid (intRow_of_own (xs := xs ++ [(j : Int)]) (by simpa using hown2))
          clear hown2 hg2 HO1 HC1
          refine hK.out _ _ (fun _ => HSS.out _ HB2.out) ?_
          clear hK K
          refine wpAnyG_one (i := 7) (by kernel_rfl) rfl rfl fun K hK => ?_
          go_simp
          refine (IH.out (xs ++ [(j : Int)]) A3 (n + 1) c3 w2 (HR.out.below ((pt HQ.out HB2.out).mono HB.out)) (Nat.le_trans HB.out (pt HQ.out HB2.out).size) (by simp [HX.out]) hdn hc3 HR2.out).mono ?_
          rintro e w3 ⟨A4, c4, us4, rfl, hown4, hrow4, hb4⟩
          have HB3 := Lib.hid (show Below wr.heap.size wr w3 from pt HB2.out hb4)
          have HC4 := Lib.hid (cellsIn_of_own hown4)
          have HRow4 := Lib.hid hrow4
          have H14 := Lib.hid hrow4.oneCell
          have HL4 := Lib.hid (show us4.length = (choV sl d (xs ++ [(j : Int)])).length * 1 by rw [hrow4.1]; omega)
          have HO3 := Lib.hid (own_past HB3.out HOwn.out)
          have HRow3 := Lib.hid (HRow.out.same (kept_below HB3.out))
          have HK3 := Lib.hid (HK.out.past HB3.out)
          have hs3 := HB3.out.size
          clear hown4 hrow4 hb4 HR2 HB2
          refine hK.out _ _ (fun _ => HSS.out _ HB3.out) ?_
          clear hK K
          refine wpAnyG_one (i := 8) (by kernel_rfl) rfl rfl fun K hK => ?_
          refine wp_append_cells _ (.tmp 26) (.tmp 33) _ (by rfl) w.heap.size 32 s0 _ 1 24 Tryz.underlying101 hs0 hy0 hy1 hy2 (by rfl) (by omega) (.slice A' (choUpto sl d xs j).length c') (choUpto sl d xs j).length us (by rfl) HO3.out w3.heap.size A4 (choV sl d (xs ++ [(j : Int)])).length c4 us4 (by rfl) HC4.out HL4.out H14.out (by have := HVl.out; simp only [maxLen]; omega) (by have := HVl.out; omega) (by omega) ?_
          intro v5 w5 hown5 hg5 _
          obtain ⟨A5, c5, rfl, hc5, _⟩ := own_form hown5
          have HB5 := Lib.hid (show Below w.heap.size w w5 from pg (pt HQ.out HB3.out) HO3.out (Nat.le_refl _) hg5)
          have HK5 := Lib.hid (HK3.out.grown hg5 (own_ne HO3.out HK3.out (by decide)))
          have HO5 := Lib.hid hown5
          have HRow5 := Lib.hid ((HRow3.out.append HRow4.out).same (kept_rows HO3.out (by decide) hg5))
          clear hown5 hg5 HO3 HK3 HRow3 HRow4 HC4 H14 HL4 HB3
          refine hK.out _ _ (fun _ => ⟨HK5.out.cellAt 0 rfl, HK5.out.cellAt 1 rfl, HK5.out.cellAt 2 rfl⟩) ?_
          clear hK K
          refine wpAnyG_one (i := 9) (by kernel_rfl) rfl rfl fun K hK => ?_
          go_simp
          refine hK.out _ _ (fun h => absurd h (by decide)) ?_
          clear hK K
          refine wpAnyG_done (by kernel_rfl) ?_
          clear HSS HSd HB0
          go_wp2
          go_roundw
          case rel => exact ⟨j + 1, A5, c5, us ++ us4, by go_num, by rw [HG.out, List.length_append], by omega, by rw [HG.out, List.length_append]; exact HO5.out, by rw [HG.out]; exact HRow5.out, HB5.out, HK5.out⟩
          case measure => simp [intOf]; omega
        · go_simp
          have HBn := Lib.hid (show Below wr.heap.size wr (vd.alloc (.cells #[.int .i64 (j : Int)] 3)) from HB0.out.alloc HB0.out.size _)
          have XN := Lib.hid (Blk.new vd 3 #[.int .i64 (j : Int)])
          refine hK.out _ _ (fun _ => HSS.out _ HBn.out) ?_
          clear hK K
          generalize vd.alloc (.cells #[.int .i64 (j : Int)] 3) = wn at *
          generalize vd.heap.size = g at *
          refine wpAnyG_one (i := 3) (by kernel_rfl) rfl rfl fun K hK => ?_
          go_simp
          refine (copyInts_any wn.heap.size A n c xs wn (HIR.out.same (kept_below HBn.out)).ints HX.out (Nat.le_refl _) (by omega)).mono ?_
          rintro e wx ⟨v1, rfl, hown1, hb⟩
          rw [HX.out] at hown1
          obtain ⟨A1, c1, rfl, hc1, _⟩ := own_form hown1
          have HO1 := Lib.hid (own_base hown1 (base' := wr.heap.size) HBn.out.size)
          have XN2 := Lib.hid (XN.out.past hb)
          have HC1 := Lib.hid (show CellsIn wx.heap.size wx (some ⟨g, 0, none⟩) [.int .i64 (j : Int)] from .inr ⟨g, 0, rfl, XN2.out.lt, fun i hi => by
            obtain rfl : i = 0 := by simp at hi; omega
            exact XN2.out.cellAt 0 rfl⟩)
          have HBx3 := Lib.hid (show Below wr.heap.size wr wx from pt HBn.out hb)
          clear hown1 XN XN2 HBn
          refine hK.out _ _ (fun _ => HSS.out _ HBx3.out) ?_
          clear hK K hb
          have hwx := HBx3.out.size
          refine wpAnyG_one (i := 6) (by kernel_rfl) rfl rfl fun K hK => ?_
          refine wp_append_cells _ (.tmp 29) (.tmp 31) _ (by rfl) wr.heap.size 3 i0 _ 1 8 Tryz.underlying32 hi0 hz0 hz1 hz2 (by rfl) (by omega) (.slice A1 n c1) n _ (by rfl) HO1.out wx.heap.size (some ⟨g, 0, none⟩) 1 1 [.int .i64 (j : Int)] (by rfl) HC1.out rfl (by simp [Value.oneCell']) (by simp only [maxLen]; omega) (by omega) (by omega) ?_
          intro v2 w2 hown2 hg2 _
          have HB2 := Lib.hid (show Below wr.heap.size wr w2 from pg HBx3.out HO1.out (Nat.le_refl _) hg2)
          obtain ⟨A3, c3, rfl, hc3, _⟩ := own_form hown2
          have HR2 := Lib.hid (intRow_of_own (xs := xs ++ [(j : Int)]) (by simpa using hown2))
          clear hown2 hg2 HO1 HC1
          refine hK.out _ _ (fun _ => HSS.out _ HB2.out) ?_
          clear hK K
          refine wpAnyG_one (i := 7) (by kernel_rfl) rfl rfl fun K hK => ?_
          go_simp
          refine (IH.out (xs ++ [(j : Int)]) A3 (n + 1) c3 w2 (HR.out.below ((pt HQ.out HB2.out).mono HB.out)) (Nat.le_trans HB.out (pt HQ.out HB2.out).size) (by simp [HX.out]) hdn hc3 HR2.out).mono ?_
          rintro e w3 ⟨A4, c4, us4, rfl, hown4, hrow4, hb4⟩
          have HB3 := Lib.hid (show Below wr.heap.size wr w3 from pt HB2.out hb4)
          have HC4 := Lib.hid (cellsIn_of_own hown4)
          have HRow4 := Lib.hid hrow4
          have H14 := Lib.hid hrow4.oneCell
          have HL4 := Lib.hid (show us4.length = (choV sl d (xs ++ [(j : Int)])).length * 1 by rw [hrow4.1]; omega)
          have HO3 := Lib.hid (own_past HB3.out HOwn.out)
          have HRow3 := Lib.hid (HRow.out.same (kept_below HB3.out))
          have HK3 := Lib.hid (HK.out.past HB3.out)
          have hs3 := HB3.out.size
          clear hown4 hrow4 hb4 HR2 HB2
          refine hK.out _ _ (fun _ => HSS.out _ HB3.out) ?_
          clear hK K
          refine wpAnyG_one (i := 8) (by kernel_rfl) rfl rfl fun K hK => ?_
          refine wp_append_cells _ (.tmp 26) (.tmp 33) _ (by rfl) w.heap.size 32 s0 _ 1 24 Tryz.underlying101 hs0 hy0 hy1 hy2 (by rfl) (by omega) (.slice A' (choUpto sl d xs j).length c') (choUpto sl d xs j).length us (by rfl) HO3.out w3.heap.size A4 (choV sl d (xs ++ [(j : Int)])).length c4 us4 (by rfl) HC4.out HL4.out H14.out (by have := HVl.out; simp only [maxLen]; omega) (by have := HVl.out; omega) (by omega) ?_
          intro v5 w5 hown5 hg5 _
          obtain ⟨A5, c5, rfl, hc5, _⟩ := own_form hown5
          have HB5 := Lib.hid (show Below w.heap.size w w5 from pg (pt HQ.out HB3.out) HO3.out (Nat.le_refl _) hg5)
          have HK5 := Lib.hid (HK3.out.grown hg5 (own_ne HO3.out HK3.out (by decide)))
          have HO5 := Lib.hid hown5
          have HRow5 := Lib.hid ((HRow3.out.append HRow4.out).same (kept_rows HO3.out (by decide) hg5))
          clear hown5 hg5 HO3 HK3 HRow3 HRow4 HC4 H14 HL4 HB3
          refine hK.out _ _ (fun _ => ⟨HK5.out.cellAt 0 rfl, HK5.out.cellAt 1 rfl, HK5.out.cellAt 2 rfl⟩) ?_
          clear hK K
          refine wpAnyG_one (i := 9) (by kernel_rfl) rfl rfl fun K hK => ?_
          go_simp
          refine hK.out _ _ (fun h => absurd h (by decide)) ?_
          clear hK K
          refine wpAnyG_done (by kernel_rfl) ?_
          clear HSS HSd HB0
          go_wp2
          go_roundw
          case rel => exact ⟨j + 1, A5, c5, us ++ us4, by go_num, by rw [HG.out, List.length_append], by omega, by rw [HG.out, List.length_append]; exact HO5.out, by rw [HG.out]; exact HRow5.out, HB5.out, HK5.out⟩
          case measure => simp [intOf]; omega
      · have hje : j = P := by omega
        have HJ := Lib.hid hje
        clear hje
        go_wp2
        go_ret
        rw [HFull.out, ← HJ.out]
        exact ⟨A', c', us, rfl, HOwn.out, HRow.out, HQ.out⟩

end Go.Proofs.YtncbigkkmgnkmaaGreatDoor
end
