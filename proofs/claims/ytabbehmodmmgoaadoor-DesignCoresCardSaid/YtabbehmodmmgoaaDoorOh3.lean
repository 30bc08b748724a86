/- Contract: BestSteps (the specification of chapter 2). Printed by a program (gen_d4best.py). -/
import Derived.Test.YtabbehmodmmgoaaDoorOh1
import Derived.Test.YtabbehmodmmgoaaDoorOh2
import Derived.Test.YtabbehmodmmgoaaDoorOd9

section
namespace Go.Proofs.YtabbehmodmmgoaaDoor
open Go.RowKit

/-- The best of all sets of at most k widths. -/
def bu (d : Int) (ws : List Int) (k : Nat) : List Int × Int := bestF (areaD d) (candU ws k) ([], 0)
theorem bu_succ (d : Int) (ws : List Int) (k : Nat) : bu d ws (k + 1) = bestF (areaD d) ((allS ws.length (k + 1) 0).map (pickL ws)) (bu d ws k) := by
  unfold bu
  rw [candU_succ, bestF_app]
theorem row_at {w : World} {base n c j : Nat} {A : Option Addr} {us : List Value} {L : List (List Int)} (h : w.ownsRow base 22 1 (.slice A n c) n us) (hr : RowsOf w us L) (hl : j < L.length) :
    ∃ b off A2 c2, A = some ⟨b, off, none⟩ ∧ b < w.heap.size ∧ w.cell? ⟨b, off + j, none⟩ = some (.slice A2 (L.getD j []).length c2) ∧ IntsIn w.heap.size w A2 (L.getD j []) := by
  have hu : j < us.length := by rw [hr.1]; exact hl
  obtain ⟨A2, c2, h1, _, h3⟩ := hr.2 j hl
  rcases cellsIn_of_own h with hx | ⟨b, off, hA, hb, hc⟩
  · rw [hx] at hu; simp at hu
  · have := hc j hu
    rw [List.getElem?_eq_getElem hu] at this
    have e : us.getD j undef = us[j] := by simp [List.getD, hu]
    rw [e] at h1
    exact ⟨b, off, A2, c2, hA, hb, this.trans (by rw [h1]), h3.ints⟩
def BestRet (w : World) (T : List Int × Int) (e : Ending) (w' : World) : Prop :=
  ∃ A2 c2, e = .returned (.tuple #[.slice A2 T.1.length c2, .int .i64 T.2]) ∧ IntsIn w'.heap.size w' A2 T.1 ∧ Below w.heap.size w w'

set_option maxHeartbeats 4000000 in
set_option maxRecDepth 100000 in
theorem refBestSteps_any (B : Nat) (d : Int) (ws : List Int) (A : Option Addr) (n c mt : Nat) (w : World) (hr : IntsIn B w A ws) (hB : B ≤ w.heap.size) (hn : ws.length = n) (h8 : n ≤ 8) (hd : 1 ≤ d ∧ d ≤ 2000) (hw : WidthsOk d ws) (hm : mt ≤ 13) :
    Calls Tryd.prog 21 #[.int .i64 d, .slice A n c, .int .i64 (mt : Int)] w (BestRet w (bu d ws (min mt n))) := by
  have HR := Lib.hid hr
  have HN := Lib.hid hn
  have HAr := Lib.hid (fun W A' m c' xs (hI : IntsIn W.heap.size W A' xs) (hl : xs.length = m) (hm : m ≤ 8) (hx : WidthsOk d xs) => refAreaOf_any W.heap.size d xs A' m c' W hI hl (by omega) hd hx)
  have HPk := Lib.hid (fun k l (h : l ∈ allS n k 0) => (show l.length = k ∧ (∀ j, j < k → 0 ≤ l.getD j 0 ∧ l.getD j 0 < (n : Int)) ∧ WidthsOk d (pickL ws l) by
    obtain ⟨h1, h2⟩ := allS_mem.1 h
    have h3 := asc_bd h2
    rw [h1] at h3
    rw [← hn] at h2
    exact ⟨h1, h3, (pick_ok hw (lo := ((0 : Nat) : Int)) (by omega) h2).1⟩))
  have HMn := Lib.hid (show min mt n ≤ mt ∧ min mt n ≤ n ∧ (min mt n = mt ∨ min mt n = n) by omega)
  obtain ⟨i0, hi0, hz0, hz1, hz2⟩ := info_parts int_info
  clear hr hw
  generalize min mt n = mn at *
  go_enter Tryd.func21, Tryd.ntmps21
  go_wp2
  go_loopw [8, 9, 10] (fun bv nv sv wr => ∃ (k : Nat) (A2 : Option Addr) (c2 : Nat), sv = .int .i64 ((k : Int) + 1) ∧ k ≤ mn ∧ bv = .slice A2 (bu d ws k).1.length c2 ∧ nv = .int .i64 (bu d ws k).2 ∧ IntsIn wr.heap.size wr A2 (bu d ws k).1 ∧ Below w.heap.size w wr) (fun _ _ sv _ => mn + 1 - (intOf sv).toNat)
  case atStart => exact ⟨0, none, 0, rfl, Nat.zero_le _, rfl, rfl, .inl rfl, pr⟩
  case round =>
    obtain ⟨k, A2, c2, rfl, hk, rfl, rfl, hi2, hq⟩ := hrel
    have HQ0 := Lib.hid hq
    have HI2 := Lib.hid hi2
    have hmn := HMn.out
    clear hq hi2
    by_cases hlt : k < mn
    · have hle1 : (k : Int) + 1 ≤ (mt : Int) := by omega
      have hle2 : (k : Int) + 1 ≤ (n : Int) := by omega
      have HStep := Lib.hid (show bu d ws (k + 1) = bestF (areaD d) ((allS n (k + 1) 0).map (pickL ws)) (bu d ws k) by rw [bu_succ, HN.out])
      have HSub := Lib.hid (fun W => (show Calls Tryd.prog 47 #[.int .i64 (n : Int), .int .i64 ((k : Int) + 1), .slice none 0 0] W (RowsRet W (allS n (k + 1) 0)) by
        have h := refSubsets_any n (k + 1) h8 (by omega) (k + 1) [] none 0 0 W rfl (by omega) (Nat.le_refl _) (.inl rfl) (by simp)
        rw [subs_nil, show ((k + 1 : Nat) : Int) = (k : Int) + 1 from rfl] at h
        exact h))
      have HFew := Lib.hid (show (allS n (k + 1) 0).length ≤ 16777216 by rw [← subs_nil]; exact subsV_few h8 (k + 1) (by omega) [])
      have HMem := Lib.hid (HPk.out (k + 1))
      generalize hS1 : bu d ws (k + 1) = S1 at *
      have HS1 := Lib.hid hS1
      clear hS1
      generalize bu d ws k = S0 at *
      generalize allS n (k + 1) 0 = LL at *
      clear HPk hmn
      go_wp2_with (go_at_call 47; go_must (refine (HSub.out _).mono ?_); rintro e w1 ⟨Al, cl, us, rfl, hown, hrows, hb1⟩)
      have HQ1 := Lib.hid (pt HQ0.out hb1)
      have HRow := Lib.hid fun j (hj : j < LL.length) => row_at hown hrows hj
      have HI3 := Lib.hid ((HI2.out.below hb1).more hb1.size)
      clear hown hrows hb1 HSub
      go_loopw [8, 9, 12] (fun bv nv jv wr => ∃ (j : Nat) (T : List Int × Int) (A2 : Option Addr) (c2 : Nat), jv = .int .i64 (j : Int) ∧ j ≤ LL.length ∧ bv = .slice A2 T.1.length c2 ∧ nv = .int .i64 T.2 ∧ S1 = bestF (areaD d) ((LL.drop j).map (pickL ws)) T ∧ IntsIn wr.heap.size wr A2 T.1 ∧ Below w1.heap.size w1 wr) (fun _ _ jv _ => LL.length - (intOf jv).toNat)
      case atStart => exact ⟨0, S0, A2, c2, rfl, Nat.zero_le _, rfl, rfl, HStep.out, HI3.out, pr⟩
      case round =>
        obtain ⟨j, T, A3, c3, rfl, hj, rfl, rfl, hT, hi3, hq⟩ := hrel
        clear HI2 HI3 HStep
        have hfew := HFew.out
        have HQ2 := Lib.hid hq
        have HQw := Lib.hid (pt HQ1.out hq)
        have HI3 := Lib.hid hi3
        clear hq hi3
        obtain ⟨T1, T2⟩ := T
        by_cases hlj : j < LL.length
        · obtain ⟨b, off, A4, c4, hAl, hbl, hcl, hil⟩ := HRow.out j hlj
          have hbw : b < wr.heap.size := Nat.lt_of_lt_of_le hbl HQ2.out.size
          obtain ⟨hll, hbd, hwl⟩ := HMem.out (LL.getD j []) (by simp [List.getD, hlj])
          rw [hll] at hcl
          have hd2 : LL.drop j = LL.getD j [] :: LL.drop (j + 1) := by
            rw [List.drop_eq_getElem_cons hlj]
            simp [List.getD, hlj]
          have HT := Lib.hid (show S1 = bestF (areaD d) ((LL.drop (j + 1)).map (pickL ws)) (if T2 < areaD d (pickL ws (LL.getD j [])) then (pickL ws (LL.getD j []), areaD d (pickL ws (LL.getD j []))) else (T1, T2)) by rw [hT, hd2]; rfl)
          have j0 : (0 : Int) ≤ (j : Int) := by omega
          have j1 : (j : Int) < (LL.length : Int) := by omega
          clear hd2 hT
          generalize LL.getD j [] = l at *
          obtain ⟨b2, o2, rfl, hb2, hc2⟩ := hil.at_ (k := 0) (by omega)
          have HC1 := Lib.hid (fun W (hW : Below wr.heap.size wr W) => (show b < W.heap.size ∧ b2 < W.heap.size ∧ W.cell? ⟨b, off + j, none⟩ = some (.slice (some ⟨b2, o2, none⟩) (k + 1) c4) from ⟨Nat.lt_of_lt_of_le hbw hW.size, Nat.lt_of_lt_of_le (Nat.lt_of_lt_of_le hb2 HQ2.out.size) hW.size, ((HQ2.out.trans (hW.mono HQ2.out.size)).cell hbl).trans hcl⟩))
          have HC2 := Lib.hid (fun W (hW : Below wr.heap.size wr W) q (hq : q < k + 1) => (show W.cell? ⟨b2, o2 + q, none⟩ = some (.int .i64 (l.getD q 0)) from ((HQ2.out.trans (hW.mono HQ2.out.size)).cell hb2).trans (hc2 q (by rw [hll]; exact hq))))
          have HC3 := Lib.hid (fun W (hW : Below wr.heap.size wr W) => HR.out.below ((pt HQw.out hW).mono hB))
          have HBd := Lib.hid hbd
          have HWl := Lib.hid hwl
          have HLl := Lib.hid hll
          subst hAl
          clear hcl hil hc2 hbd hwl hll
          generalize wr = wx at *
          go_wp2
          go_loopw [13, 14] (fun ov iv wr => ∃ (q : Nat) (A5 : Option Addr) (c5 : Nat), iv = .int .i64 (q : Int) ∧ q ≤ k + 1 ∧ ov = .slice A5 q c5 ∧ wr.ownsRow wx.heap.size 3 1 (.slice A5 q c5) q ((pickL ws (l.take q)).map (Value.int .i64)) ∧ Below wx.heap.size wx wr) (fun _ iv _ => k + 1 - (intOf iv).toNat)
          case atStart => exact ⟨0, none, 0, rfl, Nat.zero_le _, rfl, World.ownsRow_nil _ _ _ _, pr⟩
          case round =>
            obtain ⟨q, A5, c5, rfl, hqk, rfl, hown, hab⟩ := hrel
            have HO := Lib.hid hown
            have HAq := Lib.hid hab
            have s1 := hab.size
            obtain ⟨x1, x2, x3⟩ := HC1.out wr hab
            clear hown hab
            by_cases hqlt : q < k + 1
            · have hyb := HBd.out q hqlt
              have cx := HC2.out wr HAq.out q hqlt
              have hpk := pick_take (ws := ws) (xs := l) (j := q) (by rw [HLl.out]; exact hqlt)
              generalize l.getD q 0 = y at *
              obtain ⟨yn, rfl⟩ : ∃ yn : Nat, y = (yn : Int) := ⟨y.toNat, by omega⟩
              rw [Int.toNat_natCast] at hpk
              obtain ⟨ba, oa, rfl, hba, hca⟩ := (HC3.out wr HAq.out).at_ (k := yn) (by rw [HN.out]; omega)
              have cw := hca yn (by rw [HN.out]; omega)
              have hba2 : ba < wr.heap.size := Nat.lt_of_lt_of_le hba (Nat.le_trans hB (pt HQw.out HAq.out).size)
              generalize ws.getD yn 0 = z at *
              have HPq := Lib.hid hpk
              have y0 : (0 : Int) ≤ (yn : Int) := by omega
              have y1 : (yn : Int) < (n : Int) := hyb.2
              have q0 : (0 : Int) ≤ (q : Int) := by omega
              have q1 : (q : Int) < (k : Int) + 1 := by omega
              have q2 : (q : Int) < ((k + 1 : Nat) : Int) := by omega
              have hmx : q + 1 ≤ maxLen := by simp only [maxLen]; omega
              clear hpk hyb hca
              go_wp2_with (at_builtin; go_must (refine wpList_append_cells _ rfl (.tmp 46) (.tmp 57) _ rfl wx.heap.size 3 i0 _ 1 8 Tryd.underlying22 hi0 hz0 hz1 hz2 rfl (by omega) _ q _ rfl (HO.out.alloc _) (wr.heap.size + 1) (some ⟨wr.heap.size, 0, none⟩) 1 1 [.int .i64 z] rfl (cellsIn_one _ _ _) rfl (by simp [Value.oneCell']) hmx (by omega) (by simp; omega) ?_); intro v9 w9 hown9 hg9 _; obtain ⟨A9, c9, rfl, hc9, hm9⟩ := own_form hown9; have HO9 := Lib.hid hown9; have HB9 := Lib.hid (pg (pa HAq.out) (HO.out.alloc _) (Nat.le_refl _) hg9); clear hown9 hg9)
              go_roundw
              case rel => exact ⟨q + 1, A9, c9, by go_num, by omega, rfl, by rw [HPq.out, List.map_append]; exact HO9.out, HB9.out⟩
              case measure => simp [intOf]; omega
            · have hqe : q = k + 1 := by omega
              subst hqe
              have ht : l.take (k + 1) = l := List.take_of_length_le (by rw [HLl.out]; exact Nat.le_refl _)
              rw [ht] at HO
              have hpl : (pickL ws l).length = k + 1 := by unfold pickL; rw [List.length_map]; exact HLl.out
              have HA := Lib.hid (HAr.out wr A5 (k + 1) c5 (pickL ws l) (intsIn_of_own HO.out) hpl (by omega) HWl.out)
              have HI5 := Lib.hid (intsIn_of_own HO.out)
              have HI6 := Lib.hid ((HI3.out.below HAq.out).more HAq.out.size)
              have HB6 := Lib.hid (HQ2.out.trans (HAq.out.mono HQ2.out.size))
              have q2 : ¬ (k : Int) + 1 < (k : Int) + 1 := by omega
              have q3 : ¬ ((k + 1 : Nat) : Int) < ((k + 1 : Nat) : Int) := by omega
              generalize areaD d (pickL ws l) = ar at *
              by_cases hgt : T2 < ar
              · have HT2 := Lib.hid (show S1 = bestF (areaD d) ((LL.drop (j + 1)).map (pickL ws)) (pickL ws l, ar) by rw [HT.out, if_pos hgt])
                clear HT
                go_wp2_with (go_at_call 20; refine HA.out.mono ?_; rintro e w' ⟨rfl, rfl⟩)
                go_roundw
                case rel => exact ⟨j + 1, (pickL ws l, ar), A5, c5, by go_num, by omega, by rw [hpl], rfl, HT2.out, HI5.out, HB6.out⟩
                case measure => simp [intOf]; omega
              · have HT2 := Lib.hid (show S1 = bestF (areaD d) ((LL.drop (j + 1)).map (pickL ws)) (T1, T2) by rw [HT.out, if_neg hgt])
                clear HT
                go_wp2_with (go_at_call 20; refine HA.out.mono ?_; rintro e w' ⟨rfl, rfl⟩)
                go_roundw
                case rel => exact ⟨j + 1, (T1, T2), A3, c3, by go_num, by omega, rfl, rfl, HT2.out, HI6.out, HB6.out⟩
                case measure => simp [intOf]; omega
        · have HT2 := Lib.hid (show S1 = (T1, T2) by rw [hT, List.drop_eq_nil_of_le (by omega)]; rfl)
          clear hT
          go_wp2
          go_roundw
          case rel => exact ⟨k + 1, A3, c3, by go_num, by omega, by rw [HS1.out, HT2.out], by rw [HS1.out, HT2.out], by rw [HS1.out, HT2.out]; exact HI3.out, pt HQ1.out HQ2.out⟩
          case measure => simp [intOf]; omega
    · have hkm : k = mn := by omega
      subst hkm
      by_cases hle1 : (k : Int) + 1 ≤ (mt : Int)
      · have hle2 : ¬ (k : Int) + 1 ≤ (n : Int) := by omega
        go_wp2
        go_ret2
        exact ⟨A2, c2, rfl, HI2.out, HQ0.out⟩
      · go_wp2
        go_ret2
        exact ⟨A2, c2, rfl, HI2.out, HQ0.out⟩

end Go.Proofs.YtabbehmodmmgoaaDoor
end
