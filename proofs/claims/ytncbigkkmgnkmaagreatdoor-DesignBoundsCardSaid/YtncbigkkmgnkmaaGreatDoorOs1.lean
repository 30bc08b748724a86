/- Contracts: PricesErr, need and BoundOf (the specification). Printed by a program (gen_e4bnd.py). -/
import Derived.Test.YtncbigkkmgnkmaaGreatDoorOc3
import Derived.Test.YtncbigkkmgnkmaaGreatDoorOn5
import Derived.Test.YtncbigkkmgnkmaaGreatDoorOn2

section
namespace Go.Proofs.YtncbigkkmgnkmaaGreatDoor
open Go.RowKit

set_option maxRecDepth 100000 in
set_option maxHeartbeats 4000000 in
theorem refPricesErr_any (B : Nat) (RA : Option Addr) (rn rc : Nat) (ps : List Int) (PA : Option Addr) (pn pc : Nat) (w : World) (hp : IntsIn B w PA ps) (hB : B ≤ w.heap.size) (hpn : ps.length = pn) (hpm : pn ≤ 1000) :
    Calls Tryz.prog 21 #[.agg #[.slice RA rn rc], .slice PA pn pc] w fun e w' => e = .returned (.int .i64 (pricesE rn ps)) ∧ Below w.heap.size w w' := by
  have HP := Lib.hid hp
  have HPn := Lib.hid hpn
  have HV := Lib.hid (show pricesE rn ps = if pn = rn then (if anyG oddP ps = true then 2 else 0) else 10 by
    unfold pricesE
    rw [hpn]
    unfold firstV unlessV
    by_cases h : pn = rn
    · simp only [h, decide_true, if_true]
      cases anyG oddP ps <;> simp [firstV]
    · simp [h])
  have K0 := Lib.hid (show Blk (w.alloc (.cells #[.slice RA rn rc] 24)) w.heap.size 24 #[.slice RA rn rc] from Blk.newAt rfl)
  have HB0 := Lib.hid (show Below w.heap.size w (w.alloc (.cells #[.slice RA rn rc] 24)) from pa pr)
  clear hp hpn
  generalize pricesE rn ps = E at *
  by_cases hne : pn = rn
  · subst hne
    have z1 : ((pn : Int) != (pn : Int)) = false := by simp
    rw [if_pos rfl] at HV
    go_enter Tryz.func21, Tryz.ntmps21
    go_wp2
    generalize w.alloc (.cells #[.slice RA pn rc] 24) = w0 at *
    go_loopw [5] (fun iv wr => ∃ j : Nat, iv = .int .i64 (j : Int) ∧ j ≤ pn ∧ anyG oddP (ps.take j) = false ∧ Below w0.heap.size w0 wr) (fun iv _ => pn - (intOf iv).toNat)
    case atStart => exact ⟨0, rfl, Nat.zero_le _, rfl, pr⟩
    case round =>
      obtain ⟨j, rfl, hj, hno, hq⟩ := hrel
      have HNo := Lib.hid hno
      have HQ := Lib.hid (pt HB0.out hq)
      have HQ0 := Lib.hid hq
      clear hno hq
      by_cases hlt : j < pn
      · have hj' : j < ps.length := by rw [HPn.out]; exact hlt
        obtain ⟨b, off, rfl, hb, hc⟩ := HP.out.at_ hj'
        have e1 := ((bcell HQ.out).1 b (off + j) (Nat.lt_of_lt_of_le hb hB)).trans (hc j hj')
        have hbw : b < wr.heap.size := Nat.lt_of_lt_of_le (Nat.lt_of_lt_of_le hb hB) HQ.out.size
        have HStep := Lib.hid (anyG_take (p := oddP) 0 hj')
        have HWhole := Lib.hid (fun (h : anyG oddP (ps.take (j + 1)) = true) => (show anyG oddP ps = true by
          unfold anyG at h ⊢
          rw [List.any_eq_true] at h ⊢
          obtain ⟨x, hx, h2⟩ := h
          exact ⟨x, List.mem_of_mem_take hx, h2⟩))
        have j0 : (0 : Int) ≤ (j : Int) := by omega
        have j1 : (j : Int) < (pn : Int) := by omega
        clear hc
        generalize ps.getD j 0 = y at *
        cases ho : withinB y 0 10000 with
        | true =>
          have HWi := Lib.hid (fun W => refWithin_any y 0 10000 W)
          rw [ho] at HWi
          have HN2 := Lib.hid (show anyG oddP (ps.take (j + 1)) = false by rw [HStep.out, HNo.out]; simp [oddP, ho])
          clear ho
          go_wp2_with (go_at_call 41; refine (HWi.out _).mono ?_; rintro e w' ⟨rfl, rfl⟩)
          go_roundw
          case rel => exact ⟨j + 1, by go_num, by omega, HN2.out, HQ0.out⟩
          case measure => simp [intOf]; omega
        | false =>
          have HWi := Lib.hid (fun W => refWithin_any y 0 10000 W)
          rw [ho] at HWi
          have HX := Lib.hid (show E = 2 by
            rw [HV.out, HWhole.out (by rw [HStep.out]; simp [oddP, ho]), if_pos rfl])
          clear ho
          go_wp2_with (go_at_call 41; refine (HWi.out _).mono ?_; rintro e w' ⟨rfl, rfl⟩)
          go_ret
          exact ⟨ret_int HX.out.symm, HQ.out⟩
      · have hje : j = pn := by omega
        have HX := Lib.hid (show E = 0 by
          have h := HNo.out
          rw [List.take_of_length_le (by rw [HPn.out, hje]; exact Nat.le_refl _)] at h
          rw [HV.out, h]
          rfl)
        go_wp2
        go_ret
        exact ⟨ret_int HX.out.symm, HQ.out⟩
  · have z1 : ((pn : Int) != (rn : Int)) = true := by simp; omega
    rw [if_neg hne] at HV
    go_enter Tryz.func21, Tryz.ntmps21
    go_wp2
    go_ret
    exact ⟨ret_int HV.out.symm, HB0.out⟩

set_option maxRecDepth 100000 in
set_option maxHeartbeats 4000000 in
theorem refNeed_any (B : Nat) (r : DReq) (A : Option Addr) (n c : Nat) (prt : DPart) (w : World) (hr : CellsIn B w A (termsC r.ts)) (hB : B ≤ w.heap.size) (hn : r.ts.length = n) (ht : TermsOk r.ts) (hv : ValsOk (valP prt)) :
    Calls Tryz.prog 62 #[.agg #[.slice A n c, .bool r.ge, .int .i64 r.lim, .int .i64 r.unit], .agg #[.string prt.name, .int .i64 prt.price, .int .i64 (valP prt 0).1, .int .i64 (valP prt 0).2, .int .i64 (valP prt 1).1, .int .i64 (valP prt 1).2, .int .i64 (valP prt 2).1, .int .i64 (valP prt 2).2, .int .i64 (valP prt 3).1, .int .i64 (valP prt 3).2, .int .i64 (valP prt 4).1, .int .i64 (valP prt 4).2, .int .i64 (valP prt 5).1, .int .i64 (valP prt 5).2]] w fun e w' => e = .returned (.int .i64 (needV r (valP prt))) ∧ Below w.heap.size w w' := by
  have HSu := Lib.hid (fun W (hW : Below w.heap.size w W) => refSumOf_any B r.ts A n c (valP prt) W (hr.below (hW.mono hB)) (Nat.le_trans hB hW.size) hn ht hv)
  have HNd := Lib.hid (show needV r (valP prt) = if r.ge then -(sumT r.ts (valP prt)).1 else (sumT r.ts (valP prt)).2 from rfl)
  have hb := sumT_bd hv ht r.ts.length (Nat.le_refl _)
  rw [List.take_length] at hb
  have hl := ht.1
  have hb1 : -100000000000 ≤ (sumT r.ts (valP prt)).1 ∧ (sumT r.ts (valP prt)).1 ≤ 100000000000 := by omega
  clear hr hn ht hv hb hl
  unfold rngV at HSu
  generalize needV r (valP prt) = N at *
  generalize (sumT r.ts (valP prt)).1 = s1 at *
  generalize (sumT r.ts (valP prt)).2 = s2 at *
  obtain ⟨ts, ge, lim, unit⟩ := r
  dsimp only at *
  have HB0 := Lib.hid (show Below w.heap.size w ((w.alloc (.cells #[.slice A n c, .bool ge, .int .i64 lim, .int .i64 unit] 87)).alloc (.cells #[.string prt.name, .int .i64 prt.price, .int .i64 (valP prt 0).1, .int .i64 (valP prt 0).2, .int .i64 (valP prt 1).1, .int .i64 (valP prt 1).2, .int .i64 (valP prt 2).1, .int .i64 (valP prt 2).2, .int .i64 (valP prt 3).1, .int .i64 (valP prt 3).2, .int .i64 (valP prt 4).1, .int .i64 (valP prt 4).2, .int .i64 (valP prt 5).1, .int .i64 (valP prt 5).2] 90)) from pa (pa pr))
  have R0 := Lib.hid (show Blk ((w.alloc (.cells #[.slice A n c, .bool ge, .int .i64 lim, .int .i64 unit] 87)).alloc (.cells #[.string prt.name, .int .i64 prt.price, .int .i64 (valP prt 0).1, .int .i64 (valP prt 0).2, .int .i64 (valP prt 1).1, .int .i64 (valP prt 1).2, .int .i64 (valP prt 2).1, .int .i64 (valP prt 2).2, .int .i64 (valP prt 3).1, .int .i64 (valP prt 3).2, .int .i64 (valP prt 4).1, .int .i64 (valP prt 4).2, .int .i64 (valP prt 5).1, .int .i64 (valP prt 5).2] 90)) w.heap.size 87 #[.slice A n c, .bool ge, .int .i64 lim, .int .i64 unit] from (Blk.newAt rfl).alloc)
  have hw : IntKind.i64.wrap (-s1) = -s1 := IntWalk.i64_in _ (by omega)
  cases ge
  all_goals
    go_enter Tryz.func62, Tryz.ntmps62
    go_wp2_with (go_at_call 68; refine (HSu.out _ HB0.out).mono ?_; rintro e w1 ⟨rfl, hb⟩; have HB1 := Lib.hid (pt HB0.out hb); have x1 := (R0.out.past hb).cellAt 1 rfl; have xl := (R0.out.past hb).lt; clear hb)
    go_ret
    exact ⟨ret_int HNd.out.symm, pa HB1.out⟩

theorem min_first {l : List Int} {x : Int} : minL (l ++ [x]) = if l = [] ∨ x < minL l then x else minL l := by
  by_cases h : l = []
  · subst h
    simp [minL]
  · rw [minL_snoc x h]
    by_cases h2 : x < minL l
    · rw [if_pos (.inr h2)]; omega
    · rw [if_neg (by simp [h, h2])]; omega

set_option maxRecDepth 100000 in
set_option maxHeartbeats 8000000 in
theorem refBoundOf_any (B : Nat) (rs : List DReq) (RA : Option Addr) (rn rc : Nat) (sl : List (List DPart)) (SA : Option Addr) (n c : Nat) (idle price : Int) (ps : List Int) (PA : Option Addr) (pc : Nat) (w : World)
    (hrr : ReqsIn B w RA rs) (hr : SlotsIn B w SA sl) (hp : IntsIn B w PA ps) (hB : B ≤ w.heap.size) (hrn : rs.length = rn) (hrm : rn ≤ 6) (hn : sl.length = n) (hpn : ps.length = rn) (hs : SlotsOk sl) (hrs : ∀ r ∈ rs, ReqOk r) (hpp : ∀ x ∈ ps, 0 ≤ x ∧ x ≤ 10000) (h1 : 0 ≤ idle ∧ idle ≤ 1000) (h2 : 0 ≤ price ∧ price ≤ 1000) :
    Calls Tryz.prog 22 #[.agg #[.slice RA rn rc], .agg #[.slice SA n c, .int .i64 idle, .int .i64 price], .slice PA rn pc] w fun e w' => e = .returned (.int .i64 (boundV idle price rs ps sl)) ∧ Below w.heap.size w w' := by
  have HR := Lib.hid hr
  have HRr := Lib.hid hrr
  have HP := Lib.hid hp
  have HN := Lib.hid hn
  have HRn := Lib.hid hrn
  have HPn := Lib.hid hpn
  have HS := Lib.hid hs
  have HRo := Lib.hid hrs
  have HPp := Lib.hid hpp
  have HBV := Lib.hid (show boundV idle price rs ps sl = boundF idle price rs ps sl - payV rs ps limitV from rfl)
  have hn5 : n ≤ 5 := by rw [← hn]; exact hs.1.2
  have R0 := Lib.hid (show Blk ((w.alloc (.cells #[.slice RA rn rc] 24)).alloc (.cells #[.slice SA n c, .int .i64 idle, .int .i64 price] 27)) w.heap.size 24 #[.slice RA rn rc] from (Blk.newAt rfl).alloc)
  have K0 := Lib.hid (show Blk ((w.alloc (.cells #[.slice RA rn rc] 24)).alloc (.cells #[.slice SA n c, .int .i64 idle, .int .i64 price] 27)) (w.heap.size + 1) 27 #[.slice SA n c, .int .i64 idle, .int .i64 price] from Blk.newAt (by simp))
  have HB0 := Lib.hid (show Below w.heap.size w ((w.alloc (.cells #[.slice RA rn rc] 24)).alloc (.cells #[.slice SA n c, .int .i64 idle, .int .i64 price] 27)) from pa (pa pr))
  clear hr hrr hp hn hrn hpn hs hrs hpp
  generalize boundV idle price rs ps sl = RV at *
  go_enter Tryz.func22, Tryz.ntmps22
  go_wp2
  generalize (w.alloc (.cells #[.slice RA rn rc] 24)).alloc (.cells #[.slice SA n c, .int .i64 idle, .int .i64 price] 27) = w0 at *
  go_loopw [7, 8] (fun sv iv wr => ∃ k : Nat, iv = .int .i64 (k : Int) ∧ k ≤ n ∧ sv = .int .i64 (boundF idle price rs ps (sl.take k)) ∧ Below w0.heap.size w0 wr) (fun _ iv _ => n - (intOf iv).toNat)
  case atStart => exact ⟨0, rfl, Nat.zero_le _, rfl, pr⟩
  case round =>
    obtain ⟨k, rfl, hk, rfl, hq⟩ := hrel
    have HQ0 := Lib.hid hq
    have HQ := Lib.hid (pt HB0.out hq)
    have y0 := (K0.out.past hq).cellAt 0 rfl
    have yl := (K0.out.past hq).lt
    clear hq
    by_cases hlt : k < n
    · have hk' : k < sl.length := by rw [HN.out]; exact hlt
      obtain ⟨b1, off1, rfl, hb1, hct1⟩ := HR.out.at_ hk'
      obtain ⟨A2, c2, e1, hts, hcap⟩ := hct1 k hk'
      have hl := HS.out.2 _ (show sl.getD k [] ∈ sl by simp [List.getD, hk'])
      have HStep := Lib.hid (boundF_step (idle := idle) (price := price) (rs := rs) (ps := ps) hk')
      have hbk := boundF_bd (idle := idle) (price := price) HS.out HRo.out HPp.out h1 h2 (by rw [HRn.out]; exact hrm) (by rw [HPn.out, HRn.out]) k (by omega)
      have hbk2 := boundF_bd (idle := idle) (price := price) HS.out HRo.out HPp.out h1 h2 (by rw [HRn.out]; exact hrm) (by rw [HPn.out, HRn.out]) (k + 1) (by omega)
      rw [HStep.out] at hbk2
      have HTs := Lib.hid hts
      have hb1w : b1 < w.heap.size := Nat.lt_of_lt_of_le hb1 hB
      generalize sl.getD k [] = l at *
      obtain ⟨ln, hln⟩ : ∃ ln, ln = l.length := ⟨_, rfl⟩
      rw [← hln] at e1
      have HLn := Lib.hid hln
      have HL := Lib.hid hl
      have HE1 := Lib.hid (fun W (hW : Below w.heap.size w W) => (show W.cell? ⟨b1, off1 + k, none⟩ = some (.slice A2 ln c2) ∧ b1 < W.heap.size from ⟨((bcell hW).1 _ _ hb1w).trans e1, Nat.lt_of_lt_of_le hb1w hW.size⟩))
      have hl1 : 1 ≤ ln := by rw [hln]; exact hl.1.1
      have hl6 : ln ≤ 6 := by rw [hln]; exact hl.1.2
      have k0 : (0 : Int) ≤ (k : Int) := by omega
      have k1 : (k : Int) < (n : Int) := by omega
      have HPb := Lib.hid (fun q (hq : q < l.length) => priced_bd (idle := idle) (price := price) (rs := rs) (ps := ps) (hl.2 _ (getD_mem' hq)) HRo.out HPp.out h1 h2 (by rw [HRn.out]; exact hrm) (by rw [HPn.out, HRn.out]))
      clear hct1 hts hcap hl hln hk' e1
      generalize boundF idle price rs ps (sl.take k) = sk at *
      go_wp2
      obtain ⟨wA, hwA⟩ : ∃ wA : World, wA = wr := ⟨_, rfl⟩
      subst hwA
      clear y0 yl
      go_loopw [9, 10] (fun sv iv wr => ∃ (j : Nat) (m : Int), iv = .int .i64 (j : Int) ∧ j ≤ ln ∧ sv = .int .i64 m ∧ minL ((l.take j).map (pricedC idle price rs ps)) = m ∧ Below wA.heap.size wA wr) (fun _ iv _ => ln - (intOf iv).toNat)
      case atStart => exact ⟨0, 0, rfl, Nat.zero_le _, rfl, rfl, pr⟩
      case round =>
        obtain ⟨j, mn, rfl, hj, rfl, hmn, hq⟩ := hrel
        have HMn := Lib.hid hmn
        have HQa := Lib.hid hq
        have HQ1 := Lib.hid (pt HQ.out hq)
        have HQ01 := Lib.hid (pt HQ0.out hq)
        obtain ⟨e1, e2⟩ := HE1.out wr HQ1.out
        have y0 := (K0.out.past HQ01.out).cellAt 0 rfl
        have y1 := (K0.out.past HQ01.out).cellAt 1 rfl
        have y2 := (K0.out.past HQ01.out).cellAt 2 rfl
        have yl := (K0.out.past HQ01.out).lt
        clear hq hmn
        by_cases hlj : j < ln
        · have hj' : j < l.length := by rw [← HLn.out]; exact hlj
          obtain ⟨b2, off2, rfl, hb2, hct2⟩ := parts_at HTs.out hj'
          have hp14 := hct2 j hj'
          have hpo := HL.out.2 _ (getD_mem' hj')
          have HTk := Lib.hid (show (l.take (j + 1)).map (pricedC idle price rs ps) = (l.take j).map (pricedC idle price rs ps) ++ [pricedC idle price rs ps (l.getD j default)] by rw [take_snoc hj', List.map_append]; rfl)
          have hb2w : b2 < w.heap.size := Nat.lt_of_lt_of_le hb2 hB
          have HPb2 := Lib.hid (HPb.out j hj')
          have HNil := Lib.hid (show (l.take j).map (pricedC idle price rs ps) = [] ↔ j = 0 from by
            rw [List.map_eq_nil_iff, List.take_eq_nil_iff]
            constructor
            · rintro (h | h)
              · exact h
              · rw [h] at hj'; simp at hj'
            · exact fun h => .inl h)
          clear hct2 hj'
          generalize l.getD j default = prt at *
          have HPo := Lib.hid hpo
          have HPC := Lib.hid (fun W => refPartCost_any prt (some ⟨b1, off1, none⟩) n c idle price W h1 h2 hpo)
          have HPr := Lib.hid (show pricedC idle price rs ps prt = partC idle price prt + payV rs ps (fun r => needV r (valP prt)) from rfl)
          have hpcb := partC_bd h1 h2 hpo
          have HU := Lib.hid (fun W (hW : Below w.heap.size w W) => (show W.cell? ⟨b2, off2 + j * 14, none⟩ = some (.string prt.name) ∧ W.cell? ⟨b2, off2 + j * 14 + 1, none⟩ = some (.int .i64 prt.price) ∧ W.cell? ⟨b2, off2 + j * 14 + 2, none⟩ = some (.int .i64 (valP prt 0).1) ∧ W.cell? ⟨b2, off2 + j * 14 + 3, none⟩ = some (.int .i64 (valP prt 0).2) ∧ W.cell? ⟨b2, off2 + j * 14 + 4, none⟩ = some (.int .i64 (valP prt 1).1) ∧ W.cell? ⟨b2, off2 + j * 14 + 5, none⟩ = some (.int .i64 (valP prt 1).2) ∧ W.cell? ⟨b2, off2 + j * 14 + 6, none⟩ = some (.int .i64 (valP prt 2).1) ∧ W.cell? ⟨b2, off2 + j * 14 + 7, none⟩ = some (.int .i64 (valP prt 2).2) ∧ W.cell? ⟨b2, off2 + j * 14 + 8, none⟩ = some (.int .i64 (valP prt 3).1) ∧ W.cell? ⟨b2, off2 + j * 14 + 9, none⟩ = some (.int .i64 (valP prt 3).2) ∧ W.cell? ⟨b2, off2 + j * 14 + 10, none⟩ = some (.int .i64 (valP prt 4).1) ∧ W.cell? ⟨b2, off2 + j * 14 + 11, none⟩ = some (.int .i64 (valP prt 4).2) ∧ W.cell? ⟨b2, off2 + j * 14 + 12, none⟩ = some (.int .i64 (valP prt 5).1) ∧ W.cell? ⟨b2, off2 + j * 14 + 13, none⟩ = some (.int .i64 (valP prt 5).2) from by
            have hk := (bcell hW).1
            obtain ⟨u0, u1, u2, u3, u4, u5, u6, u7, u8, u9, u10, u11, u12, u13⟩ := part_cells hp14
            exact ⟨(hk b2 _ hb2w).trans u0, (hk b2 _ hb2w).trans u1, (hk b2 _ hb2w).trans u2, (hk b2 _ hb2w).trans u3, (hk b2 _ hb2w).trans u4, (hk b2 _ hb2w).trans u5, (hk b2 _ hb2w).trans u6, (hk b2 _ hb2w).trans u7, (hk b2 _ hb2w).trans u8, (hk b2 _ hb2w).trans u9, (hk b2 _ hb2w).trans u10, (hk b2 _ hb2w).trans u11, (hk b2 _ hb2w).trans u12, (hk b2 _ hb2w).trans u13⟩))
          generalize pricedC idle price rs ps prt = pd_ at *
          generalize partC idle price prt = pcst at *
          have j0 : (0 : Int) ≤ (j : Int) := by omega
          have j1 : (j : Int) < (ln : Int) := by omega
          have hb2r : b2 < wr.heap.size := Nat.lt_of_lt_of_le hb2w HQ1.out.size
          obtain ⟨u0, u1, u2, u3, u4, u5, u6, u7, u8, u9, u10, u11, u12, u13⟩ := HU.out wr HQ1.out
          clear hpo hp14
          go_wp2
          refine region_below 10 follows_mixed (by kernel_rfl) ?_
          intro C hC
          simp only [List.take_succ_cons, List.take_zero, List.drop_succ_cons, List.drop_zero]
          repeat (first
            | ((with_reducible refine quiet_plain rfl (fun K hK => ?_)); (focus (apply quiet_val; (focus (intro w' hw; obtain ⟨hcq, hfq⟩ := bcell ((hC.out _).1 hw); go_simp; (first | done | rfl | (with_reducible exact call_below hC hw (HPC.out _))))); (simp only [Act.put, List.setIfInBounds_toArray, List.set_cons_succ, List.set_cons_zero]); (with_reducible refine hK _ ?_); clear hK K)))
            | ((with_reducible refine quiet_skip ?_ ?_); (focus (first | (simp [Region.wanted, yielded]; done) | (simp [Region.wanted, yielded, undef]; done))); simp only [Act.put, List.setIfInBounds_toArray, List.set_cons_succ, List.set_cons_zero])
            | ((with_reducible refine quiet_go ?_ (fun K hK => ?_)); (focus (first | (simp [Region.wanted, yielded]; done) | (simp [Region.wanted, yielded, undef]; done))); (focus (apply quiet_val; (focus (intro w' hw; obtain ⟨hcq, hfq⟩ := bcell ((hC.out _).1 hw); go_simp; (first | done | rfl | (with_reducible exact call_below hC hw (HPC.out _))))); (simp only [Act.put, List.setIfInBounds_toArray, List.set_cons_succ, List.set_cons_zero]); (with_reducible refine hK _ ?_); clear hK K))))
          refine wpQuiet_nil ?_
          intro w1 hb1
          replace hb1 := (hC.out _).1 hb1
          clear hC C
          obtain ⟨hc1, hf1⟩ := bcell hb1
          have HB1 := Lib.hid hb1
          clear hb1 hc1 hf1 u0 u1 u2 u3 u4 u5 u6 u7 u8 u9 u10 u11 u12 u13 e1 e2 y0 y1 y2 yl
          go_wp2
          obtain ⟨wC, hwC⟩ : ∃ wC : World, wC = w1 := ⟨_, rfl⟩
          subst hwC
          go_loopw [11, 12] (fun sv iv wr => ∃ i : Nat, iv = .int .i64 (i : Int) ∧ i ≤ rn ∧ sv = .int .i64 (pcst + payV (rs.take i) (ps.take i) (fun r => needV r (valP prt))) ∧ Below wC.heap.size wC wr) (fun _ iv _ => rn - (intOf iv).toNat)
          case atStart => exact ⟨0, rfl, Nat.zero_le _, by simp [payV], pr⟩
          case round =>
            obtain ⟨i, rfl, hi, rfl, hq⟩ := hrel
            have HQc := Lib.hid hq
            have HQ2 := Lib.hid (pt HQ1.out (pt HB1.out hq))
            have HQ02 := Lib.hid (pt HQ01.out (pt HB1.out hq))
            have hbp := payV_bd (M := 80000000000) (by decide) (fun r hr => need_bd (HRo.out r hr) (valP_ok HPo.out)) HPp.out i (by rw [HRn.out]; exact hi) (by rw [HPn.out]; exact hi)
            clear hq
            by_cases hli : i < rn
            · have hi' : i < rs.length := by rw [HRn.out]; exact hli
              have hi2 : i < ps.length := by rw [HPn.out]; exact hli
              have hbp2 := payV_bd (M := 80000000000) (by decide) (fun r hr => need_bd (HRo.out r hr) (valP_ok HPo.out)) HPp.out (i + 1) (by rw [HRn.out]; exact hli) (by rw [HPn.out]; exact hli)
              have HSn := Lib.hid (payV_snoc (fun r => needV r (valP prt)) rs ps i hi' hi2)
              rw [HSn.out] at hbp2
              obtain ⟨b3, off3, rfl, hb3, hct3⟩ := HRr.out.at_ hi'
              obtain ⟨A4, c4, t0, t1, t2, t3, tps, _⟩ := hct3 i hi'
              obtain ⟨b4, off4, rfl, hb4, hct4⟩ := HP.out.at_ hi2
              have hk := (bcell HQ2.out).1
              have hb3w : b3 < w.heap.size := Nat.lt_of_lt_of_le hb3 hB
              have hb4w : b4 < w.heap.size := Nat.lt_of_lt_of_le hb4 hB
              have q0 := (hk b3 _ hb3w).trans t0
              have q1 := (hk b3 _ hb3w).trans t1
              have q2 := (hk b3 _ hb3w).trans t2
              have q3 := (hk b3 _ hb3w).trans t3
              have q4 := (hk b4 _ hb4w).trans (hct4 i hi2)
              have hyb := HPp.out _ (getD_mem' hi2 : ps.getD i default ∈ ps)
              have hro := HRo.out _ (getD_mem' hi')
              have HTp := Lib.hid (tps.below (HQ2.out.mono hB))
              have b3r : b3 < wr.heap.size := Nat.lt_of_lt_of_le hb3w HQ2.out.size
              have b4r : b4 < wr.heap.size := Nat.lt_of_lt_of_le hb4w HQ2.out.size
              have b2r : b2 < wr.heap.size := Nat.lt_of_lt_of_le hb2w HQ2.out.size
              obtain ⟨u0, u1, u2, u3, u4, u5, u6, u7, u8, u9, u10, u11, u12, u13⟩ := HU.out wr HQ2.out
              obtain ⟨e1, e2⟩ := HE1.out wr HQ2.out
              have x0 := (R0.out.past HQ02.out).cellAt 0 rfl
              have xl := (R0.out.past HQ02.out).lt
              have y0 := (K0.out.past HQ02.out).cellAt 0 rfl
              have yl := (K0.out.past HQ02.out).lt
              have hnb := need_bd hro (valP_ok HPo.out)
              have hyd : ps.getD i default = ps.getD i 0 := rfl
              rw [hyd] at hyb
              have hm := mulp_bd hyb hnb
              have HNe := Lib.hid (fun W (hW : Below wr.heap.size wr W) => refNeed_any B (rs.getD i default) A4 (rs.getD i default).ts.length c4 prt W (tps.below ((pt HQ2.out hW).mono hB)) (Nat.le_trans hB (pt HQ2.out hW).size) rfl hro.1 (valP_ok HPo.out))
              clear hct3 hct4 tps t0 t1 t2 t3 hk hro hyd
              generalize needV (rs.getD i default) (valP prt) = nd at *
              generalize ps.getD i 0 = y at *
              generalize rs.getD i default = rq at *
              generalize payV (rs.take i) (ps.take i) (fun r => needV r (valP prt)) = pv at *
              have i0 : (0 : Int) ≤ (i : Int) := by omega
              have i1 : (i : Int) < (rn : Int) := by omega
              have hw1 : wrap64 (y * nd) = y * nd := w64 (by omega)
              have hw2 : wrap64 (pcst + pv + y * nd) = pcst + pv + y * nd := w64 (by omega)
              have hw3 : IntKind.i64.wrap (y * nd) = y * nd := IntWalk.i64_in _ (by omega)
              have hw4 : IntKind.i64.wrap (pcst + pv + y * nd) = pcst + pv + y * nd := IntWalk.i64_in _ (by omega)
              have HSum := Lib.hid (show pcst + pv + y * nd = pcst + (pv + y * nd) by omega)
              clear hbp hbp2 hm hnb hyb
              go_wp2
              refine region_below 21 follows_mixed (by kernel_rfl) ?_
              intro C hC
              simp only [List.take_succ_cons, List.take_zero, List.drop_succ_cons, List.drop_zero]
              repeat (first
                | ((with_reducible refine quiet_plain rfl (fun K hK => ?_)); (focus (apply quiet_val; (focus (intro w' hw; obtain ⟨hcq, hfq⟩ := bcell ((hC.out _).1 hw); go_simp; (first | done | rfl | (with_reducible exact call_below hC hw (HNe.out _ ((hC.out _).1 hw)))))); (simp only [Act.put, List.setIfInBounds_toArray, List.set_cons_succ, List.set_cons_zero]); (with_reducible refine hK _ ?_); clear hK K)))
                | ((with_reducible refine quiet_skip ?_ ?_); (focus (first | (simp [Region.wanted, yielded]; done) | (simp [Region.wanted, yielded, undef]; done))); simp only [Act.put, List.setIfInBounds_toArray, List.set_cons_succ, List.set_cons_zero])
                | ((with_reducible refine quiet_go ?_ (fun K hK => ?_)); (focus (first | (simp [Region.wanted, yielded]; done) | (simp [Region.wanted, yielded, undef]; done))); (focus (apply quiet_val; (focus (intro w' hw; obtain ⟨hcq, hfq⟩ := bcell ((hC.out _).1 hw); go_simp; (first | done | rfl | (with_reducible exact call_below hC hw (HNe.out _ ((hC.out _).1 hw)))))); (simp only [Act.put, List.setIfInBounds_toArray, List.set_cons_succ, List.set_cons_zero]); (with_reducible refine hK _ ?_); clear hK K))))
              refine wpQuiet_nil ?_
              intro w1 hb1
              replace hb1 := (hC.out _).1 hb1
              clear hC C
              obtain ⟨hc1, hf1⟩ := bcell hb1
              have HB2 := Lib.hid hb1
              clear hb1 hc1 hf1 u0 u1 u2 u3 u4 u5 u6 u7 u8 u9 u10 u11 u12 u13 e1 e2 x0 xl y0 yl q0 q1 q2 q3 q4
              go_wp2
              go_roundw
              case rel => exact ⟨i + 1, by go_num, by omega, by rw [HSn.out, HSum.out], pt HQc.out HB2.out⟩
              case measure => simp [intOf]; omega
            · have hie : i = rn := by omega
              subst hie
              have HPd := Lib.hid (show pcst + payV (rs.take i) (ps.take i) (fun r => needV r (valP prt)) = pd_ by
                rw [HPr.out, List.take_of_length_le (by rw [HRn.out]; exact Nat.le_refl _), List.take_of_length_le (by rw [HPn.out]; exact Nat.le_refl _)])
              rw [HPd.out]
              have HQe := Lib.hid (pt HQa.out (pt HB1.out HQc.out))
              by_cases hj0 : j = 0
              · have z0 : ((j : Int) == 0) = true := by simp [hj0]
                have HNx := Lib.hid (show minL ((l.take (j + 1)).map (pricedC idle price rs ps)) = pd_ by rw [HTk.out, min_first, if_pos (.inl (HNil.out.2 hj0))])
                clear hbp
                go_wp2
                go_roundw
                case rel => exact ⟨j + 1, pd_, by go_num, by omega, rfl, HNx.out, HQe.out⟩
                case measure => simp [intOf]; omega
              · have z0 : ((j : Int) == 0) = false := by simp [hj0]
                have z1 : ¬ (j : Int) = 0 := by omega
                by_cases hlm : pd_ < mn
                · have HNx := Lib.hid (show minL ((l.take (j + 1)).map (pricedC idle price rs ps)) = pd_ by rw [HTk.out, min_first, HMn.out, if_pos (.inr hlm)])
                  clear hbp
                  go_wp2
                  go_roundw
                  case rel => exact ⟨j + 1, pd_, by go_num, by omega, rfl, HNx.out, HQe.out⟩
                  case measure => simp [intOf]; omega
                · have HNx := Lib.hid (show minL ((l.take (j + 1)).map (pricedC idle price rs ps)) = mn by
                    rw [HTk.out, min_first, HMn.out, if_neg (by
                      rintro (h | h)
                      · exact hj0 (HNil.out.1 h)
                      · exact hlm h)])
                  clear hbp
                  go_wp2
                  go_roundw
                  case rel => exact ⟨j + 1, mn, by go_num, by omega, rfl, HNx.out, HQe.out⟩
                  case measure => simp [intOf]; omega
        · have hje : j = ln := by omega
          subst hje
          have HMx := Lib.hid (show minL (l.map (pricedC idle price rs ps)) = mn by
            have h := HMn.out
            rw [List.take_of_length_le (by rw [← HLn.out]; exact Nat.le_refl _)] at h
            exact h)
          rw [HMx.out] at HStep hbk2
          have hw1 : IntKind.i64.wrap (sk + mn) = sk + mn := IntWalk.i64_in _ (by omega)
          clear hbk hbk2
          go_wp2
          go_roundw
          case rel => exact ⟨k + 1, by go_num, by omega, by rw [HStep.out], pt HQ0.out HQa.out⟩
          case measure => simp [intOf]; omega
    · have hke : k = n := by omega
      have HSk := Lib.hid (show boundF idle price rs ps (sl.take k) = boundF idle price rs ps sl by rw [List.take_of_length_le (by rw [HN.out, hke]; exact Nat.le_refl _)])
      have hbk := boundF_bd (idle := idle) (price := price) HS.out HRo.out HPp.out h1 h2 (by rw [HRn.out]; exact hrm) (by rw [HPn.out, HRn.out]) k (by rw [HN.out]; exact hk)
      subst hke
      rw [HSk.out] at hbk ⊢
      generalize boundF idle price rs ps sl = bF at *
      go_wp2
      obtain ⟨wA, hwA⟩ : ∃ wA : World, wA = wr := ⟨_, rfl⟩
      subst hwA
      clear y0 yl HSk
      go_loopw [7, 13] (fun sv iv wr => ∃ i : Nat, iv = .int .i64 (i : Int) ∧ i ≤ rn ∧ sv = .int .i64 (bF - payV (rs.take i) (ps.take i) limitV) ∧ Below wA.heap.size wA wr) (fun _ iv _ => rn - (intOf iv).toNat)
      case atStart => exact ⟨0, rfl, Nat.zero_le _, by simp [payV], pr⟩
      case round =>
        obtain ⟨i, rfl, hi, rfl, hq⟩ := hrel
        have HQa := Lib.hid hq
        have HQ1 := Lib.hid (pt HQ.out hq)
        have HQ01 := Lib.hid (pt HQ0.out hq)
        clear hq
        have hlb : ∀ r ∈ rs, -1000000000 ≤ limitV r ∧ limitV r ≤ 1000000000 := fun r hr => by
          have h := (HRo.out r hr).2
          unfold limitV
          split <;> omega
        have hbp := payV_bd (M := 1000000000) (by decide) hlb HPp.out i (by rw [HRn.out]; exact hi) (by rw [HPn.out]; exact hi)
        by_cases hli : i < rn
        · have hi' : i < rs.length := by rw [HRn.out]; exact hli
          have hi2 : i < ps.length := by rw [HPn.out]; exact hli
          have hbp2 := payV_bd (M := 1000000000) (by decide) hlb HPp.out (i + 1) (by rw [HRn.out]; exact hli) (by rw [HPn.out]; exact hli)
          have HSn := Lib.hid (payV_snoc limitV rs ps i hi' hi2)
          rw [HSn.out] at hbp2
          obtain ⟨b3, off3, rfl, hb3, hct3⟩ := HRr.out.at_ hi'
          obtain ⟨A4, c4, t0, t1, t2, t3, _, _⟩ := hct3 i hi'
          obtain ⟨b4, off4, rfl, hb4, hct4⟩ := HP.out.at_ hi2
          have hk := (bcell HQ1.out).1
          have hb3w : b3 < w.heap.size := Nat.lt_of_lt_of_le hb3 hB
          have hb4w : b4 < w.heap.size := Nat.lt_of_lt_of_le hb4 hB
          have q1 := (hk b3 _ hb3w).trans t1
          have q2 := (hk b3 _ hb3w).trans t2
          have q4 := (hk b4 _ hb4w).trans (hct4 i hi2)
          have hyb := HPp.out _ (getD_mem' hi2 : ps.getD i default ∈ ps)
          have hyd : ps.getD i default = ps.getD i 0 := rfl
          rw [hyd] at hyb
          have hro := (HRo.out _ (getD_mem' hi')).2
          have b3r : b3 < wr.heap.size := Nat.lt_of_lt_of_le hb3w HQ1.out.size
          have b4r : b4 < wr.heap.size := Nat.lt_of_lt_of_le hb4w HQ1.out.size
          have x0 := (R0.out.past HQ01.out).cellAt 0 rfl
          have xl := (R0.out.past HQ01.out).lt
          have hm := mulp_bd hyb (show -80000000000 ≤ (rs.getD i default).lim ∧ (rs.getD i default).lim ≤ 80000000000 by omega)
          have i0 : (0 : Int) ≤ (i : Int) := by omega
          have i1 : (i : Int) < (rn : Int) := by omega
          clear hct3 hct4 t0 t1 t2 t3 hk hyd hlb
          generalize ps.getD i 0 = y at *
          generalize rs.getD i default = rq at *
          generalize payV (rs.take i) (ps.take i) limitV = pv at *
          obtain ⟨ts, ge, lim, unit⟩ := rq
          dsimp only at *
          cases ge
          · rw [show limitV ⟨ts, false, lim, unit⟩ = lim from rfl] at HSn hbp2
            have hw3 : IntKind.i64.wrap (y * lim) = y * lim := IntWalk.i64_in _ (by omega)
            have hw4 : IntKind.i64.wrap (bF - pv - y * lim) = bF - pv - y * lim := IntWalk.i64_in _ (by omega)
            have hw1 : wrap64 (y * lim) = y * lim := w64 (by omega)
            have hw2 : wrap64 (bF - pv - y * lim) = bF - pv - y * lim := w64 (by omega)
            have HSum := Lib.hid (show bF - pv - y * lim = bF - (pv + y * lim) by omega)
            clear hbp hbp2 hm hyb hro
            go_wp2
            refine region_below 13 follows_mixed (by kernel_rfl) ?_
            intro C hC
            simp only [List.take_succ_cons, List.take_zero, List.drop_succ_cons, List.drop_zero]
            repeat (first
              | ((with_reducible refine quiet_plain rfl (fun K hK => ?_)); (focus (apply quiet_val; (focus (intro w' hw; obtain ⟨hcq, hfq⟩ := bcell ((hC.out _).1 hw); go_simp; (first | done | rfl))); (simp only [Act.put, List.setIfInBounds_toArray, List.set_cons_succ, List.set_cons_zero]); (with_reducible refine hK _ ?_); clear hK K)))
              | ((with_reducible refine quiet_skip ?_ ?_); (focus (first | (simp [Region.wanted, yielded]; done) | (simp [Region.wanted, yielded, undef]; done))); simp only [Act.put, List.setIfInBounds_toArray, List.set_cons_succ, List.set_cons_zero])
              | ((with_reducible refine quiet_go ?_ (fun K hK => ?_)); (focus (first | (simp [Region.wanted, yielded]; done) | (simp [Region.wanted, yielded, undef]; done))); (focus (apply quiet_val; (focus (intro w' hw; obtain ⟨hcq, hfq⟩ := bcell ((hC.out _).1 hw); go_simp; (first | done | rfl))); (simp only [Act.put, List.setIfInBounds_toArray, List.set_cons_succ, List.set_cons_zero]); (with_reducible refine hK _ ?_); clear hK K))))
            refine wpQuiet_nil ?_
            intro w1 hb1
            replace hb1 := (hC.out _).1 hb1
            clear hC C
            obtain ⟨hc1, hf1⟩ := bcell hb1
            have HB2 := Lib.hid hb1
            clear hb1 hc1 hf1 x0 xl q1 q2 q4
            go_wp2
            go_roundw
            case rel => exact ⟨i + 1, by go_num, by omega, by rw [HSn.out, HSum.out], pt HQa.out HB2.out⟩
            case measure => simp [intOf]; omega
          · rw [show limitV ⟨ts, true, lim, unit⟩ = -lim from rfl] at HSn hbp2
            have hng : y * -lim = -(y * lim) := Int.mul_neg _ _
            rw [hng] at hbp2 HSn
            have hw3 : IntKind.i64.wrap (y * lim) = y * lim := IntWalk.i64_in _ (by omega)
            have hw4 : IntKind.i64.wrap (bF - pv + y * lim) = bF - pv + y * lim := IntWalk.i64_in _ (by omega)
            have hw1 : wrap64 (y * lim) = y * lim := w64 (by omega)
            have hw2 : wrap64 (bF - pv + y * lim) = bF - pv + y * lim := w64 (by omega)
            have HSum := Lib.hid (show bF - pv + y * lim = bF - (pv + -(y * lim)) by omega)
            clear hbp hbp2 hm hyb hro hng
            go_wp2
            refine region_below 13 follows_mixed (by kernel_rfl) ?_
            intro C hC
            simp only [List.take_succ_cons, List.take_zero, List.drop_succ_cons, List.drop_zero]
            repeat (first
              | ((with_reducible refine quiet_plain rfl (fun K hK => ?_)); (focus (apply quiet_val; (focus (intro w' hw; obtain ⟨hcq, hfq⟩ := bcell ((hC.out _).1 hw); go_simp; (first | done | rfl))); (simp only [Act.put, List.setIfInBounds_toArray, List.set_cons_succ, List.set_cons_zero]); (with_reducible refine hK _ ?_); clear hK K)))
              | ((with_reducible refine quiet_skip ?_ ?_); (focus (first | (simp [Region.wanted, yielded]; done) | (simp [Region.wanted, yielded, undef]; done))); simp only [Act.put, List.setIfInBounds_toArray, List.set_cons_succ, List.set_cons_zero])
              | ((with_reducible refine quiet_go ?_ (fun K hK => ?_)); (focus (first | (simp [Region.wanted, yielded]; done) | (simp [Region.wanted, yielded, undef]; done))); (focus (apply quiet_val; (focus (intro w' hw; obtain ⟨hcq, hfq⟩ := bcell ((hC.out _).1 hw); go_simp; (first | done | rfl))); (simp only [Act.put, List.setIfInBounds_toArray, List.set_cons_succ, List.set_cons_zero]); (with_reducible refine hK _ ?_); clear hK K))))
            refine wpQuiet_nil ?_
            intro w1 hb1
            replace hb1 := (hC.out _).1 hb1
            clear hC C
            obtain ⟨hc1, hf1⟩ := bcell hb1
            have HB2 := Lib.hid hb1
            clear hb1 hc1 hf1 x0 xl q1 q2 q4
            go_wp2
            go_roundw
            case rel => exact ⟨i + 1, by go_num, by omega, by rw [HSn.out, HSum.out], pt HQa.out HB2.out⟩
            case measure => simp [intOf]; omega
        · have hie : i = rn := by omega
          subst hie
          have HX := Lib.hid (show RV = bF - payV (rs.take i) (ps.take i) limitV by
            rw [HBV.out, List.take_of_length_le (by rw [HRn.out]; exact Nat.le_refl _), List.take_of_length_le (by rw [HPn.out]; exact Nat.le_refl _)])
          go_wp2
          go_ret
          exact ⟨ret_int HX.out.symm, HQ1.out⟩

end Go.Proofs.YtncbigkkmgnkmaaGreatDoor
end
