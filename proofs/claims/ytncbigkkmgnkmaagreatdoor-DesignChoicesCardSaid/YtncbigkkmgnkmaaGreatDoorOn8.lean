/- The law DesignChoices: the ways without an error of its own. Printed by a program (gen_d8law.py). -/
import Derived.Test.YtncbigkkmgnkmaaGreatDoorOn6
import Derived.Deep.RegionHeld3

section
namespace Go.Proofs.YtncbigkkmgnkmaaGreatDoor
open Go.RowKit
attribute [local go_sem high] vals_eqlIn

set_option maxRecDepth 100000 in
set_option maxHeartbeats 16000000 in
theorem choices_w30 (B : Nat) (rs : List DReq) (RA : Option Addr) (rn rc : Nat) (sl : List (List DPart)) (A : Option Addr) (n c : Nat) (idle price : Int) (ch : List Int) (CA : Option Addr) (m cc : Nat) (w : World) (hU : UnitIn w) (hQ : TabS 1 qWords w) (hW : TabS 0 uWords w) (hrr : ReqsIn B w RA rs) (hr : SlotsIn B w A sl) (hc : IntsIn B w CA ch) (hm : ch.length = m) (hB : B ≤ w.heap.size) (hrn : rs.length = rn) (hn : sl.length = n) (h6 : Six sl) (hf : FewP rs sl) (h8 : m ≤ 8) (h1 : (stockE idle price sl).2 = 0) (h2 : choiceE sl ch = 0) (h3 : (specE rs).2 = 0) :
    Calls Tryz.prog 5 #[.agg #[.slice RA rn rc], .agg #[.slice A n c, .int .i64 idle, .int .i64 price], .slice CA m cc] w fun e w' => e = .returned (.bool true) ∧ Below w.heap.size w w' := by
  obtain ⟨f1, f2, f3, f4⟩ := few_bd2 hf
  have hn7 : n ≤ 7 := by omega
  have hr8 : rn ≤ 8 := by omega
  have HAw := Lib.hid (awake_any ((w.alloc (.cells #[.slice RA rn rc] 24)).alloc (.cells #[.slice A n c, .int .i64 idle, .int .i64 price] 27)) (hU.below (pa (pa pr))) (hQ.below (pa (pa pr))) (hW.below (pa (pa pr))))
  have HFe := Lib.hid (fun W (hW : Below w.heap.size w W) => (show Calls Tryz.prog 8 #[.agg #[.slice RA rn rc], .agg #[.slice A n c, .int .i64 idle, .int .i64 price]] W fun e w' => e = .returned (.bool true) ∧ Below W.heap.size W w' from (few_any B rs RA rn rc sl A n c idle price W (hrr.below (hW.mono hB)) (hr.below (hW.mono hB)) (Nat.le_trans hB hW.size) hrn hn).mono fun e w' h => by
    obtain ⟨⟨f, rfl, hfi⟩, hb⟩ := h
    cases f
    · exact absurd (hfi.2 hf) (by decide)
    · exact ⟨rfl, hb⟩))
  have HCk := Lib.hid (fun W (hW : Below w.heap.size w W) => (show Calls Tryz.prog 13 #[.agg #[.slice A n c, .int .i64 idle, .int .i64 price]] W fun e w' => ∃ A2 c2, e = .returned (.agg #[.slice A2 n c2, .int .i64 idle, .int .i64 price]) ∧ SlotsIn w'.heap.size w' A2 sl ∧ Below W.heap.size W w' from (copyStock_any B sl A n c idle price W (hr.below (hW.mono hB)) (Nat.le_trans hB hW.size) hn (by omega) (fun l hl => (f4 l hl).1)).mono fun e w' h => by
    obtain ⟨A2, c2, rfl, h2, _, h3⟩ := h
    rw [hn]
    exact ⟨A2, c2, rfl, h2, h3⟩))
  have HCr := Lib.hid (fun W (hW : Below w.heap.size w W) => (show Calls Tryz.prog 12 #[.agg #[.slice RA rn rc]] W fun e w' => ∃ A2 c2, e = .returned (.agg #[.slice A2 rn c2]) ∧ ReqsIn w'.heap.size w' A2 rs ∧ Below W.heap.size W w' from (copySpec_any B rs RA rn rc W (hrr.below (hW.mono hB)) (Nat.le_trans hB hW.size) hrn (by omega) f2).mono fun e w' h => by
    obtain ⟨A2, c2, rfl, h2, _, h3⟩ := h
    rw [hrn]
    exact ⟨A2, c2, rfl, h2, h3⟩))
  have HCi := Lib.hid (fun W (hW : Below w.heap.size w W) => (copyInts_any B CA m cc ch W (hc.below (hW.mono hB)) hm (Nat.le_trans hB hW.size) (by omega)).mono (fun _ _ h => copy_formC h))
  rw [hm] at HCi

  have hone : oneE idle price sl ch = 0 := (if_pos h1).trans h2
  have hall : allE rs idle price sl ch = 0 := by rw [allE_parts, if_pos h3, hone]
  have HVa := Lib.hid (fun (W : World) A2 c2 A3 c3 (h : SlotsIn W.heap.size W A2 sl) (h' : IntsIn W.heap.size W A3 ch) => ValuesOf_any W.heap.size sl A2 n c2 idle price ch A3 m c3 W h h' (Nat.le_refl _) hn hm (by omega) f4 h6)
  have HCo := Lib.hid (fun (W : World) A2 c2 A3 c3 (h : SlotsIn W.heap.size W A2 sl) (h' : IntsIn W.heap.size W A3 ch) => CostOf_any W.heap.size sl A2 n c2 idle price ch A3 m c3 W h h' (Nat.le_refl _) hn hm (by omega) f4 h6)
  have HMa := Lib.hid (fun (W : World) A1 c1 A2 c2 A3 c3 (hU : UnitIn W) (h0 : ReqsIn W.heap.size W A1 rs) (h : SlotsIn W.heap.size W A2 sl) (h' : IntsIn W.heap.size W A3 ch) => MarginsOf_any W.heap.size rs A1 rn c1 sl A2 n c2 idle price ch A3 m c3 W h0 h h' (Nat.le_refl _) hn hm (by omega) f4 hrn (by omega) f2 hU h6)
  have HMe := Lib.hid (fun (W : World) A1 c1 A2 c2 A3 c3 (hU : UnitIn W) (h0 : ReqsIn W.heap.size W A1 rs) (h : SlotsIn W.heap.size W A2 sl) (h' : IntsIn W.heap.size W A3 ch) => Meets_any W.heap.size rs A1 rn c1 sl A2 n c2 idle price ch A3 m c3 W h0 h h' (Nat.le_refl _) hn hm (by omega) f4 hrn (by omega) f2 hU h6)
  have HUn := Lib.hid (fun W (hW' : Below w.heap.size w W) => hU.below hW')
  have HRs := Lib.hid (fun W (hW : Below w.heap.size w W) => refStockErr_any B sl A n c idle price W (hr.below (hW.mono hB)) (Nat.le_trans hB hW.size) hn (fun _ => f4))
  have HRc := Lib.hid (fun W (hW : Below w.heap.size w W) => refChoiceErr_any B sl A n c idle price ch CA m cc W (hr.below (hW.mono hB)) (hc.below (hW.mono hB)) (Nat.le_trans hB hW.size) hn hm (by omega) (fun l hl => (f4 l hl).1))
  have HRp := Lib.hid (fun W (hW : Below w.heap.size w W) => refSpecErr_any B rs RA rn rc W (hrr.below (hW.mono hB)) (Nat.le_trans hB hW.size) hrn (by omega) f2)
  rw [hone] at HVa HCo
  rw [hall] at HMa HMe
  rw [if_pos rfl] at HVa HCo
  rw [h1] at HRs
  rw [h2] at HRc
  rw [if_pos rfl] at HMa HMe
  rw [h3] at HRp
  obtain ⟨a1, a2, a3⟩ := stockE_ok h6 h1
  have hch := choiceE_ok h2
  obtain rfl : n = m := by rw [← hm, ← hn]; exact hch.1.symm
  have HRV := Lib.hid (fun W (hW : Below w.heap.size w W) => refValuesOf_any B sl A n c idle price ch CA cc W (hr.below (hW.mono hB)) (hc.below (hW.mono hB)) (Nat.le_trans hB hW.size) hn a1 hch)
  have HRC := Lib.hid (fun W (hW : Below w.heap.size w W) => refCostOf_any B sl A n c idle price ch CA cc W (hr.below (hW.mono hB)) (hc.below (hW.mono hB)) (Nat.le_trans hB hW.size) hn a1 hch a2 a3)
  obtain ⟨b1, b2⟩ := specE_ok h3
  have HRM := Lib.hid (fun W (hW : Below w.heap.size w W) => refMarginsOf_any B rs RA rn rc sl A n c idle price ch CA cc W (hrr.below (hW.mono hB)) (hr.below (hW.mono hB)) (hc.below (hW.mono hB)) (Nat.le_trans hB hW.size) hrn (by omega) hn a1 hch b2)
  have HRe := Lib.hid (fun W (hW : Below w.heap.size w W) => refMeets_any B rs RA rn rc sl A n c idle price ch CA cc W (hrr.below (hW.mono hB)) (hr.below (hW.mono hB)) (hc.below (hW.mono hB)) (Nat.le_trans hB hW.size) hrn (by omega) hn a1 hch b2)
  have hml : (marginsV rs sl ch).length = rn := by unfold marginsV; rw [List.length_map, hrn]
  generalize marginsV rs sl ch = ML at *
  have HRg := Lib.hid (fun (W : World) A1 c1 A2 c2 (h : CellsIn W.heap.size W A1 (rangesC ML)) (h' : CellsIn W.heap.size W A2 (rangesC ML)) => (show Calls Tryz.prog 33 #[.slice A1 ML.length c1, .slice A2 ML.length c2] W fun e w' => e = .returned (.bool true) ∧ Below W.heap.size W w' by
    have h9 := baseRanges_any W.heap.size ML ML A1 ML.length c1 A2 ML.length c2 W h h' (Nat.le_refl _) rfl rfl (by omega)
    rw [decide_eq_true rfl] at h9
    exact h9))
  clear hml
  generalize meetsV rs sl ch = mv at *
  have g1 : (mv == mv) = true := by simp
  generalize costC idle price sl ch = cv at *
  generalize valsF sl ch n = vv at *
  have g2 : (cv == cv) = true := by simp
  have g3 : (cv != cv) = false := by simp
  clear a1 a2 a3 hch b1 b2
  clear hone hall
  unfold valsV valsC at HVa HRV
  clear hU hQ hW hrr hr hc hrn hn hm h6 hf f1 f2 f3 f4
  clear h1 h2 h3
  have z8 : ¬ (8 : Int) < (n : Int) := by omega
  have HB0 := Lib.hid (show Below w.heap.size w ((w.alloc (.cells #[.slice RA rn rc] 24)).alloc (.cells #[.slice A n c, .int .i64 idle, .int .i64 price] 27)) from pa (pa pr))
  have R0 := Lib.hid (show Blk ((w.alloc (.cells #[.slice RA rn rc] 24)).alloc (.cells #[.slice A n c, .int .i64 idle, .int .i64 price] 27)) w.heap.size 24 #[.slice RA rn rc] from (Blk.newAt rfl).alloc)
  have K0 := Lib.hid (show Blk ((w.alloc (.cells #[.slice RA rn rc] 24)).alloc (.cells #[.slice A n c, .int .i64 idle, .int .i64 price] 27)) (w.heap.size + 1) 27 #[.slice A n c, .int .i64 idle, .int .i64 price] from Blk.newAt (by simp))
  have M1 := Lib.hid trivial
  go_enter Tryz.func5, Tryz.ntmps5
  go_wp2_with (first
    | (go_at_call 7; refine HAw.out.mono ?_; rintro e w1 ⟨rfl, hb⟩; have HB1 := Lib.hid (pt HB0.out hb); have R1 := Lib.hid (R0.out.past hb); have K1 := Lib.hid (K0.out.past hb); clear hb; have x0 := R1.out.cellAt 0 rfl; have y0 := K1.out.cellAt 0 rfl; have y1 := K1.out.cellAt 1 rfl; have y2 := K1.out.cellAt 2 rfl; have xl := R1.out.lt; have yl := K1.out.lt)
    | (go_at_call 8; refine (HFe.out _ HB1.out).mono ?_; rintro e w2 ⟨rfl, hb⟩; have HB2 := Lib.hid (pt HB1.out hb); have R2 := Lib.hid (R1.out.past hb); have K2 := Lib.hid (K1.out.past hb); clear x0 y0 y1 y2 xl yl; clear hb; have x0 := R2.out.cellAt 0 rfl; have y0 := K2.out.cellAt 0 rfl; have y1 := K2.out.cellAt 1 rfl; have y2 := K2.out.cellAt 2 rfl; have xl := R2.out.lt; have yl := K2.out.lt)
    | (go_at_call 13; have hx := M1; clear M1 hx; refine (HCk.out _ HB2.out).mono ?_; rintro e w3 ⟨A3, c3, rfl, hs3, hb⟩; have HS3 := Lib.hid hs3; clear hs3; have M2 := Lib.hid trivial; have HB3 := Lib.hid (pt HB2.out hb); have R3 := Lib.hid (R2.out.past hb); have K3 := Lib.hid (K2.out.past hb); clear x0 y0 y1 y2 xl yl; clear hb; have x0 := R3.out.cellAt 0 rfl; have y0 := K3.out.cellAt 0 rfl; have y1 := K3.out.cellAt 1 rfl; have y2 := K3.out.cellAt 2 rfl; have xl := R3.out.lt; have yl := K3.out.lt)
    | (go_at_call 19; have hx := M2; clear M2 hx; refine (HCi.out _ HB3.out).mono ?_; rintro e w4 ⟨A4, c4, rfl, hi4, hb⟩; have HI4 := Lib.hid hi4; have HS34 := Lib.hid (HS3.out.past (Nat.le_refl _) hb); clear hi4; have HB4 := Lib.hid (pt HB3.out hb); have R4 := Lib.hid (R3.out.past hb); have K4 := Lib.hid (K3.out.past hb); clear x0 y0 y1 y2 xl yl; clear hb; have x0 := R4.out.cellAt 0 rfl; have y0 := K4.out.cellAt 0 rfl; have y1 := K4.out.cellAt 1 rfl; have y2 := K4.out.cellAt 2 rfl; have xl := R4.out.lt; have yl := K4.out.lt)
    | (go_at_call 26; refine (HVa.out _ _ _ _ _ HS34.out HI4.out).mono ?_; rintro e w5 ⟨rfl, hb⟩; have HBa := Lib.hid (pa (o := .cells #[.int .i64 (vv 0).1, .int .i64 (vv 0).2, .int .i64 (vv 1).1, .int .i64 (vv 1).2, .int .i64 (vv 2).1, .int .i64 (vv 2).2, .int .i64 (vv 3).1, .int .i64 (vv 3).2, .int .i64 (vv 4).1, .int .i64 (vv 4).2, .int .i64 (vv 5).1, .int .i64 (vv 5).2] 57) (pt HB4.out hb)); have Ra := Lib.hid ((R4.out.past hb).alloc (o := .cells #[.int .i64 (vv 0).1, .int .i64 (vv 0).2, .int .i64 (vv 1).1, .int .i64 (vv 1).2, .int .i64 (vv 2).1, .int .i64 (vv 2).2, .int .i64 (vv 3).1, .int .i64 (vv 3).2, .int .i64 (vv 4).1, .int .i64 (vv 4).2, .int .i64 (vv 5).1, .int .i64 (vv 5).2] 57)); have Ka := Lib.hid ((K4.out.past hb).alloc (o := .cells #[.int .i64 (vv 0).1, .int .i64 (vv 0).2, .int .i64 (vv 1).1, .int .i64 (vv 1).2, .int .i64 (vv 2).1, .int .i64 (vv 2).2, .int .i64 (vv 3).1, .int .i64 (vv 3).2, .int .i64 (vv 4).1, .int .i64 (vv 4).2, .int .i64 (vv 5).1, .int .i64 (vv 5).2] 57)); have V7 := Lib.hid (show Blk (w5.alloc (.cells #[.int .i64 (vv 0).1, .int .i64 (vv 0).2, .int .i64 (vv 1).1, .int .i64 (vv 1).2, .int .i64 (vv 2).1, .int .i64 (vv 2).2, .int .i64 (vv 3).1, .int .i64 (vv 3).2, .int .i64 (vv 4).1, .int .i64 (vv 4).2, .int .i64 (vv 5).1, .int .i64 (vv 5).2] 57)) w5.heap.size 57 #[.int .i64 (vv 0).1, .int .i64 (vv 0).2, .int .i64 (vv 1).1, .int .i64 (vv 1).2, .int .i64 (vv 2).1, .int .i64 (vv 2).2, .int .i64 (vv 3).1, .int .i64 (vv 3).2, .int .i64 (vv 4).1, .int .i64 (vv 4).2, .int .i64 (vv 5).1, .int .i64 (vv 5).2] from Blk.newAt rfl); clear x0 y0 y1 y2 xl yl; clear hb; have x0 := Ra.out.cellAt 0 rfl; have y0 := Ka.out.cellAt 0 rfl; have y1 := Ka.out.cellAt 1 rfl; have y2 := Ka.out.cellAt 2 rfl; have xl := Ra.out.lt; have yl := Ka.out.lt; have M3 := Lib.hid trivial)
    | (go_at_call 13; have hx := M3; clear M3 hx; refine (HCk.out _ HBa.out).mono ?_; rintro e w6 ⟨A6, c6, rfl, hs6, hb⟩; have HS6 := Lib.hid hs6; clear hs6; have M4 := Lib.hid trivial; have V76 := Lib.hid (V7.out.past hb); have HB6 := Lib.hid (pt HBa.out hb); have R6 := Lib.hid (Ra.out.past hb); have K6 := Lib.hid (Ka.out.past hb); clear x0 y0 y1 y2 xl yl; clear hb; have x0 := R6.out.cellAt 0 rfl; have y0 := K6.out.cellAt 0 rfl; have y1 := K6.out.cellAt 1 rfl; have y2 := K6.out.cellAt 2 rfl; have xl := R6.out.lt; have yl := K6.out.lt)
    | (go_at_call 19; have hx := M4; clear M4 hx; refine (HCi.out _ HB6.out).mono ?_; rintro e w7 ⟨A7, c7, rfl, hi7, hb⟩; have HI7 := Lib.hid hi7; have HS67 := Lib.hid (HS6.out.past (Nat.le_refl _) hb); have V77 := Lib.hid (V76.out.past hb); clear hi7; have HB7 := Lib.hid (pt HB6.out hb); have R7 := Lib.hid (R6.out.past hb); have K7 := Lib.hid (K6.out.past hb); clear x0 y0 y1 y2 xl yl; clear hb; have x0 := R7.out.cellAt 0 rfl; have y0 := K7.out.cellAt 0 rfl; have y1 := K7.out.cellAt 1 rfl; have y2 := K7.out.cellAt 2 rfl; have xl := R7.out.lt; have yl := K7.out.lt)
    | (go_at_call 27; refine (HCo.out _ _ _ _ _ HS67.out HI7.out).mono ?_; rintro e w8 ⟨rfl, hb⟩; have V78 := Lib.hid (V77.out.past hb); have HB8 := Lib.hid (pt HB7.out hb); have R8 := Lib.hid (R7.out.past hb); have K8 := Lib.hid (K7.out.past hb); clear x0 y0 y1 y2 xl yl; clear hb; have x0 := R8.out.cellAt 0 rfl; have y0 := K8.out.cellAt 0 rfl; have y1 := K8.out.cellAt 1 rfl; have y2 := K8.out.cellAt 2 rfl; have xl := R8.out.lt; have yl := K8.out.lt))
  clear V7 V76 V77 HS3 HS34 HI4 HS6 HS67 HI7 R0 R1 R2 R3 R4 Ra R6 R7 K0 K1 K2 K3 K4 Ka K6 K7 HB0 HB1 HB2 HB3 HB4 HBa HB6 HB7 HAw HFe HVa HCo
  have HSS := Lib.hid (show ∀ W, Hid (Below w8.heap.size w8 W) → Hid (Below w8.heap.size w8 W) ∧ W.cell? ⟨w.heap.size, 0, none⟩ = some (.slice RA rn rc) ∧ W.cell? ⟨w.heap.size + 1, 0, none⟩ = some (.slice A n c) ∧ W.cell? ⟨w.heap.size + 1, 1, none⟩ = some (.int .i64 idle) ∧ W.cell? ⟨w.heap.size + 1, 2, none⟩ = some (.int .i64 price) from fun W hW => ⟨hW, (R8.out.past hW.out).cellAt 0 rfl, (K8.out.past hW.out).cellAt 0 rfl, (K8.out.past hW.out).cellAt 1 rfl, (K8.out.past hW.out).cellAt 2 rfl⟩)
  clear x0 y0 y1 y2
  go_region_held3 (fun w' => Hid (Below w8.heap.size w8 w') ∧ w'.cell? ⟨w.heap.size, 0, none⟩ = some (.slice RA rn rc) ∧ w'.cell? ⟨w.heap.size + 1, 0, none⟩ = some (.slice A n c) ∧ w'.cell? ⟨w.heap.size + 1, 1, none⟩ = some (.int .i64 idle) ∧ w'.cell? ⟨w.heap.size + 1, 2, none⟩ = some (.int .i64 price)) ((refine HSS.out _ (Lib.hid ?_); repeat (first | assumption | (with_reducible exact pr) | (with_reducible refine pd ?_) | (with_reducible refine pa ?_) | (with_reducible refine pt ?_ (by assumption)))))
    ((first
      | (go_at_call 12; (with_reducible refine (HCr.out _ (pd HB8.out)).mono ?_); rintro e w9 ⟨A9, c9, rfl, hs9, hb9⟩; have HS9 := Lib.hid hs9)
      | (go_at_call 13; (with_reducible refine (HCk.out _ (pt (pd HB8.out) hb9)).mono ?_); rintro e w10 ⟨A10, c10, rfl, hs10, hb10⟩; have HS10 := Lib.hid hs10)
      | (go_at_call 19; (with_reducible refine (HCi.out _ (pt (pt (pd HB8.out) hb9) hb10)).mono ?_); rintro e w11 ⟨A11, c11, rfl, hi11, hb11⟩; have HI11 := Lib.hid hi11)
      | (go_at_call 28; (with_reducible refine (HMa.out _ A9 c9 A10 c10 A11 c11 (HUn.out _ (pt (pt (pt (pd HB8.out) hb9) hb10) hb11)) ((HS9.out.past (Nat.le_refl _) hb10).past (Nat.le_refl _) hb11) (HS10.out.past (Nat.le_refl _) hb11) HI11.out).mono ?_); rintro e w12 ⟨A12, c12, rfl, hc12, hb12⟩; have HC12 := Lib.hid hc12)))
  have HB12 := Lib.hid (show Below w.heap.size w w12 from pt (pt (pt (pt (pd HB8.out) hb9) hb10) hb11) hb12)
  have HBl12 := Lib.hid (show Below w8.heap.size w8 w12 from pt (pt (pt (pt (pd pr) hb9) hb10) hb11) hb12)
  have R12 := Lib.hid (R8.out.past HBl12.out)
  have K12 := Lib.hid (K8.out.past HBl12.out)
  have V712 := Lib.hid (V78.out.past HBl12.out)
  clear HSS xl yl hs9 hs10 hi11 hb9 hb10 hb11 hb12 HS9 HS10 HI11 R8 K8 V78 HB8
  have x0 := R12.out.cellAt 0 rfl; have y0 := K12.out.cellAt 0 rfl; have y1 := K12.out.cellAt 1 rfl; have y2 := K12.out.cellAt 2 rfl; have xl := R12.out.lt; have yl := K12.out.lt
  clear hc12
  go_wp2
  have HSS := Lib.hid (show ∀ W, Hid (Below w12.heap.size w12 W) → Hid (Below w12.heap.size w12 W) ∧ W.cell? ⟨w.heap.size, 0, none⟩ = some (.slice RA rn rc) ∧ W.cell? ⟨w.heap.size + 1, 0, none⟩ = some (.slice A n c) ∧ W.cell? ⟨w.heap.size + 1, 1, none⟩ = some (.int .i64 idle) ∧ W.cell? ⟨w.heap.size + 1, 2, none⟩ = some (.int .i64 price) from fun W hW => ⟨hW, (R12.out.past hW.out).cellAt 0 rfl, (K12.out.past hW.out).cellAt 0 rfl, (K12.out.past hW.out).cellAt 1 rfl, (K12.out.past hW.out).cellAt 2 rfl⟩)
  clear x0 y0 y1 y2
  go_region_held3 (fun w' => Hid (Below w12.heap.size w12 w') ∧ w'.cell? ⟨w.heap.size, 0, none⟩ = some (.slice RA rn rc) ∧ w'.cell? ⟨w.heap.size + 1, 0, none⟩ = some (.slice A n c) ∧ w'.cell? ⟨w.heap.size + 1, 1, none⟩ = some (.int .i64 idle) ∧ w'.cell? ⟨w.heap.size + 1, 2, none⟩ = some (.int .i64 price)) ((refine HSS.out _ (Lib.hid ?_); repeat (first | assumption | (with_reducible exact pr) | (with_reducible refine pd ?_) | (with_reducible refine pa ?_) | (with_reducible refine pt ?_ (by assumption)))))
    ((first
      | (go_at_call 12; (with_reducible refine (HCr.out _ (pd HB12.out)).mono ?_); rintro e w13 ⟨A13, c13, rfl, hs13, hb13⟩; have HS13 := Lib.hid hs13)
      | (go_at_call 13; (with_reducible refine (HCk.out _ (pt (pd HB12.out) hb13)).mono ?_); rintro e w14 ⟨A14, c14, rfl, hs14, hb14⟩; have HS14 := Lib.hid hs14)
      | (go_at_call 19; (with_reducible refine (HCi.out _ (pt (pt (pd HB12.out) hb13) hb14)).mono ?_); rintro e w15 ⟨A15, c15, rfl, hi15, hb15⟩; have HI15 := Lib.hid hi15)
      | (go_at_call 29; (with_reducible refine (HMe.out _ A13 c13 A14 c14 A15 c15 (HUn.out _ (pt (pt (pt (pd HB12.out) hb13) hb14) hb15)) ((HS13.out.past (Nat.le_refl _) hb14).past (Nat.le_refl _) hb15) (HS14.out.past (Nat.le_refl _) hb15) HI15.out).mono ?_); rintro e w16 ⟨rfl, hb16⟩)))
  have HB16 := Lib.hid (show Below w.heap.size w w16 from pt (pt (pt (pt (pd HB12.out) hb13) hb14) hb15) hb16)
  have HBl16 := Lib.hid (show Below w12.heap.size w12 w16 from pt (pt (pt (pt (pd pr) hb13) hb14) hb15) hb16)
  have R16 := Lib.hid (R12.out.past HBl16.out)
  have K16 := Lib.hid (K12.out.past HBl16.out)
  have V716 := Lib.hid (V712.out.past HBl16.out)
  clear HSS xl yl hs13 hs14 hi15 hb13 hb14 hb15 hb16 HS13 HS14 HI15 R12 K12 V712 HB12
  have x0 := R16.out.cellAt 0 rfl; have y0 := K16.out.cellAt 0 rfl; have y1 := K16.out.cellAt 1 rfl; have y2 := K16.out.cellAt 2 rfl; have xl := R16.out.lt; have yl := K16.out.lt
  have HC16 := Lib.hid ((HC12.out.below HBl16.out).more HBl16.out.size)
  clear HC12
  clear HBl12 HBl16 HMa HMe HCk HCr HCi HUn
  go_wp2_with (first
    | (go_at_call 30; refine (HRs.out _ HB16.out).mono ?_; rintro e w17 ⟨rfl, hb⟩; have V717 := Lib.hid (V716.out.past hb); have HC17 := Lib.hid ((HC16.out.below hb).more hb.size); clear HC16; have HC16 := HC17; clear HC17; have HB17 := Lib.hid (pt HB16.out hb); have R17 := Lib.hid (R16.out.past hb); have K17 := Lib.hid (K16.out.past hb); clear x0 y0 y1 y2 xl yl; clear hb; have x0 := R17.out.cellAt 0 rfl; have y0 := K17.out.cellAt 0 rfl; have y1 := K17.out.cellAt 1 rfl; have y2 := K17.out.cellAt 2 rfl; have xl := R17.out.lt; have yl := K17.out.lt; have v0 := V717.out.cellAt 0 rfl; have v1 := V717.out.cellAt 1 rfl; have v2 := V717.out.cellAt 2 rfl; have v3 := V717.out.cellAt 3 rfl; have v4 := V717.out.cellAt 4 rfl; have v5 := V717.out.cellAt 5 rfl; have v6 := V717.out.cellAt 6 rfl; have v7 := V717.out.cellAt 7 rfl; have v8 := V717.out.cellAt 8 rfl; have v9 := V717.out.cellAt 9 rfl; have v10 := V717.out.cellAt 10 rfl; have v11 := V717.out.cellAt 11 rfl; have vl := V717.out.lt)
    | (go_at_call 23; refine (HRc.out _ HB17.out).mono ?_; rintro e w18 ⟨rfl, hb⟩; have V718 := Lib.hid (V717.out.past hb); have HC18 := Lib.hid ((HC16.out.below hb).more hb.size); clear HC16; have HC16 := HC18; clear HC18; clear v0 v1 v2 v3 v4 v5 v6 v7 v8 v9 v10 v11 vl; have HB18 := Lib.hid (pt HB17.out hb); have R18 := Lib.hid (R17.out.past hb); have K18 := Lib.hid (K17.out.past hb); clear x0 y0 y1 y2 xl yl; clear hb; have x0 := R18.out.cellAt 0 rfl; have y0 := K18.out.cellAt 0 rfl; have y1 := K18.out.cellAt 1 rfl; have y2 := K18.out.cellAt 2 rfl; have xl := R18.out.lt; have yl := K18.out.lt; have v0 := V718.out.cellAt 0 rfl; have v1 := V718.out.cellAt 1 rfl; have v2 := V718.out.cellAt 2 rfl; have v3 := V718.out.cellAt 3 rfl; have v4 := V718.out.cellAt 4 rfl; have v5 := V718.out.cellAt 5 rfl; have v6 := V718.out.cellAt 6 rfl; have v7 := V718.out.cellAt 7 rfl; have v8 := V718.out.cellAt 8 rfl; have v9 := V718.out.cellAt 9 rfl; have v10 := V718.out.cellAt 10 rfl; have v11 := V718.out.cellAt 11 rfl; have vl := V718.out.lt))
  refine region_below 46 follows_mixed (by kernel_rfl) ?_
  intro C hC
  simp only [List.take_succ_cons, List.take_zero, List.drop_succ_cons, List.drop_zero]
  repeat (first
    | ((with_reducible refine quiet_plain rfl (fun K hK => ?_)); (focus (apply quiet_val; (focus (intro w' hw; obtain ⟨hcq, hfq⟩ := bcell ((hC.out _).1 hw); go_simp; (first | done | rfl | (with_reducible exact call_below hC hw (HRV.out _ (pt HB18.out ((hC.out _).1 hw)))) | (with_reducible exact call_below hC hw (HRC.out _ (pt HB18.out ((hC.out _).1 hw))))))); (simp only [Act.put, List.setIfInBounds_toArray, List.set_cons_succ, List.set_cons_zero]); (with_reducible refine hK _ ?_); clear hK K)))
    | ((with_reducible refine quiet_skip ?_ ?_); (focus (first | (simp [Region.wanted, yielded]; done) | (simp [Region.wanted, yielded, undef]; done))); simp only [Act.put, List.setIfInBounds_toArray, List.set_cons_succ, List.set_cons_zero])
    | ((with_reducible refine quiet_go ?_ (fun K hK => ?_)); (focus (first | (simp [Region.wanted, yielded]; done) | (simp [Region.wanted, yielded, undef]; done))); (focus (apply quiet_val; (focus (intro w' hw; obtain ⟨hcq, hfq⟩ := bcell ((hC.out _).1 hw); go_simp; (first | done | rfl | (with_reducible exact call_below hC hw (HRV.out _ (pt HB18.out ((hC.out _).1 hw)))) | (with_reducible exact call_below hC hw (HRC.out _ (pt HB18.out ((hC.out _).1 hw))))))); (simp only [Act.put, List.setIfInBounds_toArray, List.set_cons_succ, List.set_cons_zero]); (with_reducible refine hK _ ?_); clear hK K))))
  refine wpQuiet_nil ?_
  intro w1 hb1
  replace hb1 := (hC.out _).1 hb1
  clear hC C
  obtain ⟨hc1, hf1⟩ := bcell hb1
  have HBz := Lib.hid (pt HB18.out hb1)
  have Rz := Lib.hid (R18.out.past hb1)
  have Kz := Lib.hid (K18.out.past hb1)
  have HCz := Lib.hid ((HC16.out.below hb1).more hb1.size)
  clear x0 y0 y1 y2 xl yl hb1 hc1 hf1 v0 v1 v2 v3 v4 v5 v6 v7 v8 v9 v10 v11 vl
  have x0 := Rz.out.cellAt 0 rfl; have y0 := Kz.out.cellAt 0 rfl; have y1 := Kz.out.cellAt 1 rfl; have y2 := Kz.out.cellAt 2 rfl; have xl := Rz.out.lt; have yl := Kz.out.lt
  go_wp2_with (first
    | (go_at_call 32; refine (HRp.out _ HBz.out).mono ?_; rintro e w19 ⟨rfl, hb⟩; have HC19 := Lib.hid trivial; have HCy := Lib.hid ((HCz.out.below hb).more hb.size); have HB19 := Lib.hid (pt HBz.out hb); have R19 := Lib.hid (Rz.out.past hb); have K19 := Lib.hid (Kz.out.past hb); clear x0 y0 y1 y2 xl yl; clear hb; have x0 := R19.out.cellAt 0 rfl; have y0 := K19.out.cellAt 0 rfl; have y1 := K19.out.cellAt 1 rfl; have y2 := K19.out.cellAt 2 rfl; have xl := R19.out.lt; have yl := K19.out.lt)
    | (go_at_call 34; refine (HRM.out _ HB19.out).mono ?_; rintro e w20 ⟨A20, c20, rfl, hc20, hb⟩; have HC20 := Lib.hid hc20; have HCx := Lib.hid ((HCy.out.below hb).more hb.size); clear hc20; have HB20 := Lib.hid (pt HB19.out hb); have R20 := Lib.hid (R19.out.past hb); have K20 := Lib.hid (K19.out.past hb); clear x0 y0 y1 y2 xl yl; clear hb; have x0 := R20.out.cellAt 0 rfl; have y0 := K20.out.cellAt 0 rfl; have y1 := K20.out.cellAt 1 rfl; have y2 := K20.out.cellAt 2 rfl; have xl := R20.out.lt; have yl := K20.out.lt)
    | (go_at_call 33; refine (HRg.out _ _ _ _ _ HCx.out HC20.out).mono ?_; rintro e w21 ⟨rfl, hb⟩; have HB21 := Lib.hid (pt HB20.out hb); have R21 := Lib.hid (R20.out.past hb); have K21 := Lib.hid (K20.out.past hb); clear x0 y0 y1 y2 xl yl; clear hb; have x0 := R21.out.cellAt 0 rfl; have y0 := K21.out.cellAt 0 rfl; have y1 := K21.out.cellAt 1 rfl; have y2 := K21.out.cellAt 2 rfl; have xl := R21.out.lt; have yl := K21.out.lt)
    | (go_at_call 24; refine (HRe.out _ HB21.out).mono ?_; rintro e w22 ⟨rfl, hb⟩; have HB22 := Lib.hid (pt HB21.out hb); have R22 := Lib.hid (R21.out.past hb); have K22 := Lib.hid (K21.out.past hb); clear x0 y0 y1 y2 xl yl; clear hb; have x0 := R22.out.cellAt 0 rfl; have y0 := K22.out.cellAt 0 rfl; have y1 := K22.out.cellAt 1 rfl; have y2 := K22.out.cellAt 2 rfl; have xl := R22.out.lt; have yl := K22.out.lt))
  go_ret
  exact ⟨rfl, HB22.out⟩

set_option maxRecDepth 100000 in
set_option maxHeartbeats 16000000 in
theorem choices_w31 (B : Nat) (rs : List DReq) (RA : Option Addr) (rn rc : Nat) (sl : List (List DPart)) (A : Option Addr) (n c : Nat) (idle price : Int) (ch : List Int) (CA : Option Addr) (m cc : Nat) (w : World) (hU : UnitIn w) (hQ : TabS 1 qWords w) (hW : TabS 0 uWords w) (hrr : ReqsIn B w RA rs) (hr : SlotsIn B w A sl) (hc : IntsIn B w CA ch) (hm : ch.length = m) (hB : B ≤ w.heap.size) (hrn : rs.length = rn) (hn : sl.length = n) (h6 : Six sl) (hf : FewP rs sl) (h8 : m ≤ 8) (h1 : (stockE idle price sl).2 = 0) (h2 : choiceE sl ch = 0) (h3 : (specE rs).2 ≠ 0) :
    Calls Tryz.prog 5 #[.agg #[.slice RA rn rc], .agg #[.slice A n c, .int .i64 idle, .int .i64 price], .slice CA m cc] w fun e w' => e = .returned (.bool true) ∧ Below w.heap.size w w' := by
  obtain ⟨f1, f2, f3, f4⟩ := few_bd2 hf
  have hn7 : n ≤ 7 := by omega
  have hr8 : rn ≤ 8 := by omega
  have HAw := Lib.hid (awake_any ((w.alloc (.cells #[.slice RA rn rc] 24)).alloc (.cells #[.slice A n c, .int .i64 idle, .int .i64 price] 27)) (hU.below (pa (pa pr))) (hQ.below (pa (pa pr))) (hW.below (pa (pa pr))))
  have HFe := Lib.hid (fun W (hW : Below w.heap.size w W) => (show Calls Tryz.prog 8 #[.agg #[.slice RA rn rc], .agg #[.slice A n c, .int .i64 idle, .int .i64 price]] W fun e w' => e = .returned (.bool true) ∧ Below W.heap.size W w' from (few_any B rs RA rn rc sl A n c idle price W (hrr.below (hW.mono hB)) (hr.below (hW.mono hB)) (Nat.le_trans hB hW.size) hrn hn).mono fun e w' h => by
    obtain ⟨⟨f, rfl, hfi⟩, hb⟩ := h
    cases f
    · exact absurd (hfi.2 hf) (by decide)
    · exact ⟨rfl, hb⟩))
  have HCk := Lib.hid (fun W (hW : Below w.heap.size w W) => (show Calls Tryz.prog 13 #[.agg #[.slice A n c, .int .i64 idle, .int .i64 price]] W fun e w' => ∃ A2 c2, e = .returned (.agg #[.slice A2 n c2, .int .i64 idle, .int .i64 price]) ∧ SlotsIn w'.heap.size w' A2 sl ∧ Below W.heap.size W w' from (copyStock_any B sl A n c idle price W (hr.below (hW.mono hB)) (Nat.le_trans hB hW.size) hn (by omega) (fun l hl => (f4 l hl).1)).mono fun e w' h => by
    obtain ⟨A2, c2, rfl, h2, _, h3⟩ := h
    rw [hn]
    exact ⟨A2, c2, rfl, h2, h3⟩))
  have HCr := Lib.hid (fun W (hW : Below w.heap.size w W) => (show Calls Tryz.prog 12 #[.agg #[.slice RA rn rc]] W fun e w' => ∃ A2 c2, e = .returned (.agg #[.slice A2 rn c2]) ∧ ReqsIn w'.heap.size w' A2 rs ∧ Below W.heap.size W w' from (copySpec_any B rs RA rn rc W (hrr.below (hW.mono hB)) (Nat.le_trans hB hW.size) hrn (by omega) f2).mono fun e w' h => by
    obtain ⟨A2, c2, rfl, h2, _, h3⟩ := h
    rw [hrn]
    exact ⟨A2, c2, rfl, h2, h3⟩))
  have HCi := Lib.hid (fun W (hW : Below w.heap.size w W) => (copyInts_any B CA m cc ch W (hc.below (hW.mono hB)) hm (Nat.le_trans hB hW.size) (by omega)).mono (fun _ _ h => copy_formC h))
  rw [hm] at HCi

  have hone : oneE idle price sl ch = 0 := (if_pos h1).trans h2
  have hall : allE rs idle price sl ch = (specE rs).2 := by rw [allE_parts, if_neg h3]
  have HVa := Lib.hid (fun (W : World) A2 c2 A3 c3 (h : SlotsIn W.heap.size W A2 sl) (h' : IntsIn W.heap.size W A3 ch) => ValuesOf_any W.heap.size sl A2 n c2 idle price ch A3 m c3 W h h' (Nat.le_refl _) hn hm (by omega) f4 h6)
  have HCo := Lib.hid (fun (W : World) A2 c2 A3 c3 (h : SlotsIn W.heap.size W A2 sl) (h' : IntsIn W.heap.size W A3 ch) => CostOf_any W.heap.size sl A2 n c2 idle price ch A3 m c3 W h h' (Nat.le_refl _) hn hm (by omega) f4 h6)
  have HMa := Lib.hid (fun (W : World) A1 c1 A2 c2 A3 c3 (hU : UnitIn W) (h0 : ReqsIn W.heap.size W A1 rs) (h : SlotsIn W.heap.size W A2 sl) (h' : IntsIn W.heap.size W A3 ch) => MarginsOf_any W.heap.size rs A1 rn c1 sl A2 n c2 idle price ch A3 m c3 W h0 h h' (Nat.le_refl _) hn hm (by omega) f4 hrn (by omega) f2 hU h6)
  have HMe := Lib.hid (fun (W : World) A1 c1 A2 c2 A3 c3 (hU : UnitIn W) (h0 : ReqsIn W.heap.size W A1 rs) (h : SlotsIn W.heap.size W A2 sl) (h' : IntsIn W.heap.size W A3 ch) => Meets_any W.heap.size rs A1 rn c1 sl A2 n c2 idle price ch A3 m c3 W h0 h h' (Nat.le_refl _) hn hm (by omega) f4 hrn (by omega) f2 hU h6)
  have HUn := Lib.hid (fun W (hW' : Below w.heap.size w W) => hU.below hW')
  have HRs := Lib.hid (fun W (hW : Below w.heap.size w W) => refStockErr_any B sl A n c idle price W (hr.below (hW.mono hB)) (Nat.le_trans hB hW.size) hn (fun _ => f4))
  have HRc := Lib.hid (fun W (hW : Below w.heap.size w W) => refChoiceErr_any B sl A n c idle price ch CA m cc W (hr.below (hW.mono hB)) (hc.below (hW.mono hB)) (Nat.le_trans hB hW.size) hn hm (by omega) (fun l hl => (f4 l hl).1))
  have HRp := Lib.hid (fun W (hW : Below w.heap.size w W) => refSpecErr_any B rs RA rn rc W (hrr.below (hW.mono hB)) (Nat.le_trans hB hW.size) hrn (by omega) f2)
  rw [hone] at HVa HCo
  rw [hall] at HMa HMe
  rw [if_pos rfl] at HVa HCo
  rw [h1] at HRs
  rw [h2] at HRc
  rw [if_neg h3] at HMa HMe
  obtain ⟨a1, a2, a3⟩ := stockE_ok h6 h1
  have hch := choiceE_ok h2
  obtain rfl : n = m := by rw [← hm, ← hn]; exact hch.1.symm
  have HRV := Lib.hid (fun W (hW : Below w.heap.size w W) => refValuesOf_any B sl A n c idle price ch CA cc W (hr.below (hW.mono hB)) (hc.below (hW.mono hB)) (Nat.le_trans hB hW.size) hn a1 hch)
  have HRC := Lib.hid (fun W (hW : Below w.heap.size w W) => refCostOf_any B sl A n c idle price ch CA cc W (hr.below (hW.mono hB)) (hc.below (hW.mono hB)) (Nat.le_trans hB hW.size) hn a1 hch a2 a3)
  generalize costC idle price sl ch = cv at *
  generalize valsF sl ch n = vv at *
  have g2 : (cv == cv) = true := by simp
  have g3 : (cv != cv) = false := by simp
  clear a1 a2 a3 hch
  clear hone hall
  have hs := h3
  generalize (specE rs).2 = s at *
  have sa : (s == 0) = false := by simpa using hs
  have sb : (s != 0) = true := by simpa using hs
  have sc : (s == s) = true := by simp
  have sd : (s != s) = false := by simp
  unfold valsV valsC at HVa HRV
  clear hU hQ hW hrr hr hc hrn hn hm h6 hf f1 f2 f3 f4
  clear h1 h2 h3 hs
  have z8 : ¬ (8 : Int) < (n : Int) := by omega
  have HB0 := Lib.hid (show Below w.heap.size w ((w.alloc (.cells #[.slice RA rn rc] 24)).alloc (.cells #[.slice A n c, .int .i64 idle, .int .i64 price] 27)) from pa (pa pr))
  have R0 := Lib.hid (show Blk ((w.alloc (.cells #[.slice RA rn rc] 24)).alloc (.cells #[.slice A n c, .int .i64 idle, .int .i64 price] 27)) w.heap.size 24 #[.slice RA rn rc] from (Blk.newAt rfl).alloc)
  have K0 := Lib.hid (show Blk ((w.alloc (.cells #[.slice RA rn rc] 24)).alloc (.cells #[.slice A n c, .int .i64 idle, .int .i64 price] 27)) (w.heap.size + 1) 27 #[.slice A n c, .int .i64 idle, .int .i64 price] from Blk.newAt (by simp))
  have M1 := Lib.hid trivial
  go_enter Tryz.func5, Tryz.ntmps5
  go_wp2_with (first
    | (go_at_call 7; refine HAw.out.mono ?_; rintro e w1 ⟨rfl, hb⟩; have HB1 := Lib.hid (pt HB0.out hb); have R1 := Lib.hid (R0.out.past hb); have K1 := Lib.hid (K0.out.past hb); clear hb; have x0 := R1.out.cellAt 0 rfl; have y0 := K1.out.cellAt 0 rfl; have y1 := K1.out.cellAt 1 rfl; have y2 := K1.out.cellAt 2 rfl; have xl := R1.out.lt; have yl := K1.out.lt)
    | (go_at_call 8; refine (HFe.out _ HB1.out).mono ?_; rintro e w2 ⟨rfl, hb⟩; have HB2 := Lib.hid (pt HB1.out hb); have R2 := Lib.hid (R1.out.past hb); have K2 := Lib.hid (K1.out.past hb); clear x0 y0 y1 y2 xl yl; clear hb; have x0 := R2.out.cellAt 0 rfl; have y0 := K2.out.cellAt 0 rfl; have y1 := K2.out.cellAt 1 rfl; have y2 := K2.out.cellAt 2 rfl; have xl := R2.out.lt; have yl := K2.out.lt)
    | (go_at_call 13; have hx := M1; clear M1 hx; refine (HCk.out _ HB2.out).mono ?_; rintro e w3 ⟨A3, c3, rfl, hs3, hb⟩; have HS3 := Lib.hid hs3; clear hs3; have M2 := Lib.hid trivial; have HB3 := Lib.hid (pt HB2.out hb); have R3 := Lib.hid (R2.out.past hb); have K3 := Lib.hid (K2.out.past hb); clear x0 y0 y1 y2 xl yl; clear hb; have x0 := R3.out.cellAt 0 rfl; have y0 := K3.out.cellAt 0 rfl; have y1 := K3.out.cellAt 1 rfl; have y2 := K3.out.cellAt 2 rfl; have xl := R3.out.lt; have yl := K3.out.lt)
    | (go_at_call 19; have hx := M2; clear M2 hx; refine (HCi.out _ HB3.out).mono ?_; rintro e w4 ⟨A4, c4, rfl, hi4, hb⟩; have HI4 := Lib.hid hi4; have HS34 := Lib.hid (HS3.out.past (Nat.le_refl _) hb); clear hi4; have HB4 := Lib.hid (pt HB3.out hb); have R4 := Lib.hid (R3.out.past hb); have K4 := Lib.hid (K3.out.past hb); clear x0 y0 y1 y2 xl yl; clear hb; have x0 := R4.out.cellAt 0 rfl; have y0 := K4.out.cellAt 0 rfl; have y1 := K4.out.cellAt 1 rfl; have y2 := K4.out.cellAt 2 rfl; have xl := R4.out.lt; have yl := K4.out.lt)
    | (go_at_call 26; refine (HVa.out _ _ _ _ _ HS34.out HI4.out).mono ?_; rintro e w5 ⟨rfl, hb⟩; have HBa := Lib.hid (pa (o := .cells #[.int .i64 (vv 0).1, .int .i64 (vv 0).2, .int .i64 (vv 1).1, .int .i64 (vv 1).2, .int .i64 (vv 2).1, .int .i64 (vv 2).2, .int .i64 (vv 3).1, .int .i64 (vv 3).2, .int .i64 (vv 4).1, .int .i64 (vv 4).2, .int .i64 (vv 5).1, .int .i64 (vv 5).2] 57) (pt HB4.out hb)); have Ra := Lib.hid ((R4.out.past hb).alloc (o := .cells #[.int .i64 (vv 0).1, .int .i64 (vv 0).2, .int .i64 (vv 1).1, .int .i64 (vv 1).2, .int .i64 (vv 2).1, .int .i64 (vv 2).2, .int .i64 (vv 3).1, .int .i64 (vv 3).2, .int .i64 (vv 4).1, .int .i64 (vv 4).2, .int .i64 (vv 5).1, .int .i64 (vv 5).2] 57)); have Ka := Lib.hid ((K4.out.past hb).alloc (o := .cells #[.int .i64 (vv 0).1, .int .i64 (vv 0).2, .int .i64 (vv 1).1, .int .i64 (vv 1).2, .int .i64 (vv 2).1, .int .i64 (vv 2).2, .int .i64 (vv 3).1, .int .i64 (vv 3).2, .int .i64 (vv 4).1, .int .i64 (vv 4).2, .int .i64 (vv 5).1, .int .i64 (vv 5).2] 57)); have V7 := Lib.hid (show Blk (w5.alloc (.cells #[.int .i64 (vv 0).1, .int .i64 (vv 0).2, .int .i64 (vv 1).1, .int .i64 (vv 1).2, .int .i64 (vv 2).1, .int .i64 (vv 2).2, .int .i64 (vv 3).1, .int .i64 (vv 3).2, .int .i64 (vv 4).1, .int .i64 (vv 4).2, .int .i64 (vv 5).1, .int .i64 (vv 5).2] 57)) w5.heap.size 57 #[.int .i64 (vv 0).1, .int .i64 (vv 0).2, .int .i64 (vv 1).1, .int .i64 (vv 1).2, .int .i64 (vv 2).1, .int .i64 (vv 2).2, .int .i64 (vv 3).1, .int .i64 (vv 3).2, .int .i64 (vv 4).1, .int .i64 (vv 4).2, .int .i64 (vv 5).1, .int .i64 (vv 5).2] from Blk.newAt rfl); clear x0 y0 y1 y2 xl yl; clear hb; have x0 := Ra.out.cellAt 0 rfl; have y0 := Ka.out.cellAt 0 rfl; have y1 := Ka.out.cellAt 1 rfl; have y2 := Ka.out.cellAt 2 rfl; have xl := Ra.out.lt; have yl := Ka.out.lt; have M3 := Lib.hid trivial)
    | (go_at_call 13; have hx := M3; clear M3 hx; refine (HCk.out _ HBa.out).mono ?_; rintro e w6 ⟨A6, c6, rfl, hs6, hb⟩; have HS6 := Lib.hid hs6; clear hs6; have M4 := Lib.hid trivial; have V76 := Lib.hid (V7.out.past hb); have HB6 := Lib.hid (pt HBa.out hb); have R6 := Lib.hid (Ra.out.past hb); have K6 := Lib.hid (Ka.out.past hb); clear x0 y0 y1 y2 xl yl; clear hb; have x0 := R6.out.cellAt 0 rfl; have y0 := K6.out.cellAt 0 rfl; have y1 := K6.out.cellAt 1 rfl; have y2 := K6.out.cellAt 2 rfl; have xl := R6.out.lt; have yl := K6.out.lt)
    | (go_at_call 19; have hx := M4; clear M4 hx; refine (HCi.out _ HB6.out).mono ?_; rintro e w7 ⟨A7, c7, rfl, hi7, hb⟩; have HI7 := Lib.hid hi7; have HS67 := Lib.hid (HS6.out.past (Nat.le_refl _) hb); have V77 := Lib.hid (V76.out.past hb); clear hi7; have HB7 := Lib.hid (pt HB6.out hb); have R7 := Lib.hid (R6.out.past hb); have K7 := Lib.hid (K6.out.past hb); clear x0 y0 y1 y2 xl yl; clear hb; have x0 := R7.out.cellAt 0 rfl; have y0 := K7.out.cellAt 0 rfl; have y1 := K7.out.cellAt 1 rfl; have y2 := K7.out.cellAt 2 rfl; have xl := R7.out.lt; have yl := K7.out.lt)
    | (go_at_call 27; refine (HCo.out _ _ _ _ _ HS67.out HI7.out).mono ?_; rintro e w8 ⟨rfl, hb⟩; have V78 := Lib.hid (V77.out.past hb); have HB8 := Lib.hid (pt HB7.out hb); have R8 := Lib.hid (R7.out.past hb); have K8 := Lib.hid (K7.out.past hb); clear x0 y0 y1 y2 xl yl; clear hb; have x0 := R8.out.cellAt 0 rfl; have y0 := K8.out.cellAt 0 rfl; have y1 := K8.out.cellAt 1 rfl; have y2 := K8.out.cellAt 2 rfl; have xl := R8.out.lt; have yl := K8.out.lt))
  clear V7 V76 V77 HS3 HS34 HI4 HS6 HS67 HI7 R0 R1 R2 R3 R4 Ra R6 R7 K0 K1 K2 K3 K4 Ka K6 K7 HB0 HB1 HB2 HB3 HB4 HBa HB6 HB7 HAw HFe HVa HCo
  have HSS := Lib.hid (show ∀ W, Hid (Below w8.heap.size w8 W) → Hid (Below w8.heap.size w8 W) ∧ W.cell? ⟨w.heap.size, 0, none⟩ = some (.slice RA rn rc) ∧ W.cell? ⟨w.heap.size + 1, 0, none⟩ = some (.slice A n c) ∧ W.cell? ⟨w.heap.size + 1, 1, none⟩ = some (.int .i64 idle) ∧ W.cell? ⟨w.heap.size + 1, 2, none⟩ = some (.int .i64 price) from fun W hW => ⟨hW, (R8.out.past hW.out).cellAt 0 rfl, (K8.out.past hW.out).cellAt 0 rfl, (K8.out.past hW.out).cellAt 1 rfl, (K8.out.past hW.out).cellAt 2 rfl⟩)
  clear x0 y0 y1 y2
  go_region_held3 (fun w' => Hid (Below w8.heap.size w8 w') ∧ w'.cell? ⟨w.heap.size, 0, none⟩ = some (.slice RA rn rc) ∧ w'.cell? ⟨w.heap.size + 1, 0, none⟩ = some (.slice A n c) ∧ w'.cell? ⟨w.heap.size + 1, 1, none⟩ = some (.int .i64 idle) ∧ w'.cell? ⟨w.heap.size + 1, 2, none⟩ = some (.int .i64 price)) ((refine HSS.out _ (Lib.hid ?_); repeat (first | assumption | (with_reducible exact pr) | (with_reducible refine pd ?_) | (with_reducible refine pa ?_) | (with_reducible refine pt ?_ (by assumption)))))
    ((first
      | (go_at_call 12; (with_reducible refine (HCr.out _ (pd HB8.out)).mono ?_); rintro e w9 ⟨A9, c9, rfl, hs9, hb9⟩; have HS9 := Lib.hid hs9)
      | (go_at_call 13; (with_reducible refine (HCk.out _ (pt (pd HB8.out) hb9)).mono ?_); rintro e w10 ⟨A10, c10, rfl, hs10, hb10⟩; have HS10 := Lib.hid hs10)
      | (go_at_call 19; (with_reducible refine (HCi.out _ (pt (pt (pd HB8.out) hb9) hb10)).mono ?_); rintro e w11 ⟨A11, c11, rfl, hi11, hb11⟩; have HI11 := Lib.hid hi11)
      | (go_at_call 28; (with_reducible refine (HMa.out _ A9 c9 A10 c10 A11 c11 (HUn.out _ (pt (pt (pt (pd HB8.out) hb9) hb10) hb11)) ((HS9.out.past (Nat.le_refl _) hb10).past (Nat.le_refl _) hb11) (HS10.out.past (Nat.le_refl _) hb11) HI11.out).mono ?_); rintro e w12 ⟨A12, c12, rfl, _, hb12⟩)))
  have HB12 := Lib.hid (show Below w.heap.size w w12 from pt (pt (pt (pt (pd HB8.out) hb9) hb10) hb11) hb12)
  have HBl12 := Lib.hid (show Below w8.heap.size w8 w12 from pt (pt (pt (pt (pd pr) hb9) hb10) hb11) hb12)
  have R12 := Lib.hid (R8.out.past HBl12.out)
  have K12 := Lib.hid (K8.out.past HBl12.out)
  have V712 := Lib.hid (V78.out.past HBl12.out)
  clear HSS xl yl hs9 hs10 hi11 hb9 hb10 hb11 hb12 HS9 HS10 HI11 R8 K8 V78 HB8
  have x0 := R12.out.cellAt 0 rfl; have y0 := K12.out.cellAt 0 rfl; have y1 := K12.out.cellAt 1 rfl; have y2 := K12.out.cellAt 2 rfl; have xl := R12.out.lt; have yl := K12.out.lt
  go_wp2
  have HSS := Lib.hid (show ∀ W, Hid (Below w12.heap.size w12 W) → Hid (Below w12.heap.size w12 W) ∧ W.cell? ⟨w.heap.size, 0, none⟩ = some (.slice RA rn rc) ∧ W.cell? ⟨w.heap.size + 1, 0, none⟩ = some (.slice A n c) ∧ W.cell? ⟨w.heap.size + 1, 1, none⟩ = some (.int .i64 idle) ∧ W.cell? ⟨w.heap.size + 1, 2, none⟩ = some (.int .i64 price) from fun W hW => ⟨hW, (R12.out.past hW.out).cellAt 0 rfl, (K12.out.past hW.out).cellAt 0 rfl, (K12.out.past hW.out).cellAt 1 rfl, (K12.out.past hW.out).cellAt 2 rfl⟩)
  clear x0 y0 y1 y2
  go_region_held3 (fun w' => Hid (Below w12.heap.size w12 w') ∧ w'.cell? ⟨w.heap.size, 0, none⟩ = some (.slice RA rn rc) ∧ w'.cell? ⟨w.heap.size + 1, 0, none⟩ = some (.slice A n c) ∧ w'.cell? ⟨w.heap.size + 1, 1, none⟩ = some (.int .i64 idle) ∧ w'.cell? ⟨w.heap.size + 1, 2, none⟩ = some (.int .i64 price)) ((refine HSS.out _ (Lib.hid ?_); repeat (first | assumption | (with_reducible exact pr) | (with_reducible refine pd ?_) | (with_reducible refine pa ?_) | (with_reducible refine pt ?_ (by assumption)))))
    ((first
      | (go_at_call 12; (with_reducible refine (HCr.out _ (pd HB12.out)).mono ?_); rintro e w13 ⟨A13, c13, rfl, hs13, hb13⟩; have HS13 := Lib.hid hs13)
      | (go_at_call 13; (with_reducible refine (HCk.out _ (pt (pd HB12.out) hb13)).mono ?_); rintro e w14 ⟨A14, c14, rfl, hs14, hb14⟩; have HS14 := Lib.hid hs14)
      | (go_at_call 19; (with_reducible refine (HCi.out _ (pt (pt (pd HB12.out) hb13) hb14)).mono ?_); rintro e w15 ⟨A15, c15, rfl, hi15, hb15⟩; have HI15 := Lib.hid hi15)
      | (go_at_call 29; (with_reducible refine (HMe.out _ A13 c13 A14 c14 A15 c15 (HUn.out _ (pt (pt (pt (pd HB12.out) hb13) hb14) hb15)) ((HS13.out.past (Nat.le_refl _) hb14).past (Nat.le_refl _) hb15) (HS14.out.past (Nat.le_refl _) hb15) HI15.out).mono ?_); rintro e w16 ⟨rfl, hb16⟩)))
  have HB16 := Lib.hid (show Below w.heap.size w w16 from pt (pt (pt (pt (pd HB12.out) hb13) hb14) hb15) hb16)
  have HBl16 := Lib.hid (show Below w12.heap.size w12 w16 from pt (pt (pt (pt (pd pr) hb13) hb14) hb15) hb16)
  have R16 := Lib.hid (R12.out.past HBl16.out)
  have K16 := Lib.hid (K12.out.past HBl16.out)
  have V716 := Lib.hid (V712.out.past HBl16.out)
  clear HSS xl yl hs13 hs14 hi15 hb13 hb14 hb15 hb16 HS13 HS14 HI15 R12 K12 V712 HB12
  have x0 := R16.out.cellAt 0 rfl; have y0 := K16.out.cellAt 0 rfl; have y1 := K16.out.cellAt 1 rfl; have y2 := K16.out.cellAt 2 rfl; have xl := R16.out.lt; have yl := K16.out.lt
  clear HBl12 HBl16 HMa HMe HCk HCr HCi HUn
  go_wp2_with (first
    | (go_at_call 30; refine (HRs.out _ HB16.out).mono ?_; rintro e w17 ⟨rfl, hb⟩; have V717 := Lib.hid (V716.out.past hb); have HB17 := Lib.hid (pt HB16.out hb); have R17 := Lib.hid (R16.out.past hb); have K17 := Lib.hid (K16.out.past hb); clear x0 y0 y1 y2 xl yl; clear hb; have x0 := R17.out.cellAt 0 rfl; have y0 := K17.out.cellAt 0 rfl; have y1 := K17.out.cellAt 1 rfl; have y2 := K17.out.cellAt 2 rfl; have xl := R17.out.lt; have yl := K17.out.lt; have v0 := V717.out.cellAt 0 rfl; have v1 := V717.out.cellAt 1 rfl; have v2 := V717.out.cellAt 2 rfl; have v3 := V717.out.cellAt 3 rfl; have v4 := V717.out.cellAt 4 rfl; have v5 := V717.out.cellAt 5 rfl; have v6 := V717.out.cellAt 6 rfl; have v7 := V717.out.cellAt 7 rfl; have v8 := V717.out.cellAt 8 rfl; have v9 := V717.out.cellAt 9 rfl; have v10 := V717.out.cellAt 10 rfl; have v11 := V717.out.cellAt 11 rfl; have vl := V717.out.lt)
    | (go_at_call 23; refine (HRc.out _ HB17.out).mono ?_; rintro e w18 ⟨rfl, hb⟩; have V718 := Lib.hid (V717.out.past hb); clear v0 v1 v2 v3 v4 v5 v6 v7 v8 v9 v10 v11 vl; have HB18 := Lib.hid (pt HB17.out hb); have R18 := Lib.hid (R17.out.past hb); have K18 := Lib.hid (K17.out.past hb); clear x0 y0 y1 y2 xl yl; clear hb; have x0 := R18.out.cellAt 0 rfl; have y0 := K18.out.cellAt 0 rfl; have y1 := K18.out.cellAt 1 rfl; have y2 := K18.out.cellAt 2 rfl; have xl := R18.out.lt; have yl := K18.out.lt; have v0 := V718.out.cellAt 0 rfl; have v1 := V718.out.cellAt 1 rfl; have v2 := V718.out.cellAt 2 rfl; have v3 := V718.out.cellAt 3 rfl; have v4 := V718.out.cellAt 4 rfl; have v5 := V718.out.cellAt 5 rfl; have v6 := V718.out.cellAt 6 rfl; have v7 := V718.out.cellAt 7 rfl; have v8 := V718.out.cellAt 8 rfl; have v9 := V718.out.cellAt 9 rfl; have v10 := V718.out.cellAt 10 rfl; have v11 := V718.out.cellAt 11 rfl; have vl := V718.out.lt))
  refine region_below 46 follows_mixed (by kernel_rfl) ?_
  intro C hC
  simp only [List.take_succ_cons, List.take_zero, List.drop_succ_cons, List.drop_zero]
  repeat (first
    | ((with_reducible refine quiet_plain rfl (fun K hK => ?_)); (focus (apply quiet_val; (focus (intro w' hw; obtain ⟨hcq, hfq⟩ := bcell ((hC.out _).1 hw); go_simp; (first | done | rfl | (with_reducible exact call_below hC hw (HRV.out _ (pt HB18.out ((hC.out _).1 hw)))) | (with_reducible exact call_below hC hw (HRC.out _ (pt HB18.out ((hC.out _).1 hw))))))); (simp only [Act.put, List.setIfInBounds_toArray, List.set_cons_succ, List.set_cons_zero]); (with_reducible refine hK _ ?_); clear hK K)))
    | ((with_reducible refine quiet_skip ?_ ?_); (focus (first | (simp [Region.wanted, yielded]; done) | (simp [Region.wanted, yielded, undef]; done))); simp only [Act.put, List.setIfInBounds_toArray, List.set_cons_succ, List.set_cons_zero])
    | ((with_reducible refine quiet_go ?_ (fun K hK => ?_)); (focus (first | (simp [Region.wanted, yielded]; done) | (simp [Region.wanted, yielded, undef]; done))); (focus (apply quiet_val; (focus (intro w' hw; obtain ⟨hcq, hfq⟩ := bcell ((hC.out _).1 hw); go_simp; (first | done | rfl | (with_reducible exact call_below hC hw (HRV.out _ (pt HB18.out ((hC.out _).1 hw)))) | (with_reducible exact call_below hC hw (HRC.out _ (pt HB18.out ((hC.out _).1 hw))))))); (simp only [Act.put, List.setIfInBounds_toArray, List.set_cons_succ, List.set_cons_zero]); (with_reducible refine hK _ ?_); clear hK K))))
  refine wpQuiet_nil ?_
  intro w1 hb1
  replace hb1 := (hC.out _).1 hb1
  clear hC C
  obtain ⟨hc1, hf1⟩ := bcell hb1
  have HBz := Lib.hid (pt HB18.out hb1)
  have Rz := Lib.hid (R18.out.past hb1)
  have Kz := Lib.hid (K18.out.past hb1)
  clear x0 y0 y1 y2 xl yl hb1 hc1 hf1 v0 v1 v2 v3 v4 v5 v6 v7 v8 v9 v10 v11 vl
  have x0 := Rz.out.cellAt 0 rfl; have y0 := Kz.out.cellAt 0 rfl; have y1 := Kz.out.cellAt 1 rfl; have y2 := Kz.out.cellAt 2 rfl; have xl := Rz.out.lt; have yl := Kz.out.lt
  go_wp2_with (first
    | (go_at_call 32; refine (HRp.out _ HBz.out).mono ?_; rintro e w19 ⟨rfl, hb⟩; have HC19 := Lib.hid trivial; have HB19 := Lib.hid (pt HBz.out hb); have R19 := Lib.hid (Rz.out.past hb); have K19 := Lib.hid (Kz.out.past hb); clear x0 y0 y1 y2 xl yl; clear hb; have x0 := R19.out.cellAt 0 rfl; have y0 := K19.out.cellAt 0 rfl; have y1 := K19.out.cellAt 1 rfl; have y2 := K19.out.cellAt 2 rfl; have xl := R19.out.lt; have yl := K19.out.lt))
  go_ret
  exact ⟨rfl, HB19.out⟩

end Go.Proofs.YtncbigkkmgnkmaaGreatDoor
end
