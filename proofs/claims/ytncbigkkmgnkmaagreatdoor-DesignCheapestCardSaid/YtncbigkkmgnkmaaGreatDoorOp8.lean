/- The law DesignCheapest: the walk. Printed by a program (gen_e3che.py). -/
import Derived.Test.YtncbigkkmgnkmaaGreatDoorOp6
import Derived.Test.YtncbigkkmgnkmaaGreatDoorOp7
import Derived.Test.YtncbigkkmgnkmaaGreatDoorOn6
import Derived.Test.YtncbigkkmgnkmaaGreatDoorOn5

section
namespace Go.Proofs.YtncbigkkmgnkmaaGreatDoor
open Go.RowKit

theorem intsB_self (xs : List Int) : intsB xs xs = true := by
  unfold intsB
  simp

set_option maxRecDepth 100000 in
set_option maxHeartbeats 4000000 in
theorem cheap_far (B : Nat) (rs : List DReq) (RA : Option Addr) (rn rc : Nat) (sl : List (List DPart)) (A : Option Addr) (n c : Nat) (idle price : Int) (w : World) (hU : UnitIn w) (hQ : TabS 1 qWords w) (hW : TabS 0 uWords w) (hrr : ReqsIn B w RA rs) (hr : SlotsIn B w A sl) (hB : B ≤ w.heap.size) (hrn : rs.length = rn) (hn : sl.length = n) (_h6 : Six sl) (hf : ¬ FewP rs sl) :
    Calls Tryz.prog 3 #[.agg #[.slice RA rn rc], .agg #[.slice A n c, .int .i64 idle, .int .i64 price]] w fun e w' => e = .returned (.bool true) ∧ Below w.heap.size w w' := by
  have HAw := Lib.hid (awake_any ((w.alloc (.cells #[.slice RA rn rc] 24)).alloc (.cells #[.slice A n c, .int .i64 idle, .int .i64 price] 27)) (hU.below (pa (pa pr))) (hQ.below (pa (pa pr))) (hW.below (pa (pa pr))))
  have HFe := Lib.hid (fun W (hW : Below w.heap.size w W) => (show Calls Tryz.prog 8 #[.agg #[.slice RA rn rc], .agg #[.slice A n c, .int .i64 idle, .int .i64 price]] W fun e w' => e = .returned (.bool false) ∧ Below W.heap.size W w' from (few_any B rs RA rn rc sl A n c idle price W (hrr.below (hW.mono hB)) (hr.below (hW.mono hB)) (Nat.le_trans hB hW.size) hrn hn).mono fun e w' h => by
    obtain ⟨⟨f, rfl, hfi⟩, hb⟩ := h
    cases f
    · exact ⟨rfl, hb⟩
    · exact absurd (hfi.1 rfl) hf))
  have HB0 := Lib.hid (show Below w.heap.size w ((w.alloc (.cells #[.slice RA rn rc] 24)).alloc (.cells #[.slice A n c, .int .i64 idle, .int .i64 price] 27)) from pa (pa pr))
  have R0 := Lib.hid (show Blk ((w.alloc (.cells #[.slice RA rn rc] 24)).alloc (.cells #[.slice A n c, .int .i64 idle, .int .i64 price] 27)) w.heap.size 24 #[.slice RA rn rc] from (Blk.newAt rfl).alloc)
  have K0 := Lib.hid (show Blk ((w.alloc (.cells #[.slice RA rn rc] 24)).alloc (.cells #[.slice A n c, .int .i64 idle, .int .i64 price] 27)) (w.heap.size + 1) 27 #[.slice A n c, .int .i64 idle, .int .i64 price] from Blk.newAt (by simp))
  clear hU hQ hW hrr hr hn hrn _h6
  go_enter Tryz.func3, Tryz.ntmps3
  go_wp2_with (first
    | (go_at_call 7; refine HAw.out.mono ?_; rintro e w1 ⟨rfl, hb⟩; have HB1 := Lib.hid (pt HB0.out hb); have R1 := Lib.hid (R0.out.past hb); have K1 := Lib.hid (K0.out.past hb); clear hb; have x0 := R1.out.cellAt 0 rfl; have y0 := K1.out.cellAt 0 rfl; have y1 := K1.out.cellAt 1 rfl; have y2 := K1.out.cellAt 2 rfl; have xl := R1.out.lt; have yl := K1.out.lt)
    | (go_at_call 8; refine (HFe.out _ HB1.out).mono ?_; rintro e w2 ⟨rfl, hb⟩; have HB2 := Lib.hid (pt HB1.out hb); have R2 := Lib.hid (R1.out.past hb); have K2 := Lib.hid (K1.out.past hb); clear x0 y0 y1 y2 xl yl; clear hb; have x0 := R2.out.cellAt 0 rfl; have y0 := K2.out.cellAt 0 rfl; have y1 := K2.out.cellAt 1 rfl; have y2 := K2.out.cellAt 2 rfl; have xl := R2.out.lt; have yl := K2.out.lt))
  go_ret
  exact ⟨rfl, HB2.out⟩

set_option maxRecDepth 100000 in
set_option maxHeartbeats 8000000 in
theorem cheap_err (B : Nat) (rs : List DReq) (RA : Option Addr) (rn rc : Nat) (sl : List (List DPart)) (A : Option Addr) (n c : Nat) (idle price : Int) (w : World) (hU : UnitIn w) (hQ : TabS 1 qWords w) (hW : TabS 0 uWords w) (hrr : ReqsIn B w RA rs) (hr : SlotsIn B w A sl) (hB : B ≤ w.heap.size) (hrn : rs.length = rn) (hn : sl.length = n) (_h6 : Six sl) (hf : FewP rs sl) (h0 : openE rs idle price sl ≠ 0) :
    Calls Tryz.prog 3 #[.agg #[.slice RA rn rc], .agg #[.slice A n c, .int .i64 idle, .int .i64 price]] w fun e w' => e = .returned (.bool true) ∧ Below w.heap.size w w' := by
  obtain ⟨f1, f2, f3, f4⟩ := few_bd2 hf
  have hn7 : n ≤ 7 := by omega
  have hr8 : rn ≤ 8 := by omega
  have HAw := Lib.hid (awake_any ((w.alloc (.cells #[.slice RA rn rc] 24)).alloc (.cells #[.slice A n c, .int .i64 idle, .int .i64 price] 27)) (hU.below (pa (pa pr))) (hQ.below (pa (pa pr))) (hW.below (pa (pa pr))))
  have HFe := Lib.hid (fun W (hW : Below w.heap.size w W) => (show Calls Tryz.prog 8 #[.agg #[.slice RA rn rc], .agg #[.slice A n c, .int .i64 idle, .int .i64 price]] W fun e w' => e = .returned (.bool true) ∧ Below W.heap.size W w' from (few_any B rs RA rn rc sl A n c idle price W (hrr.below (hW.mono hB)) (hr.below (hW.mono hB)) (Nat.le_trans hB hW.size) hrn hn).mono fun e w' h => by
    obtain ⟨⟨f, rfl, hfi⟩, hb⟩ := h
    cases f
    · exact absurd (hfi.2 hf) (by decide)
    · exact ⟨rfl, hb⟩))
  have HCk := Lib.hid (fun W (hW : Below w.heap.size w W) => (show Calls Tryz.prog 13 #[.agg #[.slice A n c, .int .i64 idle, .int .i64 price]] W fun e w' => ∃ A2 c2, e = .returned (.agg #[.slice A2 n c2, .int .i64 idle, .int .i64 price]) ∧ SlotsIn w'.heap.size w' A2 sl ∧ Below W.heap.size W w' from (copyStock_any B sl A n c idle price W (hr.below (hW.mono hB)) (Nat.le_trans hB hW.size) hn (by omega) (fun l hl => (f4 l hl).1)).mono fun e w' h => by
    obtain ⟨A2, c2, rfl, h2, _, h3⟩ := h
    rw [hn]
    exact ⟨A2, c2, rfl, h2, h3⟩))
  have HCr := Lib.hid (fun W (hW : Below w.heap.size w W) => (show Calls Tryz.prog 12 #[.agg #[.slice RA rn rc]] W fun e w' => ∃ A2 c2, e = .returned (.agg #[.slice A2 rn c2]) ∧ ReqsIn w'.heap.size w' A2 rs ∧ Below W.heap.size W w' from (copySpec_any B rs RA rn rc W (hrr.below (hW.mono hB)) (Nat.le_trans hB hW.size) hrn (by omega) f2).mono fun e w' h => by
    obtain ⟨A2, c2, rfl, h2, _, h3⟩ := h
    rw [hrn]
    exact ⟨A2, c2, rfl, h2, h3⟩))
  have HBo := Lib.hid (fun W (hW : Below w.heap.size w W) => bothErr_any B rs RA rn rc sl A n c idle price W (hrr.below (hW.mono hB)) (hr.below (hW.mono hB)) (Nat.le_trans hB hW.size) hrn hn (by omega) f2 f4)
  have HCh := Lib.hid (fun (W : World) A1 c1 A2 c2 (hU : UnitIn W) (hx : ReqsIn W.heap.size W A1 rs) (hy : SlotsIn W.heap.size W A2 sl) => (cheapest_err W.heap.size rs A1 rn c1 sl A2 n c2 idle price W hx hy (Nat.le_refl _) hrn (by omega) f2 hU hn (by omega) f4 h0))
  have HCo := Lib.hid (fun (W : World) A1 c1 A2 c2 (hU : UnitIn W) (hx : ReqsIn W.heap.size W A1 rs) (hy : SlotsIn W.heap.size W A2 sl) => (contradicting_err W.heap.size rs A1 rn c1 sl A2 n c2 idle price W hx hy (Nat.le_refl _) hrn (by omega) f2 hU hn (by omega) f4 h0))
  have HUn := Lib.hid (fun W (hW' : Below w.heap.size w W) => hU.below hW')
  have HB0 := Lib.hid (show Below w.heap.size w ((w.alloc (.cells #[.slice RA rn rc] 24)).alloc (.cells #[.slice A n c, .int .i64 idle, .int .i64 price] 27)) from pa (pa pr))
  have R0 := Lib.hid (show Blk ((w.alloc (.cells #[.slice RA rn rc] 24)).alloc (.cells #[.slice A n c, .int .i64 idle, .int .i64 price] 27)) w.heap.size 24 #[.slice RA rn rc] from (Blk.newAt rfl).alloc)
  have K0 := Lib.hid (show Blk ((w.alloc (.cells #[.slice RA rn rc] 24)).alloc (.cells #[.slice A n c, .int .i64 idle, .int .i64 price] 27)) (w.heap.size + 1) 27 #[.slice A n c, .int .i64 idle, .int .i64 price] from Blk.newAt (by simp))
  have z1 : (openE rs idle price sl == 0) = false := by simpa using h0
  have z2 : (openE rs idle price sl != 0) = true := by simpa using h0
  generalize openE rs idle price sl = E at *
  clear hU hQ hW hrr hr hn hrn _h6 f1 f2 f3 f4 h0
  go_enter Tryz.func3, Tryz.ntmps3
  go_wp2_with (first
    | (go_at_call 7; refine HAw.out.mono ?_; rintro e w1 ⟨rfl, hb⟩; have HB1 := Lib.hid (pt HB0.out hb); have R1 := Lib.hid (R0.out.past hb); have K1 := Lib.hid (K0.out.past hb); clear hb; have x0 := R1.out.cellAt 0 rfl; have y0 := K1.out.cellAt 0 rfl; have y1 := K1.out.cellAt 1 rfl; have y2 := K1.out.cellAt 2 rfl; have xl := R1.out.lt; have yl := K1.out.lt)
    | (go_at_call 8; refine (HFe.out _ HB1.out).mono ?_; rintro e w2 ⟨rfl, hb⟩; have HB2 := Lib.hid (pt HB1.out hb); have R2 := Lib.hid (R1.out.past hb); have K2 := Lib.hid (K1.out.past hb); clear x0 y0 y1 y2 xl yl; clear hb; have x0 := R2.out.cellAt 0 rfl; have y0 := K2.out.cellAt 0 rfl; have y1 := K2.out.cellAt 1 rfl; have y2 := K2.out.cellAt 2 rfl; have xl := R2.out.lt; have yl := K2.out.lt)
    | (go_at_call 9; refine (HBo.out _ HB2.out).mono ?_; rintro e w3 ⟨rfl, hb⟩; have HB3 := Lib.hid (pt HB2.out hb); have R3 := Lib.hid (R2.out.past hb); have K3 := Lib.hid (K2.out.past hb); clear x0 y0 y1 y2 xl yl; clear hb; have x0 := R3.out.cellAt 0 rfl; have y0 := K3.out.cellAt 0 rfl; have y1 := K3.out.cellAt 1 rfl; have y2 := K3.out.cellAt 2 rfl; have xl := R3.out.lt; have yl := K3.out.lt))
  clear R0 R1 R2 K0 K1 K2 HB0 HB1 HB2 HAw HFe
  have HSS := Lib.hid (show ∀ W, Hid (Below w3.heap.size w3 W) → Hid (Below w3.heap.size w3 W) ∧ W.cell? ⟨w.heap.size, 0, none⟩ = some (.slice RA rn rc) ∧ W.cell? ⟨w.heap.size + 1, 0, none⟩ = some (.slice A n c) ∧ W.cell? ⟨w.heap.size + 1, 1, none⟩ = some (.int .i64 idle) ∧ W.cell? ⟨w.heap.size + 1, 2, none⟩ = some (.int .i64 price) from fun W hW => ⟨hW, (R3.out.past hW.out).cellAt 0 rfl, (K3.out.past hW.out).cellAt 0 rfl, (K3.out.past hW.out).cellAt 1 rfl, (K3.out.past hW.out).cellAt 2 rfl⟩)
  clear x0 y0 y1 y2
  go_region_held3 (fun w' => Hid (Below w3.heap.size w3 w') ∧ w'.cell? ⟨w.heap.size, 0, none⟩ = some (.slice RA rn rc) ∧ w'.cell? ⟨w.heap.size + 1, 0, none⟩ = some (.slice A n c) ∧ w'.cell? ⟨w.heap.size + 1, 1, none⟩ = some (.int .i64 idle) ∧ w'.cell? ⟨w.heap.size + 1, 2, none⟩ = some (.int .i64 price)) ((refine HSS.out _ (Lib.hid ?_); repeat (first | assumption | (with_reducible exact pr) | (with_reducible refine pd ?_) | (with_reducible refine pa ?_) | (with_reducible refine pt ?_ (by assumption)))))
    ((first
      | (go_at_call 12; (with_reducible refine (HCr.out _ (pd HB3.out)).mono ?_); rintro e w4 ⟨A4, c4, rfl, hs4, hb4⟩; have HS4 := Lib.hid hs4)
      | (go_at_call 13; (with_reducible refine (HCk.out _ (pt (pd HB3.out) hb4)).mono ?_); rintro e w5 ⟨A5, c5, rfl, hs5, hb5⟩; have HS5 := Lib.hid hs5)
      | (go_at_call 11; (with_reducible refine (HCh.out _ A4 c4 A5 c5 (HUn.out _ (pt (pt (pd HB3.out) hb4) hb5)) (HS4.out.past (Nat.le_refl _) hb5) HS5.out).mono ?_); rintro e w6 ⟨A6, c6, rfl, _, _, hb6⟩)))
  have HB6 := Lib.hid (show Below w.heap.size w w6 from pt (pt (pt (pd HB3.out) hb4) hb5) hb6)
  have HBl6 := Lib.hid (show Below w3.heap.size w3 w6 from pt (pt (pt (pd pr) hb4) hb5) hb6)
  have R6 := Lib.hid (R3.out.past HBl6.out)
  have K6 := Lib.hid (K3.out.past HBl6.out)
  clear HSS xl yl hs4 hs5 hb4 hb5 hb6 HS4 HS5 R3 K3 HB3
  have x0 := R6.out.cellAt 0 rfl; have y0 := K6.out.cellAt 0 rfl; have y1 := K6.out.cellAt 1 rfl; have y2 := K6.out.cellAt 2 rfl; have xl := R6.out.lt; have yl := K6.out.lt
  go_wp2
  have HSS := Lib.hid (show ∀ W, Hid (Below w6.heap.size w6 W) → Hid (Below w6.heap.size w6 W) ∧ W.cell? ⟨w.heap.size, 0, none⟩ = some (.slice RA rn rc) ∧ W.cell? ⟨w.heap.size + 1, 0, none⟩ = some (.slice A n c) ∧ W.cell? ⟨w.heap.size + 1, 1, none⟩ = some (.int .i64 idle) ∧ W.cell? ⟨w.heap.size + 1, 2, none⟩ = some (.int .i64 price) from fun W hW => ⟨hW, (R6.out.past hW.out).cellAt 0 rfl, (K6.out.past hW.out).cellAt 0 rfl, (K6.out.past hW.out).cellAt 1 rfl, (K6.out.past hW.out).cellAt 2 rfl⟩)
  clear x0 y0 y1 y2
  go_region_held3 (fun w' => Hid (Below w6.heap.size w6 w') ∧ w'.cell? ⟨w.heap.size, 0, none⟩ = some (.slice RA rn rc) ∧ w'.cell? ⟨w.heap.size + 1, 0, none⟩ = some (.slice A n c) ∧ w'.cell? ⟨w.heap.size + 1, 1, none⟩ = some (.int .i64 idle) ∧ w'.cell? ⟨w.heap.size + 1, 2, none⟩ = some (.int .i64 price)) ((refine HSS.out _ (Lib.hid ?_); repeat (first | assumption | (with_reducible exact pr) | (with_reducible refine pd ?_) | (with_reducible refine pa ?_) | (with_reducible refine pt ?_ (by assumption)))))
    ((first
      | (go_at_call 12; (with_reducible refine (HCr.out _ (pd HB6.out)).mono ?_); rintro e w7 ⟨A7, c7, rfl, hs7, hb7⟩; have HS7 := Lib.hid hs7)
      | (go_at_call 13; (with_reducible refine (HCk.out _ (pt (pd HB6.out) hb7)).mono ?_); rintro e w8 ⟨A8, c8, rfl, hs8, hb8⟩; have HS8 := Lib.hid hs8)
      | (go_at_call 14; (with_reducible refine (HCo.out _ A7 c7 A8 c8 (HUn.out _ (pt (pt (pd HB6.out) hb7) hb8)) (HS7.out.past (Nat.le_refl _) hb8) HS8.out).mono ?_); rintro e w9 ⟨A9, c9, rfl, _, _, hb9⟩)))
  have HB9 := Lib.hid (show Below w.heap.size w w9 from pt (pt (pt (pd HB6.out) hb7) hb8) hb9)
  have HBl9 := Lib.hid (show Below w6.heap.size w6 w9 from pt (pt (pt (pd pr) hb7) hb8) hb9)
  have R9 := Lib.hid (R6.out.past HBl9.out)
  have K9 := Lib.hid (K6.out.past HBl9.out)
  clear HSS xl yl hs7 hs8 hb7 hb8 hb9 HS7 HS8 R6 K6 HB6
  have x0 := R9.out.cellAt 0 rfl; have y0 := K9.out.cellAt 0 rfl; have y1 := K9.out.cellAt 1 rfl; have y2 := K9.out.cellAt 2 rfl; have xl := R9.out.lt; have yl := K9.out.lt
  go_wp2_with (first
    | (go_at_call 9; refine (HBo.out _ HB9.out).mono ?_; rintro e w10 ⟨rfl, hb⟩; have HB10 := Lib.hid (pt HB9.out hb); have R10 := Lib.hid (R9.out.past hb); have K10 := Lib.hid (K9.out.past hb); clear x0 y0 y1 y2 xl yl; clear hb; have x0 := R10.out.cellAt 0 rfl; have y0 := K10.out.cellAt 0 rfl; have y1 := K10.out.cellAt 1 rfl; have y2 := K10.out.cellAt 2 rfl; have xl := R10.out.lt; have yl := K10.out.lt))
  go_ret
  exact ⟨rfl, HB10.out⟩

set_option maxRecDepth 100000 in
set_option maxHeartbeats 4000000 in
theorem cheap_large (B : Nat) (rs : List DReq) (RA : Option Addr) (rn rc : Nat) (sl : List (List DPart)) (A : Option Addr) (n c : Nat) (idle price : Int) (w : World) (hU : UnitIn w) (hQ : TabS 1 qWords w) (hW : TabS 0 uWords w) (hrr : ReqsIn B w RA rs) (hr : SlotsIn B w A sl) (hB : B ≤ w.heap.size) (hrn : rs.length = rn) (hn : sl.length = n) (_h6 : Six sl) (hf : FewP rs sl) (h0 : openE rs idle price sl = 0) (hb : lightB sl = false) :
    Calls Tryz.prog 3 #[.agg #[.slice RA rn rc], .agg #[.slice A n c, .int .i64 idle, .int .i64 price]] w fun e w' => e = .returned (.bool true) ∧ Below w.heap.size w w' := by
  obtain ⟨f1, f2, f3, f4⟩ := few_bd2 hf
  have hn7 : n ≤ 7 := by omega
  have hr8 : rn ≤ 8 := by omega
  have HAw := Lib.hid (awake_any ((w.alloc (.cells #[.slice RA rn rc] 24)).alloc (.cells #[.slice A n c, .int .i64 idle, .int .i64 price] 27)) (hU.below (pa (pa pr))) (hQ.below (pa (pa pr))) (hW.below (pa (pa pr))))
  have HFe := Lib.hid (fun W (hW : Below w.heap.size w W) => (show Calls Tryz.prog 8 #[.agg #[.slice RA rn rc], .agg #[.slice A n c, .int .i64 idle, .int .i64 price]] W fun e w' => e = .returned (.bool true) ∧ Below W.heap.size W w' from (few_any B rs RA rn rc sl A n c idle price W (hrr.below (hW.mono hB)) (hr.below (hW.mono hB)) (Nat.le_trans hB hW.size) hrn hn).mono fun e w' h => by
    obtain ⟨⟨f, rfl, hfi⟩, hb⟩ := h
    cases f
    · exact absurd (hfi.2 hf) (by decide)
    · exact ⟨rfl, hb⟩))
  have HBo := Lib.hid (fun W (hW : Below w.heap.size w W) => bothErr_any B rs RA rn rc sl A n c idle price W (hrr.below (hW.mono hB)) (hr.below (hW.mono hB)) (Nat.le_trans hB hW.size) hrn hn (by omega) f2 f4)
  have HLi := Lib.hid (fun W (hW : Below w.heap.size w W) => light_any B sl A n c idle price W (hr.below (hW.mono hB)) (Nat.le_trans hB hW.size) hn (by omega) (fun l hl => (f4 l hl).1))
  rw [h0] at HBo
  rw [hb] at HLi
  have HB0 := Lib.hid (show Below w.heap.size w ((w.alloc (.cells #[.slice RA rn rc] 24)).alloc (.cells #[.slice A n c, .int .i64 idle, .int .i64 price] 27)) from pa (pa pr))
  have R0 := Lib.hid (show Blk ((w.alloc (.cells #[.slice RA rn rc] 24)).alloc (.cells #[.slice A n c, .int .i64 idle, .int .i64 price] 27)) w.heap.size 24 #[.slice RA rn rc] from (Blk.newAt rfl).alloc)
  have K0 := Lib.hid (show Blk ((w.alloc (.cells #[.slice RA rn rc] 24)).alloc (.cells #[.slice A n c, .int .i64 idle, .int .i64 price] 27)) (w.heap.size + 1) 27 #[.slice A n c, .int .i64 idle, .int .i64 price] from Blk.newAt (by simp))
  clear hU hQ hW hrr hr hn hrn _h6 f1 f2 f3 f4 h0 hb
  go_enter Tryz.func3, Tryz.ntmps3
  go_wp2_with (first
    | (go_at_call 7; refine HAw.out.mono ?_; rintro e w1 ⟨rfl, hb⟩; have HB1 := Lib.hid (pt HB0.out hb); have R1 := Lib.hid (R0.out.past hb); have K1 := Lib.hid (K0.out.past hb); clear hb; have x0 := R1.out.cellAt 0 rfl; have y0 := K1.out.cellAt 0 rfl; have y1 := K1.out.cellAt 1 rfl; have y2 := K1.out.cellAt 2 rfl; have xl := R1.out.lt; have yl := K1.out.lt)
    | (go_at_call 8; refine (HFe.out _ HB1.out).mono ?_; rintro e w2 ⟨rfl, hb⟩; have HB2 := Lib.hid (pt HB1.out hb); have R2 := Lib.hid (R1.out.past hb); have K2 := Lib.hid (K1.out.past hb); clear x0 y0 y1 y2 xl yl; clear hb; have x0 := R2.out.cellAt 0 rfl; have y0 := K2.out.cellAt 0 rfl; have y1 := K2.out.cellAt 1 rfl; have y2 := K2.out.cellAt 2 rfl; have xl := R2.out.lt; have yl := K2.out.lt)
    | (go_at_call 9; refine (HBo.out _ HB2.out).mono ?_; rintro e w3 ⟨rfl, hb⟩; have HB3 := Lib.hid (pt HB2.out hb); have R3 := Lib.hid (R2.out.past hb); have K3 := Lib.hid (K2.out.past hb); clear x0 y0 y1 y2 xl yl; clear hb; have x0 := R3.out.cellAt 0 rfl; have y0 := K3.out.cellAt 0 rfl; have y1 := K3.out.cellAt 1 rfl; have y2 := K3.out.cellAt 2 rfl; have xl := R3.out.lt; have yl := K3.out.lt)
    | (go_at_call 10; refine (HLi.out _ HB3.out).mono ?_; rintro e w4 ⟨rfl, hb⟩; have HB4 := Lib.hid (pt HB3.out hb); have R4 := Lib.hid (R3.out.past hb); have K4 := Lib.hid (K3.out.past hb); clear x0 y0 y1 y2 xl yl; clear hb; have x0 := R4.out.cellAt 0 rfl; have y0 := K4.out.cellAt 0 rfl; have y1 := K4.out.cellAt 1 rfl; have y2 := K4.out.cellAt 2 rfl; have xl := R4.out.lt; have yl := K4.out.lt))
  go_ret
  exact ⟨rfl, HB4.out⟩

set_option maxRecDepth 100000 in
set_option maxHeartbeats 16000000 in
theorem cheap_none (B : Nat) (rs : List DReq) (RA : Option Addr) (rn rc : Nat) (sl : List (List DPart)) (A : Option Addr) (n c : Nat) (idle price : Int) (w : World) (hU : UnitIn w) (hQ : TabS 1 qWords w) (hW : TabS 0 uWords w) (hrr : ReqsIn B w RA rs) (hr : SlotsIn B w A sl) (hB : B ≤ w.heap.size) (hrn : rs.length = rn) (hn : sl.length = n) (h6 : Six sl) (hf : FewP rs sl) (h0 : openE rs idle price sl = 0) (hb : lightB sl = true) (s : List Int) (hT : cheaF rs idle price sl (allC (slotN sl)) = none) (hC : contrV rs sl = some s) :
    Calls Tryz.prog 3 #[.agg #[.slice RA rn rc], .agg #[.slice A n c, .int .i64 idle, .int .i64 price]] w fun e w' => e = .returned (.bool true) ∧ Below w.heap.size w w' := by
  obtain ⟨f1, f2, f3, f4⟩ := few_bd2 hf
  have hn7 : n ≤ 7 := by omega
  have hr8 : rn ≤ 8 := by omega
  have hok := openE_ok h6 h0
  have HAw := Lib.hid (awake_any ((w.alloc (.cells #[.slice RA rn rc] 24)).alloc (.cells #[.slice A n c, .int .i64 idle, .int .i64 price] 27)) (hU.below (pa (pa pr))) (hQ.below (pa (pa pr))) (hW.below (pa (pa pr))))
  have HFe := Lib.hid (fun W (hW : Below w.heap.size w W) => (show Calls Tryz.prog 8 #[.agg #[.slice RA rn rc], .agg #[.slice A n c, .int .i64 idle, .int .i64 price]] W fun e w' => e = .returned (.bool true) ∧ Below W.heap.size W w' from (few_any B rs RA rn rc sl A n c idle price W (hrr.below (hW.mono hB)) (hr.below (hW.mono hB)) (Nat.le_trans hB hW.size) hrn hn).mono fun e w' h => by
    obtain ⟨⟨f, rfl, hfi⟩, hb⟩ := h
    cases f
    · exact absurd (hfi.2 hf) (by decide)
    · exact ⟨rfl, hb⟩))
  have HCk := Lib.hid (fun W (hW : Below w.heap.size w W) => (show Calls Tryz.prog 13 #[.agg #[.slice A n c, .int .i64 idle, .int .i64 price]] W fun e w' => ∃ A2 c2, e = .returned (.agg #[.slice A2 n c2, .int .i64 idle, .int .i64 price]) ∧ SlotsIn w'.heap.size w' A2 sl ∧ Below W.heap.size W w' from (copyStock_any B sl A n c idle price W (hr.below (hW.mono hB)) (Nat.le_trans hB hW.size) hn (by omega) (fun l hl => (f4 l hl).1)).mono fun e w' h => by
    obtain ⟨A2, c2, rfl, h2, _, h3⟩ := h
    rw [hn]
    exact ⟨A2, c2, rfl, h2, h3⟩))
  have HCr := Lib.hid (fun W (hW : Below w.heap.size w W) => (show Calls Tryz.prog 12 #[.agg #[.slice RA rn rc]] W fun e w' => ∃ A2 c2, e = .returned (.agg #[.slice A2 rn c2]) ∧ ReqsIn w'.heap.size w' A2 rs ∧ Below W.heap.size W w' from (copySpec_any B rs RA rn rc W (hrr.below (hW.mono hB)) (Nat.le_trans hB hW.size) hrn (by omega) f2).mono fun e w' h => by
    obtain ⟨A2, c2, rfl, h2, _, h3⟩ := h
    rw [hrn]
    exact ⟨A2, c2, rfl, h2, h3⟩))
  have HBo := Lib.hid (fun W (hW : Below w.heap.size w W) => bothErr_any B rs RA rn rc sl A n c idle price W (hrr.below (hW.mono hB)) (hr.below (hW.mono hB)) (Nat.le_trans hB hW.size) hrn hn (by omega) f2 f4)
  have HLi := Lib.hid (fun W (hW : Below w.heap.size w W) => light_any B sl A n c idle price W (hr.below (hW.mono hB)) (Nat.le_trans hB hW.size) hn (by omega) (fun l hl => (f4 l hl).1))

  have HCh := Lib.hid (fun (W : World) A1 c1 A2 c2 (hU : UnitIn W) (hx : ReqsIn W.heap.size W A1 rs) (hy : SlotsIn W.heap.size W A2 sl) => (show Calls Tryz.prog 11 #[.agg #[.slice A1 rn c1], .agg #[.slice A2 n c2, .int .i64 idle, .int .i64 price]] W fun e w' => ∃ A2 c2, e = .returned (.tuple #[.slice A2 0 c2, .int .i64 0, .int .i64 12]) ∧ Below W.heap.size W w' by
    have h := cheapest_ok W.heap.size rs A1 rn c1 sl A2 n c2 idle price W hx hy (Nat.le_refl _) hrn (by omega) f2 hU hn (by omega) f4 h6 h0
    rw [hT] at h
    refine h.mono fun e w' h9 => ?_
    obtain ⟨A2, c2, rfl, h7, _, h8⟩ := h9
    exact ⟨A2, c2, rfl, h8⟩))
  have HCo := Lib.hid (fun (W : World) A1 c1 A2 c2 (hU : UnitIn W) (hx : ReqsIn W.heap.size W A1 rs) (hy : SlotsIn W.heap.size W A2 sl) => (show Calls Tryz.prog 14 #[.agg #[.slice A1 rn c1], .agg #[.slice A2 n c2, .int .i64 idle, .int .i64 price]] W fun e w' => ∃ A2 c2, e = .returned (.tuple #[.slice A2 s.length c2, .int .i64 0]) ∧ IntsIn w'.heap.size w' A2 s ∧ Below W.heap.size W w' by
    have h := contradicting_any W.heap.size rs A1 rn c1 sl A2 n c2 idle price W hx hy (Nat.le_refl _) hrn (by omega) f2 hU hn (by omega) f4 h6
    unfold ctrL ctrE at h
    rw [if_pos h0, if_pos h0, hC] at h
    refine h.mono fun e w' h9 => ?_
    obtain ⟨A2, c2, rfl, h7, _, h8⟩ := h9
    exact ⟨A2, c2, rfl, h7, h8⟩))
  have HRh := Lib.hid (fun W (hW : Below w.heap.size w W) => refCheapest_any B rs RA rn rc sl A n c idle price W (hrr.below (hW.mono hB)) (hr.below (hW.mono hB)) (Nat.le_trans hB hW.size) hrn (by omega) hn hok.s hok.r hok.i hok.p)
  have HRo := Lib.hid (fun W (hW : Below w.heap.size w W) => refContradicting_any B rs RA rn rc sl A n c idle price W (hrr.below (hW.mono hB)) (hr.below (hW.mono hB)) (Nat.le_trans hB hW.size) hrn (by rw [← hrn]; exact hok.n) hn hok.s hok.r hok.i hok.p)
  rw [hT] at HRh
  rw [hC] at HRo
  rw [h0] at HBo
  rw [hb] at HLi
  have HUn := Lib.hid (fun W (hW' : Below w.heap.size w W) => hU.below hW')
  have hs6 : s.length ≤ 100000 := by
    obtain ⟨c', h8, h9, _⟩ := firstS_some (show firstS (clashB rs sl (allC (sizesV sl))) rs.length rs.length = some s from hC)
    have h7 := (allS_mem.1 h9).1
    omega
  have HIn := Lib.hid (fun W A1 c1 A2 c2 (hx : IntsIn W.heap.size W A1 s) (hy : IntsIn W.heap.size W A2 s) => (show Calls Tryz.prog 17 #[.slice A1 s.length c1, .slice A2 s.length c2] W fun e w' => e = .returned (.bool true) ∧ Below W.heap.size W w' by
    have h := ints_any W.heap.size A1 A2 c1 c2 s s W hx hy hs6
    rw [intsB_self] at h
    exact h))
  have HB0 := Lib.hid (show Below w.heap.size w ((w.alloc (.cells #[.slice RA rn rc] 24)).alloc (.cells #[.slice A n c, .int .i64 idle, .int .i64 price] 27)) from pa (pa pr))
  have R0 := Lib.hid (show Blk ((w.alloc (.cells #[.slice RA rn rc] 24)).alloc (.cells #[.slice A n c, .int .i64 idle, .int .i64 price] 27)) w.heap.size 24 #[.slice RA rn rc] from (Blk.newAt rfl).alloc)
  have K0 := Lib.hid (show Blk ((w.alloc (.cells #[.slice RA rn rc] 24)).alloc (.cells #[.slice A n c, .int .i64 idle, .int .i64 price] 27)) (w.heap.size + 1) 27 #[.slice A n c, .int .i64 idle, .int .i64 price] from Blk.newAt (by simp))
  clear hU hQ hW hrr hr hn hrn h6 f1 f2 f3 f4 h0 hok hT hC hf hb hs6
  go_enter Tryz.func3, Tryz.ntmps3
  go_wp2_with (first
    | (go_at_call 7; refine HAw.out.mono ?_; rintro e w1 ⟨rfl, hb⟩; have HB1 := Lib.hid (pt HB0.out hb); have R1 := Lib.hid (R0.out.past hb); have K1 := Lib.hid (K0.out.past hb); clear hb; have x0 := R1.out.cellAt 0 rfl; have y0 := K1.out.cellAt 0 rfl; have y1 := K1.out.cellAt 1 rfl; have y2 := K1.out.cellAt 2 rfl; have xl := R1.out.lt; have yl := K1.out.lt)
    | (go_at_call 8; refine (HFe.out _ HB1.out).mono ?_; rintro e w2 ⟨rfl, hb⟩; have HB2 := Lib.hid (pt HB1.out hb); have R2 := Lib.hid (R1.out.past hb); have K2 := Lib.hid (K1.out.past hb); clear x0 y0 y1 y2 xl yl; clear hb; have x0 := R2.out.cellAt 0 rfl; have y0 := K2.out.cellAt 0 rfl; have y1 := K2.out.cellAt 1 rfl; have y2 := K2.out.cellAt 2 rfl; have xl := R2.out.lt; have yl := K2.out.lt)
    | (go_at_call 9; refine (HBo.out _ HB2.out).mono ?_; rintro e w3 ⟨rfl, hb⟩; have HB3 := Lib.hid (pt HB2.out hb); have R3 := Lib.hid (R2.out.past hb); have K3 := Lib.hid (K2.out.past hb); clear x0 y0 y1 y2 xl yl; clear hb; have x0 := R3.out.cellAt 0 rfl; have y0 := K3.out.cellAt 0 rfl; have y1 := K3.out.cellAt 1 rfl; have y2 := K3.out.cellAt 2 rfl; have xl := R3.out.lt; have yl := K3.out.lt)
    | (go_at_call 10; refine (HLi.out _ HB3.out).mono ?_; rintro e w4 ⟨rfl, hb⟩; have HB4 := Lib.hid (pt HB3.out hb); have R4 := Lib.hid (R3.out.past hb); have K4 := Lib.hid (K3.out.past hb); clear x0 y0 y1 y2 xl yl; clear hb; have x0 := R4.out.cellAt 0 rfl; have y0 := K4.out.cellAt 0 rfl; have y1 := K4.out.cellAt 1 rfl; have y2 := K4.out.cellAt 2 rfl; have xl := R4.out.lt; have yl := K4.out.lt))
  clear R0 R1 R2 R3 K0 K1 K2 K3 HB0 HB1 HB2 HB3 HAw HFe HLi
  have HSS := Lib.hid (show ∀ W, Hid (Below w4.heap.size w4 W) → Hid (Below w4.heap.size w4 W) ∧ W.cell? ⟨w.heap.size, 0, none⟩ = some (.slice RA rn rc) ∧ W.cell? ⟨w.heap.size + 1, 0, none⟩ = some (.slice A n c) ∧ W.cell? ⟨w.heap.size + 1, 1, none⟩ = some (.int .i64 idle) ∧ W.cell? ⟨w.heap.size + 1, 2, none⟩ = some (.int .i64 price) from fun W hW => ⟨hW, (R4.out.past hW.out).cellAt 0 rfl, (K4.out.past hW.out).cellAt 0 rfl, (K4.out.past hW.out).cellAt 1 rfl, (K4.out.past hW.out).cellAt 2 rfl⟩)
  clear x0 y0 y1 y2
  go_region_held3 (fun w' => Hid (Below w4.heap.size w4 w') ∧ w'.cell? ⟨w.heap.size, 0, none⟩ = some (.slice RA rn rc) ∧ w'.cell? ⟨w.heap.size + 1, 0, none⟩ = some (.slice A n c) ∧ w'.cell? ⟨w.heap.size + 1, 1, none⟩ = some (.int .i64 idle) ∧ w'.cell? ⟨w.heap.size + 1, 2, none⟩ = some (.int .i64 price)) ((refine HSS.out _ (Lib.hid ?_); repeat (first | assumption | (with_reducible exact pr) | (with_reducible refine pd ?_) | (with_reducible refine pa ?_) | (with_reducible refine pt ?_ (by assumption)))))
    ((first
      | (go_at_call 12; (with_reducible refine (HCr.out _ (pd HB4.out)).mono ?_); rintro e w5 ⟨A5, c5, rfl, hs5, hb5⟩; have HS5 := Lib.hid hs5)
      | (go_at_call 13; (with_reducible refine (HCk.out _ (pt (pd HB4.out) hb5)).mono ?_); rintro e w6 ⟨A6, c6, rfl, hs6, hb6⟩; have HS6 := Lib.hid hs6)
      | (go_at_call 11; (with_reducible refine (HCh.out _ A5 c5 A6 c6 (HUn.out _ (pt (pt (pd HB4.out) hb5) hb6)) (HS5.out.past (Nat.le_refl _) hb6) HS6.out).mono ?_); rintro e w7 ⟨A7, c7, rfl, hb7⟩)))
  have HB7 := Lib.hid (show Below w.heap.size w w7 from pt (pt (pt (pd HB4.out) hb5) hb6) hb7)
  have HBl7 := Lib.hid (show Below w4.heap.size w4 w7 from pt (pt (pt (pd pr) hb5) hb6) hb7)
  have R7 := Lib.hid (R4.out.past HBl7.out)
  have K7 := Lib.hid (K4.out.past HBl7.out)
  clear HSS xl yl hs5 hs6 hb5 hb6 hb7 HS5 HS6 R4 K4 HB4
  have x0 := R7.out.cellAt 0 rfl; have y0 := K7.out.cellAt 0 rfl; have y1 := K7.out.cellAt 1 rfl; have y2 := K7.out.cellAt 2 rfl; have xl := R7.out.lt; have yl := K7.out.lt
  go_wp2
  have HSS := Lib.hid (show ∀ W, Hid (Below w7.heap.size w7 W) → Hid (Below w7.heap.size w7 W) ∧ W.cell? ⟨w.heap.size, 0, none⟩ = some (.slice RA rn rc) ∧ W.cell? ⟨w.heap.size + 1, 0, none⟩ = some (.slice A n c) ∧ W.cell? ⟨w.heap.size + 1, 1, none⟩ = some (.int .i64 idle) ∧ W.cell? ⟨w.heap.size + 1, 2, none⟩ = some (.int .i64 price) from fun W hW => ⟨hW, (R7.out.past hW.out).cellAt 0 rfl, (K7.out.past hW.out).cellAt 0 rfl, (K7.out.past hW.out).cellAt 1 rfl, (K7.out.past hW.out).cellAt 2 rfl⟩)
  clear x0 y0 y1 y2
  go_region_held3 (fun w' => Hid (Below w7.heap.size w7 w') ∧ w'.cell? ⟨w.heap.size, 0, none⟩ = some (.slice RA rn rc) ∧ w'.cell? ⟨w.heap.size + 1, 0, none⟩ = some (.slice A n c) ∧ w'.cell? ⟨w.heap.size + 1, 1, none⟩ = some (.int .i64 idle) ∧ w'.cell? ⟨w.heap.size + 1, 2, none⟩ = some (.int .i64 price)) ((refine HSS.out _ (Lib.hid ?_); repeat (first | assumption | (with_reducible exact pr) | (with_reducible refine pd ?_) | (with_reducible refine pa ?_) | (with_reducible refine pt ?_ (by assumption)))))
    ((first
      | (go_at_call 12; (with_reducible refine (HCr.out _ (pd HB7.out)).mono ?_); rintro e w8 ⟨A8, c8, rfl, hs8, hb8⟩; have HS8 := Lib.hid hs8)
      | (go_at_call 13; (with_reducible refine (HCk.out _ (pt (pd HB7.out) hb8)).mono ?_); rintro e w9 ⟨A9, c9, rfl, hs9, hb9⟩; have HS9 := Lib.hid hs9)
      | (go_at_call 14; (with_reducible refine (HCo.out _ A8 c8 A9 c9 (HUn.out _ (pt (pt (pd HB7.out) hb8) hb9)) (HS8.out.past (Nat.le_refl _) hb9) HS9.out).mono ?_); rintro e w10 ⟨A10, c10, rfl, hi10, hb10⟩; have HI10 := Lib.hid hi10)))
  have HB10 := Lib.hid (show Below w.heap.size w w10 from pt (pt (pt (pd HB7.out) hb8) hb9) hb10)
  have HBl10 := Lib.hid (show Below w7.heap.size w7 w10 from pt (pt (pt (pd pr) hb8) hb9) hb10)
  have R10 := Lib.hid (R7.out.past HBl10.out)
  have K10 := Lib.hid (K7.out.past HBl10.out)
  clear HSS xl yl hs8 hs9 hb8 hb9 hb10 HS8 HS9 R7 K7 HB7
  have x0 := R10.out.cellAt 0 rfl; have y0 := K10.out.cellAt 0 rfl; have y1 := K10.out.cellAt 1 rfl; have y2 := K10.out.cellAt 2 rfl; have xl := R10.out.lt; have yl := K10.out.lt
  clear hi10
  have HBq := Lib.hid (show ∀ W, Below w10.heap.size w10 W → Below w10.heap.size w10 W from fun W h => h)
  go_wp2_with (first
    | (go_at_call 9; refine (HBo.out _ HB10.out).mono ?_; rintro e w11 ⟨rfl, hb⟩; have HBa := Lib.hid (fun W (h : Below w11.heap.size w11 W) => (pt (show Below w10.heap.size w10 w11 from hb) h)); have HB11 := Lib.hid (pt HB10.out hb); have R11 := Lib.hid (R10.out.past hb); have K11 := Lib.hid (K10.out.past hb); clear x0 y0 y1 y2 xl yl; clear hb; have x0 := R11.out.cellAt 0 rfl; have y0 := K11.out.cellAt 0 rfl; have y1 := K11.out.cellAt 1 rfl; have y2 := K11.out.cellAt 2 rfl; have xl := R11.out.lt; have yl := K11.out.lt)
    | (go_at_call 15; refine (HRh.out _ HB11.out).mono ?_; rintro e w12 ⟨hb, hopt⟩; obtain rfl := (show e = .returned (.tuple #[.slice none 0 0, .int .i64 0, .bool false]) from (by rcases hopt with ⟨_, he⟩ | ⟨l2, k2, b2, o2, c2, hx, _⟩; (exact he); (cases hx))); have HI12 := Lib.hid ((HI10.out.below (HBa.out w12 hb)).more (HBa.out w12 hb).size); clear hopt; have HB12 := Lib.hid (pt HB11.out hb); have R12 := Lib.hid (R11.out.past hb); have K12 := Lib.hid (K11.out.past hb); clear x0 y0 y1 y2 xl yl; clear hb; have x0 := R12.out.cellAt 0 rfl; have y0 := K12.out.cellAt 0 rfl; have y1 := K12.out.cellAt 1 rfl; have y2 := K12.out.cellAt 2 rfl; have xl := R12.out.lt; have yl := K12.out.lt)
    | (go_at_call 16; refine (HRo.out _ HB12.out).mono ?_; rintro e w13 ⟨hb, hopt⟩; obtain ⟨b2, o2, c2, rfl, hy⟩ := (show ∃ b2 o2 c2, e = .returned (.tuple #[.slice (some ⟨b2, o2, none⟩) s.length c2, .bool true]) ∧ IntsIn w13.heap.size w13 (some ⟨b2, o2, none⟩) s from (by rcases hopt with ⟨hx, _⟩ | ⟨l2, b2, o2, c2, hx, he, _, hy⟩; (cases hx); (cases hx; exact ⟨b2, o2, c2, he, hy⟩))); have HI13 := Lib.hid ((HI12.out.below hb).more hb.size); have HJ13 := Lib.hid hy; clear hopt hy; have HB13 := Lib.hid (pt HB12.out hb); have R13 := Lib.hid (R12.out.past hb); have K13 := Lib.hid (K12.out.past hb); clear x0 y0 y1 y2 xl yl; clear hb; have x0 := R13.out.cellAt 0 rfl; have y0 := K13.out.cellAt 0 rfl; have y1 := K13.out.cellAt 1 rfl; have y2 := K13.out.cellAt 2 rfl; have xl := R13.out.lt; have yl := K13.out.lt)
    | (go_at_call 17; refine (HIn.out _ _ _ _ _ HI13.out HJ13.out).mono ?_; rintro e w14 ⟨rfl, hb⟩; have HB14 := Lib.hid (pt HB13.out hb); have R14 := Lib.hid (R13.out.past hb); have K14 := Lib.hid (K13.out.past hb); clear x0 y0 y1 y2 xl yl; clear hb; have x0 := R14.out.cellAt 0 rfl; have y0 := K14.out.cellAt 0 rfl; have y1 := K14.out.cellAt 1 rfl; have y2 := K14.out.cellAt 2 rfl; have xl := R14.out.lt; have yl := K14.out.lt))
  go_ret
  exact ⟨rfl, HB14.out⟩

set_option maxRecDepth 100000 in
set_option maxHeartbeats 16000000 in
theorem cheap_some (B : Nat) (rs : List DReq) (RA : Option Addr) (rn rc : Nat) (sl : List (List DPart)) (A : Option Addr) (n c : Nat) (idle price : Int) (w : World) (hU : UnitIn w) (hQ : TabS 1 qWords w) (hW : TabS 0 uWords w) (hrr : ReqsIn B w RA rs) (hr : SlotsIn B w A sl) (hB : B ≤ w.heap.size) (hrn : rs.length = rn) (hn : sl.length = n) (h6 : Six sl) (hf : FewP rs sl) (h0 : openE rs idle price sl = 0) (hb : lightB sl = true) (l : List Int) (kk : Int) (hT : cheaF rs idle price sl (allC (slotN sl)) = some (l, kk)) (hC : contrV rs sl = none) :
    Calls Tryz.prog 3 #[.agg #[.slice RA rn rc], .agg #[.slice A n c, .int .i64 idle, .int .i64 price]] w fun e w' => e = .returned (.bool true) ∧ Below w.heap.size w w' := by
  obtain ⟨f1, f2, f3, f4⟩ := few_bd2 hf
  have hn7 : n ≤ 7 := by omega
  have hr8 : rn ≤ 8 := by omega
  have hok := openE_ok h6 h0
  have HAw := Lib.hid (awake_any ((w.alloc (.cells #[.slice RA rn rc] 24)).alloc (.cells #[.slice A n c, .int .i64 idle, .int .i64 price] 27)) (hU.below (pa (pa pr))) (hQ.below (pa (pa pr))) (hW.below (pa (pa pr))))
  have HFe := Lib.hid (fun W (hW : Below w.heap.size w W) => (show Calls Tryz.prog 8 #[.agg #[.slice RA rn rc], .agg #[.slice A n c, .int .i64 idle, .int .i64 price]] W fun e w' => e = .returned (.bool true) ∧ Below W.heap.size W w' from (few_any B rs RA rn rc sl A n c idle price W (hrr.below (hW.mono hB)) (hr.below (hW.mono hB)) (Nat.le_trans hB hW.size) hrn hn).mono fun e w' h => by
    obtain ⟨⟨f, rfl, hfi⟩, hb⟩ := h
    cases f
    · exact absurd (hfi.2 hf) (by decide)
    · exact ⟨rfl, hb⟩))
  have HCk := Lib.hid (fun W (hW : Below w.heap.size w W) => (show Calls Tryz.prog 13 #[.agg #[.slice A n c, .int .i64 idle, .int .i64 price]] W fun e w' => ∃ A2 c2, e = .returned (.agg #[.slice A2 n c2, .int .i64 idle, .int .i64 price]) ∧ SlotsIn w'.heap.size w' A2 sl ∧ Below W.heap.size W w' from (copyStock_any B sl A n c idle price W (hr.below (hW.mono hB)) (Nat.le_trans hB hW.size) hn (by omega) (fun l hl => (f4 l hl).1)).mono fun e w' h => by
    obtain ⟨A2, c2, rfl, h2, _, h3⟩ := h
    rw [hn]
    exact ⟨A2, c2, rfl, h2, h3⟩))
  have HCr := Lib.hid (fun W (hW : Below w.heap.size w W) => (show Calls Tryz.prog 12 #[.agg #[.slice RA rn rc]] W fun e w' => ∃ A2 c2, e = .returned (.agg #[.slice A2 rn c2]) ∧ ReqsIn w'.heap.size w' A2 rs ∧ Below W.heap.size W w' from (copySpec_any B rs RA rn rc W (hrr.below (hW.mono hB)) (Nat.le_trans hB hW.size) hrn (by omega) f2).mono fun e w' h => by
    obtain ⟨A2, c2, rfl, h2, _, h3⟩ := h
    rw [hrn]
    exact ⟨A2, c2, rfl, h2, h3⟩))
  have HBo := Lib.hid (fun W (hW : Below w.heap.size w W) => bothErr_any B rs RA rn rc sl A n c idle price W (hrr.below (hW.mono hB)) (hr.below (hW.mono hB)) (Nat.le_trans hB hW.size) hrn hn (by omega) f2 f4)
  have HLi := Lib.hid (fun W (hW : Below w.heap.size w W) => light_any B sl A n c idle price W (hr.below (hW.mono hB)) (Nat.le_trans hB hW.size) hn (by omega) (fun l hl => (f4 l hl).1))

  have hll : l.length = n := by
    have h8 := cheapV_least (show cheapV (meetB rs sl) (costC idle price sl) (allC (slotN sl)) = some (l, kk) from hT)
    exact ((allC_ok (sl := sl)).1 h8.1).1.trans hn
  have HCh := Lib.hid (fun (W : World) A1 c1 A2 c2 (hU : UnitIn W) (hx : ReqsIn W.heap.size W A1 rs) (hy : SlotsIn W.heap.size W A2 sl) => (show Calls Tryz.prog 11 #[.agg #[.slice A1 rn c1], .agg #[.slice A2 n c2, .int .i64 idle, .int .i64 price]] W fun e w' => ∃ A2 c2, e = .returned (.tuple #[.slice A2 n c2, .int .i64 kk, .int .i64 0]) ∧ IntsIn w'.heap.size w' A2 l ∧ Below W.heap.size W w' by
    have h := cheapest_ok W.heap.size rs A1 rn c1 sl A2 n c2 idle price W hx hy (Nat.le_refl _) hrn (by omega) f2 hU hn (by omega) f4 h6 h0
    rw [hT] at h
    refine h.mono fun e w' h9 => ?_
    obtain ⟨A2, c2, rfl, h7, _, h8⟩ := h9
    refine ⟨A2, c2, ?_, h7, h8⟩
    show _ = Ending.returned (.tuple #[.slice A2 n c2, .int .i64 kk, .int .i64 0])
    rw [← hll]
    rfl))
  have HCo := Lib.hid (fun (W : World) A1 c1 A2 c2 (hU : UnitIn W) (hx : ReqsIn W.heap.size W A1 rs) (hy : SlotsIn W.heap.size W A2 sl) => (show Calls Tryz.prog 14 #[.agg #[.slice A1 rn c1], .agg #[.slice A2 n c2, .int .i64 idle, .int .i64 price]] W fun e w' => ∃ A2 c2, e = .returned (.tuple #[.slice A2 0 c2, .int .i64 12]) ∧ Below W.heap.size W w' by
    have h := contradicting_any W.heap.size rs A1 rn c1 sl A2 n c2 idle price W hx hy (Nat.le_refl _) hrn (by omega) f2 hU hn (by omega) f4 h6
    unfold ctrL ctrE at h
    rw [if_pos h0, if_pos h0, hC] at h
    refine h.mono fun e w' h9 => ?_
    obtain ⟨A2, c2, rfl, h7, _, h8⟩ := h9
    exact ⟨A2, c2, rfl, h8⟩))
  have HRh := Lib.hid (fun W (hW : Below w.heap.size w W) => refCheapest_any B rs RA rn rc sl A n c idle price W (hrr.below (hW.mono hB)) (hr.below (hW.mono hB)) (Nat.le_trans hB hW.size) hrn (by omega) hn hok.s hok.r hok.i hok.p)
  have HRo := Lib.hid (fun W (hW : Below w.heap.size w W) => refContradicting_any B rs RA rn rc sl A n c idle price W (hrr.below (hW.mono hB)) (hr.below (hW.mono hB)) (Nat.le_trans hB hW.size) hrn (by rw [← hrn]; exact hok.n) hn hok.s hok.r hok.i hok.p)
  rw [hT] at HRh
  rw [hC] at HRo
  rw [h0] at HBo
  rw [hb] at HLi
  have HUn := Lib.hid (fun W (hW' : Below w.heap.size w W) => hU.below hW')
  have HIn := Lib.hid (fun W A1 c1 A2 c2 (hx : IntsIn W.heap.size W A1 l) (hy : IntsIn W.heap.size W A2 l) => (show Calls Tryz.prog 17 #[.slice A1 n c1, .slice A2 n c2] W fun e w' => e = .returned (.bool true) ∧ Below W.heap.size W w' by
    have h := ints_any W.heap.size A1 A2 c1 c2 l l W hx hy (by omega)
    rw [intsB_self, hll] at h
    exact h))
  have HB0 := Lib.hid (show Below w.heap.size w ((w.alloc (.cells #[.slice RA rn rc] 24)).alloc (.cells #[.slice A n c, .int .i64 idle, .int .i64 price] 27)) from pa (pa pr))
  have R0 := Lib.hid (show Blk ((w.alloc (.cells #[.slice RA rn rc] 24)).alloc (.cells #[.slice A n c, .int .i64 idle, .int .i64 price] 27)) w.heap.size 24 #[.slice RA rn rc] from (Blk.newAt rfl).alloc)
  have K0 := Lib.hid (show Blk ((w.alloc (.cells #[.slice RA rn rc] 24)).alloc (.cells #[.slice A n c, .int .i64 idle, .int .i64 price] 27)) (w.heap.size + 1) 27 #[.slice A n c, .int .i64 idle, .int .i64 price] from Blk.newAt (by simp))
  clear hU hQ hW hrr hr hn hrn h6 f1 f2 f3 f4 h0 hok hT hC hf hb hll
  go_enter Tryz.func3, Tryz.ntmps3
  go_wp2_with (first
    | (go_at_call 7; refine HAw.out.mono ?_; rintro e w1 ⟨rfl, hb⟩; have HB1 := Lib.hid (pt HB0.out hb); have R1 := Lib.hid (R0.out.past hb); have K1 := Lib.hid (K0.out.past hb); clear hb; have x0 := R1.out.cellAt 0 rfl; have y0 := K1.out.cellAt 0 rfl; have y1 := K1.out.cellAt 1 rfl; have y2 := K1.out.cellAt 2 rfl; have xl := R1.out.lt; have yl := K1.out.lt)
    | (go_at_call 8; refine (HFe.out _ HB1.out).mono ?_; rintro e w2 ⟨rfl, hb⟩; have HB2 := Lib.hid (pt HB1.out hb); have R2 := Lib.hid (R1.out.past hb); have K2 := Lib.hid (K1.out.past hb); clear x0 y0 y1 y2 xl yl; clear hb; have x0 := R2.out.cellAt 0 rfl; have y0 := K2.out.cellAt 0 rfl; have y1 := K2.out.cellAt 1 rfl; have y2 := K2.out.cellAt 2 rfl; have xl := R2.out.lt; have yl := K2.out.lt)
    | (go_at_call 9; refine (HBo.out _ HB2.out).mono ?_; rintro e w3 ⟨rfl, hb⟩; have HB3 := Lib.hid (pt HB2.out hb); have R3 := Lib.hid (R2.out.past hb); have K3 := Lib.hid (K2.out.past hb); clear x0 y0 y1 y2 xl yl; clear hb; have x0 := R3.out.cellAt 0 rfl; have y0 := K3.out.cellAt 0 rfl; have y1 := K3.out.cellAt 1 rfl; have y2 := K3.out.cellAt 2 rfl; have xl := R3.out.lt; have yl := K3.out.lt)
    | (go_at_call 10; refine (HLi.out _ HB3.out).mono ?_; rintro e w4 ⟨rfl, hb⟩; have HB4 := Lib.hid (pt HB3.out hb); have R4 := Lib.hid (R3.out.past hb); have K4 := Lib.hid (K3.out.past hb); clear x0 y0 y1 y2 xl yl; clear hb; have x0 := R4.out.cellAt 0 rfl; have y0 := K4.out.cellAt 0 rfl; have y1 := K4.out.cellAt 1 rfl; have y2 := K4.out.cellAt 2 rfl; have xl := R4.out.lt; have yl := K4.out.lt))
  clear R0 R1 R2 R3 K0 K1 K2 K3 HB0 HB1 HB2 HB3 HAw HFe HLi
  have HSS := Lib.hid (show ∀ W, Hid (Below w4.heap.size w4 W) → Hid (Below w4.heap.size w4 W) ∧ W.cell? ⟨w.heap.size, 0, none⟩ = some (.slice RA rn rc) ∧ W.cell? ⟨w.heap.size + 1, 0, none⟩ = some (.slice A n c) ∧ W.cell? ⟨w.heap.size + 1, 1, none⟩ = some (.int .i64 idle) ∧ W.cell? ⟨w.heap.size + 1, 2, none⟩ = some (.int .i64 price) from fun W hW => ⟨hW, (R4.out.past hW.out).cellAt 0 rfl, (K4.out.past hW.out).cellAt 0 rfl, (K4.out.past hW.out).cellAt 1 rfl, (K4.out.past hW.out).cellAt 2 rfl⟩)
  clear x0 y0 y1 y2
  go_region_held3 (fun w' => Hid (Below w4.heap.size w4 w') ∧ w'.cell? ⟨w.heap.size, 0, none⟩ = some (.slice RA rn rc) ∧ w'.cell? ⟨w.heap.size + 1, 0, none⟩ = some (.slice A n c) ∧ w'.cell? ⟨w.heap.size + 1, 1, none⟩ = some (.int .i64 idle) ∧ w'.cell? ⟨w.heap.size + 1, 2, none⟩ = some (.int .i64 price)) ((refine HSS.out _ (Lib.hid ?_); repeat (first | assumption | (with_reducible exact pr) | (with_reducible refine pd ?_) | (with_reducible refine pa ?_) | (with_reducible refine pt ?_ (by assumption)))))
    ((first
      | (go_at_call 12; (with_reducible refine (HCr.out _ (pd HB4.out)).mono ?_); rintro e w5 ⟨A5, c5, rfl, hs5, hb5⟩; have HS5 := Lib.hid hs5)
      | (go_at_call 13; (with_reducible refine (HCk.out _ (pt (pd HB4.out) hb5)).mono ?_); rintro e w6 ⟨A6, c6, rfl, hs6, hb6⟩; have HS6 := Lib.hid hs6)
      | (go_at_call 11; (with_reducible refine (HCh.out _ A5 c5 A6 c6 (HUn.out _ (pt (pt (pd HB4.out) hb5) hb6)) (HS5.out.past (Nat.le_refl _) hb6) HS6.out).mono ?_); rintro e w7 ⟨A7, c7, rfl, hi7, hb7⟩; have HI7 := Lib.hid hi7)))
  have HB7 := Lib.hid (show Below w.heap.size w w7 from pt (pt (pt (pd HB4.out) hb5) hb6) hb7)
  have HBl7 := Lib.hid (show Below w4.heap.size w4 w7 from pt (pt (pt (pd pr) hb5) hb6) hb7)
  have R7 := Lib.hid (R4.out.past HBl7.out)
  have K7 := Lib.hid (K4.out.past HBl7.out)
  clear HSS xl yl hs5 hs6 hb5 hb6 hb7 HS5 HS6 R4 K4 HB4
  have x0 := R7.out.cellAt 0 rfl; have y0 := K7.out.cellAt 0 rfl; have y1 := K7.out.cellAt 1 rfl; have y2 := K7.out.cellAt 2 rfl; have xl := R7.out.lt; have yl := K7.out.lt
  clear hi7
  go_wp2
  have HSS := Lib.hid (show ∀ W, Hid (Below w7.heap.size w7 W) → Hid (Below w7.heap.size w7 W) ∧ W.cell? ⟨w.heap.size, 0, none⟩ = some (.slice RA rn rc) ∧ W.cell? ⟨w.heap.size + 1, 0, none⟩ = some (.slice A n c) ∧ W.cell? ⟨w.heap.size + 1, 1, none⟩ = some (.int .i64 idle) ∧ W.cell? ⟨w.heap.size + 1, 2, none⟩ = some (.int .i64 price) from fun W hW => ⟨hW, (R7.out.past hW.out).cellAt 0 rfl, (K7.out.past hW.out).cellAt 0 rfl, (K7.out.past hW.out).cellAt 1 rfl, (K7.out.past hW.out).cellAt 2 rfl⟩)
  clear x0 y0 y1 y2
  go_region_held3 (fun w' => Hid (Below w7.heap.size w7 w') ∧ w'.cell? ⟨w.heap.size, 0, none⟩ = some (.slice RA rn rc) ∧ w'.cell? ⟨w.heap.size + 1, 0, none⟩ = some (.slice A n c) ∧ w'.cell? ⟨w.heap.size + 1, 1, none⟩ = some (.int .i64 idle) ∧ w'.cell? ⟨w.heap.size + 1, 2, none⟩ = some (.int .i64 price)) ((refine HSS.out _ (Lib.hid ?_); repeat (first | assumption | (with_reducible exact pr) | (with_reducible refine pd ?_) | (with_reducible refine pa ?_) | (with_reducible refine pt ?_ (by assumption)))))
    ((first
      | (go_at_call 12; (with_reducible refine (HCr.out _ (pd HB7.out)).mono ?_); rintro e w8 ⟨A8, c8, rfl, hs8, hb8⟩; have HS8 := Lib.hid hs8)
      | (go_at_call 13; (with_reducible refine (HCk.out _ (pt (pd HB7.out) hb8)).mono ?_); rintro e w9 ⟨A9, c9, rfl, hs9, hb9⟩; have HS9 := Lib.hid hs9)
      | (go_at_call 14; (with_reducible refine (HCo.out _ A8 c8 A9 c9 (HUn.out _ (pt (pt (pd HB7.out) hb8) hb9)) (HS8.out.past (Nat.le_refl _) hb9) HS9.out).mono ?_); rintro e w10 ⟨A10, c10, rfl, hb10⟩)))
  have HB10 := Lib.hid (show Below w.heap.size w w10 from pt (pt (pt (pd HB7.out) hb8) hb9) hb10)
  have HBl10 := Lib.hid (show Below w7.heap.size w7 w10 from pt (pt (pt (pd pr) hb8) hb9) hb10)
  have R10 := Lib.hid (R7.out.past HBl10.out)
  have K10 := Lib.hid (K7.out.past HBl10.out)
  clear HSS xl yl hs8 hs9 hb8 hb9 hb10 HS8 HS9 R7 K7 HB7
  have x0 := R10.out.cellAt 0 rfl; have y0 := K10.out.cellAt 0 rfl; have y1 := K10.out.cellAt 1 rfl; have y2 := K10.out.cellAt 2 rfl; have xl := R10.out.lt; have yl := K10.out.lt
  have HI10 := Lib.hid ((HI7.out.below HBl10.out).more HBl10.out.size)
  have HBq := Lib.hid (show ∀ W, Below w10.heap.size w10 W → Below w10.heap.size w10 W from fun W h => h)
  go_wp2_with (first
    | (go_at_call 9; refine (HBo.out _ HB10.out).mono ?_; rintro e w11 ⟨rfl, hb⟩; have HBa := Lib.hid (fun W (h : Below w11.heap.size w11 W) => (pt (show Below w10.heap.size w10 w11 from hb) h)); have HB11 := Lib.hid (pt HB10.out hb); have R11 := Lib.hid (R10.out.past hb); have K11 := Lib.hid (K10.out.past hb); clear x0 y0 y1 y2 xl yl; clear hb; have x0 := R11.out.cellAt 0 rfl; have y0 := K11.out.cellAt 0 rfl; have y1 := K11.out.cellAt 1 rfl; have y2 := K11.out.cellAt 2 rfl; have xl := R11.out.lt; have yl := K11.out.lt)
    | (go_at_call 15; refine (HRh.out _ HB11.out).mono ?_; rintro e w12 ⟨hb, hopt⟩; obtain ⟨b2, o2, c2, rfl, hy⟩ := (show ∃ b2 o2 c2, e = .returned (.tuple #[.slice (some ⟨b2, o2, none⟩) n c2, .int .i64 kk, .bool true]) ∧ IntsIn w12.heap.size w12 (some ⟨b2, o2, none⟩) l from (by rcases hopt with ⟨hx, _⟩ | ⟨l2, k2, b2, o2, c2, hx, he, _, _, hy⟩; (cases hx); (cases hx; exact ⟨b2, o2, c2, he, hy⟩))); have HI12 := Lib.hid ((HI10.out.below (HBa.out w12 hb)).more (HBa.out w12 hb).size); have HJ12 := Lib.hid hy; clear hopt hy; have HB12 := Lib.hid (pt HB11.out hb); have R12 := Lib.hid (R11.out.past hb); have K12 := Lib.hid (K11.out.past hb); clear x0 y0 y1 y2 xl yl; clear hb; have x0 := R12.out.cellAt 0 rfl; have y0 := K12.out.cellAt 0 rfl; have y1 := K12.out.cellAt 1 rfl; have y2 := K12.out.cellAt 2 rfl; have xl := R12.out.lt; have yl := K12.out.lt)
    | (go_at_call 16; refine (HRo.out _ HB12.out).mono ?_; rintro e w13 ⟨hb, hopt⟩; obtain rfl := (show e = .returned (.tuple #[.slice none 0 0, .bool false]) from (by rcases hopt with ⟨_, he⟩ | ⟨l2, b2, o2, c2, hx, _⟩; (exact he); (cases hx))); have HI13 := Lib.hid ((HI12.out.below hb).more hb.size); have HJ13 := Lib.hid ((HJ12.out.below hb).more hb.size); clear hopt; have HB13 := Lib.hid (pt HB12.out hb); have R13 := Lib.hid (R12.out.past hb); have K13 := Lib.hid (K12.out.past hb); clear x0 y0 y1 y2 xl yl; clear hb; have x0 := R13.out.cellAt 0 rfl; have y0 := K13.out.cellAt 0 rfl; have y1 := K13.out.cellAt 1 rfl; have y2 := K13.out.cellAt 2 rfl; have xl := R13.out.lt; have yl := K13.out.lt)
    | (go_at_call 17; refine (HIn.out _ _ _ _ _ HI13.out HJ13.out).mono ?_; rintro e w14 ⟨rfl, hb⟩; have HB14 := Lib.hid (pt HB13.out hb); have R14 := Lib.hid (R13.out.past hb); have K14 := Lib.hid (K13.out.past hb); clear x0 y0 y1 y2 xl yl; clear hb; have x0 := R14.out.cellAt 0 rfl; have y0 := K14.out.cellAt 0 rfl; have y1 := K14.out.cellAt 1 rfl; have y2 := K14.out.cellAt 2 rfl; have xl := R14.out.lt; have yl := K14.out.lt))
  go_ret
  exact ⟨rfl, HB14.out⟩

theorem designCheapest_any (B : Nat) (rs : List DReq) (RA : Option Addr) (rn rc : Nat) (sl : List (List DPart)) (A : Option Addr) (n c : Nat) (idle price : Int) (w : World) (hU : UnitIn w) (hQ : TabS 1 qWords w) (hW : TabS 0 uWords w) (hrr : ReqsIn B w RA rs) (hr : SlotsIn B w A sl) (hB : B ≤ w.heap.size) (hrn : rs.length = rn) (hn : sl.length = n) (h6 : Six sl) :
    Calls Tryz.prog 3 #[.agg #[.slice RA rn rc], .agg #[.slice A n c, .int .i64 idle, .int .i64 price]] w fun e w' => e = .returned (.bool true) ∧ Below w.heap.size w w' := by
  by_cases hf : FewP rs sl
  · by_cases h0 : openE rs idle price sl = 0
    · cases hb : lightB sl
      · exact cheap_large B rs RA rn rc sl A n c idle price w hU hQ hW hrr hr hB hrn hn h6 hf h0 hb
      have hp : 0 < rs.length := (specE_ok (openE_zero.1 h0).1).1.1
      cases hT : cheaF rs idle price sl (allC (slotN sl)) with
      | none =>
        cases hC : contrV rs sl with
        | none => exact absurd hT ((chea_sizes (idle := idle) (price := price) hp).1 hC)
        | some s => exact cheap_none B rs RA rn rc sl A n c idle price w hU hQ hW hrr hr hB hrn hn h6 hf h0 hb s hT hC
      | some x =>
        obtain ⟨l, kk⟩ := x
        have hC : contrV rs sl = none := (chea_sizes (idle := idle) (price := price) hp).2 (by rw [hT]; simp)
        exact cheap_some B rs RA rn rc sl A n c idle price w hU hQ hW hrr hr hB hrn hn h6 hf h0 hb l kk hT hC
    · exact cheap_err B rs RA rn rc sl A n c idle price w hU hQ hW hrr hr hB hrn hn h6 hf h0
  · exact cheap_far B rs RA rn rc sl A n c idle price w hU hQ hW hrr hr hB hrn hn h6 hf

end Go.Proofs.YtncbigkkmgnkmaaGreatDoor
end
