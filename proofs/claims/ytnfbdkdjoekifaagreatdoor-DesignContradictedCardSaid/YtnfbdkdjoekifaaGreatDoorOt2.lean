/- The law DesignContradicted: the walk. Printed by a program (gen_e5con.py).
DesignContradicted: the statement (a tied card). For every input the law returns true, and each argument reads afterwards as it read before, where the package's tables stand as its initialisers lay them. Printed by a program (gen_card.py). -/
import Derived.Test.YtnfbdkdjoekifaaGreatDoorOt1
import Derived.Test.YtnfbdkdjoekifaaGreatDoorOr1
import Derived.Test.YtnfbdkdjoekifaaGreatDoorOn6
import Derived.Test.YtnfbdkdjoekifaaGreatDoorOn5
import Derived.Test.YtnfbdkdjoekifaaGreatDoorOn9
import Derived.Test.YtnfbdkdjoekifaaGreatDoorCards
import Derived.Test.YtnfbdkdjoekifaaGreatDoorTie
import Derived.Lay
import Derived.LaidLaws
import Derived.LaidHandle
import Derived.MakeChecks
import Derived.SevenTiedAt

section
namespace Go.Proofs.YtnfbdkdjoekifaaGreatDoor
open Go.RowKit

set_option maxRecDepth 100000 in
set_option maxHeartbeats 4000000 in
theorem contra_far (B : Nat) (rs : List DReq) (RA : Option Addr) (rn rc : Nat) (sl : List (List DPart)) (A : Option Addr) (n c : Nat) (idle price : Int) (w : World) (hU : UnitIn w) (hQ : TabS 1 qWords w) (hW : TabS 0 uWords w) (hrr : ReqsIn B w RA rs) (hr : SlotsIn B w A sl) (hB : B ≤ w.heap.size) (hrn : rs.length = rn) (hn : sl.length = n) (_h6 : Six sl) (hf : ¬ FewP rs sl) :
    Calls Tryz.prog 3 #[.agg #[.slice RA rn rc], .agg #[.slice A n c, .int .i64 idle, .int .i64 price]] w fun e w' => e = .returned (.bool true) ∧ Below w.heap.size w w' := by
  have HAw := Lib.hid (awake_any ((w.alloc (.cells #[.slice RA rn rc] 24)).alloc (.cells #[.slice A n c, .int .i64 idle, .int .i64 price] 27)) (hU.below (pa (pa pr))) (hQ.below (pa (pa pr))) (hW.below (pa (pa pr))))
  have HFe := Lib.hid (fun W (hW : Below w.heap.size w W) => (show Calls Tryz.prog 7 #[.agg #[.slice RA rn rc], .agg #[.slice A n c, .int .i64 idle, .int .i64 price]] W fun e w' => e = .returned (.bool false) ∧ Below W.heap.size W w' from (few_any B rs RA rn rc sl A n c idle price W (hrr.below (hW.mono hB)) (hr.below (hW.mono hB)) (Nat.le_trans hB hW.size) hrn hn).mono fun e w' h => by
    obtain ⟨⟨f, rfl, hfi⟩, hb⟩ := h
    cases f
    · exact ⟨rfl, hb⟩
    · exact absurd (hfi.1 rfl) hf))
  have HB0 := Lib.hid (show Below w.heap.size w ((w.alloc (.cells #[.slice RA rn rc] 24)).alloc (.cells #[.slice A n c, .int .i64 idle, .int .i64 price] 27)) from pa (pa pr))
  have R0 := Lib.hid (show Blk ((w.alloc (.cells #[.slice RA rn rc] 24)).alloc (.cells #[.slice A n c, .int .i64 idle, .int .i64 price] 27)) w.heap.size 24 #[.slice RA rn rc] from (Blk.newAt rfl).alloc)
  have K0 := Lib.hid (show Blk ((w.alloc (.cells #[.slice RA rn rc] 24)).alloc (.cells #[.slice A n c, .int .i64 idle, .int .i64 price] 27)) (w.heap.size + 1) 27 #[.slice A n c, .int .i64 idle, .int .i64 price] from Blk.newAt (by simp))
  clear hU hQ hW hrr hr hn hrn _h6
  go_enter Tryz.func3, Tryz.ntmps3
  go_wp2_with (first
    | (go_at_call 6; refine HAw.out.mono ?_; rintro e w1 ⟨rfl, hb⟩; have HB1 := Lib.hid (pt HB0.out hb); have R1 := Lib.hid (R0.out.past hb); have K1 := Lib.hid (K0.out.past hb); clear hb; have x0 := R1.out.cellAt 0 rfl; have y0 := K1.out.cellAt 0 rfl; have y1 := K1.out.cellAt 1 rfl; have y2 := K1.out.cellAt 2 rfl; have xl := R1.out.lt; have yl := K1.out.lt)
    | (go_at_call 7; refine (HFe.out _ HB1.out).mono ?_; rintro e w2 ⟨rfl, hb⟩; have HB2 := Lib.hid (pt HB1.out hb); have R2 := Lib.hid (R1.out.past hb); have K2 := Lib.hid (K1.out.past hb); clear x0 y0 y1 y2 xl yl; clear hb; have x0 := R2.out.cellAt 0 rfl; have y0 := K2.out.cellAt 0 rfl; have y1 := K2.out.cellAt 1 rfl; have y2 := K2.out.cellAt 2 rfl; have xl := R2.out.lt; have yl := K2.out.lt))
  go_ret
  exact ⟨rfl, HB2.out⟩

set_option maxRecDepth 100000 in
set_option maxHeartbeats 4000000 in
theorem contra_err (B : Nat) (rs : List DReq) (RA : Option Addr) (rn rc : Nat) (sl : List (List DPart)) (A : Option Addr) (n c : Nat) (idle price : Int) (w : World) (hU : UnitIn w) (hQ : TabS 1 qWords w) (hW : TabS 0 uWords w) (hrr : ReqsIn B w RA rs) (hr : SlotsIn B w A sl) (hB : B ≤ w.heap.size) (hrn : rs.length = rn) (hn : sl.length = n) (_h6 : Six sl) (hf : FewP rs sl) (h0 : openE rs idle price sl ≠ 0) :
    Calls Tryz.prog 3 #[.agg #[.slice RA rn rc], .agg #[.slice A n c, .int .i64 idle, .int .i64 price]] w fun e w' => e = .returned (.bool true) ∧ Below w.heap.size w w' := by
  obtain ⟨f1, f2, f3, f4⟩ := few_bd2 hf
  have hn7 : n ≤ 7 := by omega
  have hr8 : rn ≤ 8 := by omega
  have HAw := Lib.hid (awake_any ((w.alloc (.cells #[.slice RA rn rc] 24)).alloc (.cells #[.slice A n c, .int .i64 idle, .int .i64 price] 27)) (hU.below (pa (pa pr))) (hQ.below (pa (pa pr))) (hW.below (pa (pa pr))))
  have HFe := Lib.hid (fun W (hW : Below w.heap.size w W) => (show Calls Tryz.prog 7 #[.agg #[.slice RA rn rc], .agg #[.slice A n c, .int .i64 idle, .int .i64 price]] W fun e w' => e = .returned (.bool true) ∧ Below W.heap.size W w' from (few_any B rs RA rn rc sl A n c idle price W (hrr.below (hW.mono hB)) (hr.below (hW.mono hB)) (Nat.le_trans hB hW.size) hrn hn).mono fun e w' h => by
    obtain ⟨⟨f, rfl, hfi⟩, hb⟩ := h
    cases f
    · exact absurd (hfi.2 hf) (by decide)
    · exact ⟨rfl, hb⟩))
  have HBo := Lib.hid (fun W (hW : Below w.heap.size w W) => bothErr_any B rs RA rn rc sl A n c idle price W (hrr.below (hW.mono hB)) (hr.below (hW.mono hB)) (Nat.le_trans hB hW.size) hrn hn (by omega) f2 f4)
  have z1 : (openE rs idle price sl != 0) = true := by simpa using h0
  generalize openE rs idle price sl = E at *
  have HB0 := Lib.hid (show Below w.heap.size w ((w.alloc (.cells #[.slice RA rn rc] 24)).alloc (.cells #[.slice A n c, .int .i64 idle, .int .i64 price] 27)) from pa (pa pr))
  have R0 := Lib.hid (show Blk ((w.alloc (.cells #[.slice RA rn rc] 24)).alloc (.cells #[.slice A n c, .int .i64 idle, .int .i64 price] 27)) w.heap.size 24 #[.slice RA rn rc] from (Blk.newAt rfl).alloc)
  have K0 := Lib.hid (show Blk ((w.alloc (.cells #[.slice RA rn rc] 24)).alloc (.cells #[.slice A n c, .int .i64 idle, .int .i64 price] 27)) (w.heap.size + 1) 27 #[.slice A n c, .int .i64 idle, .int .i64 price] from Blk.newAt (by simp))
  clear hU hQ hW hrr hr hn hrn _h6 f1 f2 f3 f4 h0
  go_enter Tryz.func3, Tryz.ntmps3
  go_wp2_with (first
    | (go_at_call 6; refine HAw.out.mono ?_; rintro e w1 ⟨rfl, hb⟩; have HB1 := Lib.hid (pt HB0.out hb); have R1 := Lib.hid (R0.out.past hb); have K1 := Lib.hid (K0.out.past hb); clear hb; have x0 := R1.out.cellAt 0 rfl; have y0 := K1.out.cellAt 0 rfl; have y1 := K1.out.cellAt 1 rfl; have y2 := K1.out.cellAt 2 rfl; have xl := R1.out.lt; have yl := K1.out.lt)
    | (go_at_call 7; refine (HFe.out _ HB1.out).mono ?_; rintro e w2 ⟨rfl, hb⟩; have HB2 := Lib.hid (pt HB1.out hb); have R2 := Lib.hid (R1.out.past hb); have K2 := Lib.hid (K1.out.past hb); clear x0 y0 y1 y2 xl yl; clear hb; have x0 := R2.out.cellAt 0 rfl; have y0 := K2.out.cellAt 0 rfl; have y1 := K2.out.cellAt 1 rfl; have y2 := K2.out.cellAt 2 rfl; have xl := R2.out.lt; have yl := K2.out.lt)
    | (go_at_call 8; refine (HBo.out _ HB2.out).mono ?_; rintro e w3 ⟨rfl, hb⟩; have HB3 := Lib.hid (pt HB2.out hb); have R3 := Lib.hid (R2.out.past hb); have K3 := Lib.hid (K2.out.past hb); clear x0 y0 y1 y2 xl yl; clear hb; have x0 := R3.out.cellAt 0 rfl; have y0 := K3.out.cellAt 0 rfl; have y1 := K3.out.cellAt 1 rfl; have y2 := K3.out.cellAt 2 rfl; have xl := R3.out.lt; have yl := K3.out.lt))
  go_ret
  exact ⟨rfl, HB3.out⟩

set_option maxRecDepth 100000 in
set_option maxHeartbeats 4000000 in
theorem contra_large (B : Nat) (rs : List DReq) (RA : Option Addr) (rn rc : Nat) (sl : List (List DPart)) (A : Option Addr) (n c : Nat) (idle price : Int) (w : World) (hU : UnitIn w) (hQ : TabS 1 qWords w) (hW : TabS 0 uWords w) (hrr : ReqsIn B w RA rs) (hr : SlotsIn B w A sl) (hB : B ≤ w.heap.size) (hrn : rs.length = rn) (hn : sl.length = n) (_h6 : Six sl) (hf : FewP rs sl) (h0 : openE rs idle price sl = 0) (hb : lightB sl = false) :
    Calls Tryz.prog 3 #[.agg #[.slice RA rn rc], .agg #[.slice A n c, .int .i64 idle, .int .i64 price]] w fun e w' => e = .returned (.bool true) ∧ Below w.heap.size w w' := by
  obtain ⟨f1, f2, f3, f4⟩ := few_bd2 hf
  have hn7 : n ≤ 7 := by omega
  have hr8 : rn ≤ 8 := by omega
  have HAw := Lib.hid (awake_any ((w.alloc (.cells #[.slice RA rn rc] 24)).alloc (.cells #[.slice A n c, .int .i64 idle, .int .i64 price] 27)) (hU.below (pa (pa pr))) (hQ.below (pa (pa pr))) (hW.below (pa (pa pr))))
  have HFe := Lib.hid (fun W (hW : Below w.heap.size w W) => (show Calls Tryz.prog 7 #[.agg #[.slice RA rn rc], .agg #[.slice A n c, .int .i64 idle, .int .i64 price]] W fun e w' => e = .returned (.bool true) ∧ Below W.heap.size W w' from (few_any B rs RA rn rc sl A n c idle price W (hrr.below (hW.mono hB)) (hr.below (hW.mono hB)) (Nat.le_trans hB hW.size) hrn hn).mono fun e w' h => by
    obtain ⟨⟨f, rfl, hfi⟩, hb⟩ := h
    cases f
    · exact absurd (hfi.2 hf) (by decide)
    · exact ⟨rfl, hb⟩))
  have HBo := Lib.hid (fun W (hW : Below w.heap.size w W) => bothErr_any B rs RA rn rc sl A n c idle price W (hrr.below (hW.mono hB)) (hr.below (hW.mono hB)) (Nat.le_trans hB hW.size) hrn hn (by omega) f2 f4)
  have HLi := Lib.hid (fun W (hW : Below w.heap.size w W) => light_any B sl A n c idle price W (hr.below (hW.mono hB)) (Nat.le_trans hB hW.size) hn (by omega) (fun l hl => (f4 l hl).1))
  rw [h0] at HBo
  rw [hb] at HLi
  have HB0 := Lib.hid (show Below w.heap.size w ((w.alloc (.cells #[.slice RA rn rc] 24)).alloc (.cells #[.slice A n c, .int .i64 idle, .int .i64 price] 27)) from pa (pa pr))
  have R0 := Lib.hid (show Blk ((w.alloc (.cells #[.slice RA rn rc] 24)).alloc (.cells #[.slice A n c, .int .i64 idle, .int .i64 price] 27)) w.heap.size 24 #[.slice RA rn rc] from (Blk.newAt rfl).alloc)
  have K0 := Lib.hid (show Blk ((w.alloc (.cells #[.slice RA rn rc] 24)).alloc (.cells #[.slice A n c, .int .i64 idle, .int .i64 price] 27)) (w.heap.size + 1) 27 #[.slice A n c, .int .i64 idle, .int .i64 price] from Blk.newAt (by simp))
  clear hU hQ hW hrr hr hn hrn _h6 f1 f2 f3 f4 h0 hb
  go_enter Tryz.func3, Tryz.ntmps3
  go_wp2_with (first
    | (go_at_call 6; refine HAw.out.mono ?_; rintro e w1 ⟨rfl, hb⟩; have HB1 := Lib.hid (pt HB0.out hb); have R1 := Lib.hid (R0.out.past hb); have K1 := Lib.hid (K0.out.past hb); clear hb; have x0 := R1.out.cellAt 0 rfl; have y0 := K1.out.cellAt 0 rfl; have y1 := K1.out.cellAt 1 rfl; have y2 := K1.out.cellAt 2 rfl; have xl := R1.out.lt; have yl := K1.out.lt)
    | (go_at_call 7; refine (HFe.out _ HB1.out).mono ?_; rintro e w2 ⟨rfl, hb⟩; have HB2 := Lib.hid (pt HB1.out hb); have R2 := Lib.hid (R1.out.past hb); have K2 := Lib.hid (K1.out.past hb); clear x0 y0 y1 y2 xl yl; clear hb; have x0 := R2.out.cellAt 0 rfl; have y0 := K2.out.cellAt 0 rfl; have y1 := K2.out.cellAt 1 rfl; have y2 := K2.out.cellAt 2 rfl; have xl := R2.out.lt; have yl := K2.out.lt)
    | (go_at_call 8; refine (HBo.out _ HB2.out).mono ?_; rintro e w3 ⟨rfl, hb⟩; have HB3 := Lib.hid (pt HB2.out hb); have R3 := Lib.hid (R2.out.past hb); have K3 := Lib.hid (K2.out.past hb); clear x0 y0 y1 y2 xl yl; clear hb; have x0 := R3.out.cellAt 0 rfl; have y0 := K3.out.cellAt 0 rfl; have y1 := K3.out.cellAt 1 rfl; have y2 := K3.out.cellAt 2 rfl; have xl := R3.out.lt; have yl := K3.out.lt)
    | (go_at_call 9; refine (HLi.out _ HB3.out).mono ?_; rintro e w4 ⟨rfl, hb⟩; have HB4 := Lib.hid (pt HB3.out hb); have R4 := Lib.hid (R3.out.past hb); have K4 := Lib.hid (K3.out.past hb); clear x0 y0 y1 y2 xl yl; clear hb; have x0 := R4.out.cellAt 0 rfl; have y0 := K4.out.cellAt 0 rfl; have y1 := K4.out.cellAt 1 rfl; have y2 := K4.out.cellAt 2 rfl; have xl := R4.out.lt; have yl := K4.out.lt))
  go_ret
  exact ⟨rfl, HB4.out⟩

set_option maxRecDepth 100000 in
set_option maxHeartbeats 16000000 in
theorem contra_some (B : Nat) (rs : List DReq) (RA : Option Addr) (rn rc : Nat) (sl : List (List DPart)) (A : Option Addr) (n c : Nat) (idle price : Int) (w : World) (hU : UnitIn w) (hQ : TabS 1 qWords w) (hW : TabS 0 uWords w) (hrr : ReqsIn B w RA rs) (hr : SlotsIn B w A sl) (hB : B ≤ w.heap.size) (hrn : rs.length = rn) (hn : sl.length = n) (h6 : Six sl) (hf : FewP rs sl) (h0 : openE rs idle price sl = 0) (hb : lightB sl = true) (l : List Int) (kk : Int) (hT : cheaF rs idle price sl (allC (slotN sl)) = some (l, kk)) (hC : contrV rs sl = none) :
    Calls Tryz.prog 3 #[.agg #[.slice RA rn rc], .agg #[.slice A n c, .int .i64 idle, .int .i64 price]] w fun e w' => e = .returned (.bool true) ∧ Below w.heap.size w w' := by
  obtain ⟨f1, f2, f3, f4⟩ := few_bd2 hf
  have hn7 : n ≤ 7 := by omega
  have hr8 : rn ≤ 8 := by omega
  have hok := openE_ok h6 h0
  have HAw := Lib.hid (awake_any ((w.alloc (.cells #[.slice RA rn rc] 24)).alloc (.cells #[.slice A n c, .int .i64 idle, .int .i64 price] 27)) (hU.below (pa (pa pr))) (hQ.below (pa (pa pr))) (hW.below (pa (pa pr))))
  have HFe := Lib.hid (fun W (hW : Below w.heap.size w W) => (show Calls Tryz.prog 7 #[.agg #[.slice RA rn rc], .agg #[.slice A n c, .int .i64 idle, .int .i64 price]] W fun e w' => e = .returned (.bool true) ∧ Below W.heap.size W w' from (few_any B rs RA rn rc sl A n c idle price W (hrr.below (hW.mono hB)) (hr.below (hW.mono hB)) (Nat.le_trans hB hW.size) hrn hn).mono fun e w' h => by
    obtain ⟨⟨f, rfl, hfi⟩, hb⟩ := h
    cases f
    · exact absurd (hfi.2 hf) (by decide)
    · exact ⟨rfl, hb⟩))
  have HCk := Lib.hid (fun W (hW : Below w.heap.size w W) => (show Calls Tryz.prog 12 #[.agg #[.slice A n c, .int .i64 idle, .int .i64 price]] W fun e w' => ∃ A2 c2, e = .returned (.agg #[.slice A2 n c2, .int .i64 idle, .int .i64 price]) ∧ SlotsIn w'.heap.size w' A2 sl ∧ Below W.heap.size W w' from (copyStock_any B sl A n c idle price W (hr.below (hW.mono hB)) (Nat.le_trans hB hW.size) hn (by omega) (fun l hl => (f4 l hl).1)).mono fun e w' h => by
    obtain ⟨A2, c2, rfl, h2, _, h3⟩ := h
    rw [hn]
    exact ⟨A2, c2, rfl, h2, h3⟩))
  have HCr := Lib.hid (fun W (hW : Below w.heap.size w W) => (show Calls Tryz.prog 11 #[.agg #[.slice RA rn rc]] W fun e w' => ∃ A2 c2, e = .returned (.agg #[.slice A2 rn c2]) ∧ ReqsIn w'.heap.size w' A2 rs ∧ Below W.heap.size W w' from (copySpec_any B rs RA rn rc W (hrr.below (hW.mono hB)) (Nat.le_trans hB hW.size) hrn (by omega) f2).mono fun e w' h => by
    obtain ⟨A2, c2, rfl, h2, _, h3⟩ := h
    rw [hrn]
    exact ⟨A2, c2, rfl, h2, h3⟩))
  have HBo := Lib.hid (fun W (hW : Below w.heap.size w W) => bothErr_any B rs RA rn rc sl A n c idle price W (hrr.below (hW.mono hB)) (hr.below (hW.mono hB)) (Nat.le_trans hB hW.size) hrn hn (by omega) f2 f4)
  have HLi := Lib.hid (fun W (hW : Below w.heap.size w W) => light_any B sl A n c idle price W (hr.below (hW.mono hB)) (Nat.le_trans hB hW.size) hn (by omega) (fun l hl => (f4 l hl).1))

  have h8 := cheapV_least (show cheapV (meetB rs sl) (costC idle price sl) (allC (slotN sl)) = some (l, kk) from hT)
  have hch := (allC_ok (sl := sl)).1 h8.1
  have hll : l.length = n := hch.1.trans hn
  have hmt : meetsV rs sl l = 2 := by
    have h7 := h8.2.1
    unfold meetB at h7
    exact of_decide_eq_true h7
  have hkk := h8.2.2.1
  have HCh := Lib.hid (fun (W : World) A1 c1 A2 c2 (hU : UnitIn W) (hx : ReqsIn W.heap.size W A1 rs) (hy : SlotsIn W.heap.size W A2 sl) => (show Calls Tryz.prog 10 #[.agg #[.slice A1 rn c1], .agg #[.slice A2 n c2, .int .i64 idle, .int .i64 price]] W fun e w' => ∃ A2 c2, e = .returned (.tuple #[.slice A2 n c2, .int .i64 kk, .int .i64 0]) ∧ IntsIn w'.heap.size w' A2 l ∧ Below W.heap.size W w' by
    have h := cheapest_ok W.heap.size rs A1 rn c1 sl A2 n c2 idle price W hx hy (Nat.le_refl _) hrn (by omega) f2 hU hn (by omega) f4 h6 h0
    rw [hT] at h
    refine h.mono fun e w' h9 => ?_
    obtain ⟨A2, c2, rfl, h7, _, h8⟩ := h9
    refine ⟨A2, c2, ?_, h7, h8⟩
    show _ = Ending.returned (.tuple #[.slice A2 n c2, .int .i64 kk, .int .i64 0])
    rw [← hll]
    rfl))
  have HCo := Lib.hid (fun (W : World) A1 c1 A2 c2 (hU : UnitIn W) (hx : ReqsIn W.heap.size W A1 rs) (hy : SlotsIn W.heap.size W A2 sl) => (show Calls Tryz.prog 13 #[.agg #[.slice A1 rn c1], .agg #[.slice A2 n c2, .int .i64 idle, .int .i64 price]] W fun e w' => ∃ A2 c2, e = .returned (.tuple #[.slice A2 0 c2, .int .i64 12]) ∧ Below W.heap.size W w' by
    have h := contradicting_any W.heap.size rs A1 rn c1 sl A2 n c2 idle price W hx hy (Nat.le_refl _) hrn (by omega) f2 hU hn (by omega) f4 h6
    unfold ctrL ctrE at h
    rw [if_pos h0, if_pos h0, hC] at h
    refine h.mono fun e w' h9 => ?_
    obtain ⟨A2, c2, rfl, h7, _, h8⟩ := h9
    exact ⟨A2, c2, rfl, h8⟩))
  rw [h0] at HBo
  rw [hb] at HLi
  have HUn := Lib.hid (fun W (hW' : Below w.heap.size w W) => hU.below hW')
  have HRc := Lib.hid (fun W A1 c1 (hW : Below w.heap.size w W) (hx : IntsIn W.heap.size W A1 l) => (show Calls Tryz.prog 14 #[.agg #[.slice A n c, .int .i64 idle, .int .i64 price], .slice A1 n c1] W fun e w' => e = .returned (.int .i64 0) ∧ Below W.heap.size W w' by
    have h := refChoiceErr_any W.heap.size sl A n c idle price l A1 n c1 W ((hr.below (hW.mono hB)).more (Nat.le_trans hB hW.size)) hx (Nat.le_refl _) hn hll (by omega) (fun l hl => (f4 l hl).1)
    rw [choiceE_of hch] at h
    exact h))
  have HRm := Lib.hid (fun W A1 c1 (hW : Below w.heap.size w W) (hx : IntsIn W.heap.size W A1 l) => (show Calls Tryz.prog 15 #[.agg #[.slice RA rn rc], .agg #[.slice A n c, .int .i64 idle, .int .i64 price], .slice A1 n c1] W fun e w' => e = .returned (.int .i64 2) ∧ Below W.heap.size W w' by
    have h := refMeets_any W.heap.size rs RA rn rc sl A n c idle price l A1 c1 W ((hrr.below (hW.mono hB)).more (Nat.le_trans hB hW.size)) ((hr.below (hW.mono hB)).more (Nat.le_trans hB hW.size)) hx (Nat.le_refl _) hrn (by omega) hn hok.s hch hok.r
    rw [hmt] at h
    exact h))
  have HRk := Lib.hid (fun W A1 c1 (hW : Below w.heap.size w W) (hx : IntsIn W.heap.size W A1 l) => (show Calls Tryz.prog 16 #[.agg #[.slice A n c, .int .i64 idle, .int .i64 price], .slice A1 n c1] W fun e w' => e = .returned (.int .i64 kk) ∧ Below W.heap.size W w' by
    have h := refCostOf_any W.heap.size sl A n c idle price l A1 c1 W ((hr.below (hW.mono hB)).more (Nat.le_trans hB hW.size)) hx (Nat.le_refl _) hn hok.s hch hok.i hok.p
    rw [hkk] at h
    exact h))
  have HB0 := Lib.hid (show Below w.heap.size w ((w.alloc (.cells #[.slice RA rn rc] 24)).alloc (.cells #[.slice A n c, .int .i64 idle, .int .i64 price] 27)) from pa (pa pr))
  have R0 := Lib.hid (show Blk ((w.alloc (.cells #[.slice RA rn rc] 24)).alloc (.cells #[.slice A n c, .int .i64 idle, .int .i64 price] 27)) w.heap.size 24 #[.slice RA rn rc] from (Blk.newAt rfl).alloc)
  have K0 := Lib.hid (show Blk ((w.alloc (.cells #[.slice RA rn rc] 24)).alloc (.cells #[.slice A n c, .int .i64 idle, .int .i64 price] 27)) (w.heap.size + 1) 27 #[.slice A n c, .int .i64 idle, .int .i64 price] from Blk.newAt (by simp))
  clear hU hQ hW hrr hr hn hrn h6 f1 f2 f3 f4 h0 hok hT hC hf hb h8 hch hll hmt hkk
  go_enter Tryz.func3, Tryz.ntmps3
  go_wp2_with (first
    | (go_at_call 6; refine HAw.out.mono ?_; rintro e w1 ⟨rfl, hb⟩; have HB1 := Lib.hid (pt HB0.out hb); have R1 := Lib.hid (R0.out.past hb); have K1 := Lib.hid (K0.out.past hb); clear hb; have x0 := R1.out.cellAt 0 rfl; have y0 := K1.out.cellAt 0 rfl; have y1 := K1.out.cellAt 1 rfl; have y2 := K1.out.cellAt 2 rfl; have xl := R1.out.lt; have yl := K1.out.lt)
    | (go_at_call 7; refine (HFe.out _ HB1.out).mono ?_; rintro e w2 ⟨rfl, hb⟩; have HB2 := Lib.hid (pt HB1.out hb); have R2 := Lib.hid (R1.out.past hb); have K2 := Lib.hid (K1.out.past hb); clear x0 y0 y1 y2 xl yl; clear hb; have x0 := R2.out.cellAt 0 rfl; have y0 := K2.out.cellAt 0 rfl; have y1 := K2.out.cellAt 1 rfl; have y2 := K2.out.cellAt 2 rfl; have xl := R2.out.lt; have yl := K2.out.lt)
    | (go_at_call 8; refine (HBo.out _ HB2.out).mono ?_; rintro e w3 ⟨rfl, hb⟩; have HB3 := Lib.hid (pt HB2.out hb); have R3 := Lib.hid (R2.out.past hb); have K3 := Lib.hid (K2.out.past hb); clear x0 y0 y1 y2 xl yl; clear hb; have x0 := R3.out.cellAt 0 rfl; have y0 := K3.out.cellAt 0 rfl; have y1 := K3.out.cellAt 1 rfl; have y2 := K3.out.cellAt 2 rfl; have xl := R3.out.lt; have yl := K3.out.lt)
    | (go_at_call 9; refine (HLi.out _ HB3.out).mono ?_; rintro e w4 ⟨rfl, hb⟩; have HB4 := Lib.hid (pt HB3.out hb); have R4 := Lib.hid (R3.out.past hb); have K4 := Lib.hid (K3.out.past hb); clear x0 y0 y1 y2 xl yl; clear hb; have x0 := R4.out.cellAt 0 rfl; have y0 := K4.out.cellAt 0 rfl; have y1 := K4.out.cellAt 1 rfl; have y2 := K4.out.cellAt 2 rfl; have xl := R4.out.lt; have yl := K4.out.lt))
  clear R0 R1 R2 R3 K0 K1 K2 K3 HB0 HB1 HB2 HB3 HAw HFe HLi HBo
  have HSS := Lib.hid (show ∀ W, Hid (Below w4.heap.size w4 W) → Hid (Below w4.heap.size w4 W) ∧ W.cell? ⟨w.heap.size, 0, none⟩ = some (.slice RA rn rc) ∧ W.cell? ⟨w.heap.size + 1, 0, none⟩ = some (.slice A n c) ∧ W.cell? ⟨w.heap.size + 1, 1, none⟩ = some (.int .i64 idle) ∧ W.cell? ⟨w.heap.size + 1, 2, none⟩ = some (.int .i64 price) from fun W hW => ⟨hW, (R4.out.past hW.out).cellAt 0 rfl, (K4.out.past hW.out).cellAt 0 rfl, (K4.out.past hW.out).cellAt 1 rfl, (K4.out.past hW.out).cellAt 2 rfl⟩)
  clear x0 y0 y1 y2
  go_region_held3 (fun w' => Hid (Below w4.heap.size w4 w') ∧ w'.cell? ⟨w.heap.size, 0, none⟩ = some (.slice RA rn rc) ∧ w'.cell? ⟨w.heap.size + 1, 0, none⟩ = some (.slice A n c) ∧ w'.cell? ⟨w.heap.size + 1, 1, none⟩ = some (.int .i64 idle) ∧ w'.cell? ⟨w.heap.size + 1, 2, none⟩ = some (.int .i64 price)) ((refine HSS.out _ (Lib.hid ?_); repeat (first | assumption | (with_reducible exact pr) | (with_reducible refine pd ?_) | (with_reducible refine pa ?_) | (with_reducible refine pt ?_ (by assumption)))))
    ((first
      | (go_at_call 11; (with_reducible refine (HCr.out _ (pd HB4.out)).mono ?_); rintro e w5 ⟨A5, c5, rfl, hs5, hb5⟩; have HS5 := Lib.hid hs5)
      | (go_at_call 12; (with_reducible refine (HCk.out _ (pt (pd HB4.out) hb5)).mono ?_); rintro e w6 ⟨A6, c6, rfl, hs6, hb6⟩; have HS6 := Lib.hid hs6)
      | (go_at_call 10; (with_reducible refine (HCh.out _ A5 c5 A6 c6 (HUn.out _ (pt (pt (pd HB4.out) hb5) hb6)) (HS5.out.past (Nat.le_refl _) hb6) HS6.out).mono ?_); rintro e w7 ⟨A7, c7, rfl, hi7, hb7⟩; have HI7 := Lib.hid hi7)))
  have HB7 := Lib.hid (show Below w.heap.size w w7 from pt (pt (pt (pd HB4.out) hb5) hb6) hb7)
  have HBl7 := Lib.hid (show Below w4.heap.size w4 w7 from pt (pt (pt (pd pr) hb5) hb6) hb7)
  have R7 := Lib.hid (R4.out.past HBl7.out)
  have K7 := Lib.hid (K4.out.past HBl7.out)
  clear HSS xl yl hs5 hs6 hb5 hb6 hb7 HS5 HS6 R4 K4 HB4
  have x0 := R7.out.cellAt 0 rfl; have y0 := K7.out.cellAt 0 rfl; have y1 := K7.out.cellAt 1 rfl; have y2 := K7.out.cellAt 2 rfl; have xl := R7.out.lt; have yl := K7.out.lt
  clear hi7
  go_wp2
  have HSS := Lib.hid (show ∀ W, Hid (Below w7.heap.size w7 W) → Hid (Below w7.heap.size w7 W) ∧ W.cell? ⟨w.heap.size, 0, none⟩ = some (.slice RA rn rc) ∧ W.cell? ⟨w.heap.size + 1, 0, none⟩ = some (.slice A n c) ∧ W.cell? ⟨w.heap.size + 1, 1, none⟩ = some (.int .i64 idle) ∧ W.cell? ⟨w.heap.size + 1, 2, none⟩ = some (.int .i64 price) from fun W hW => ⟨hW, (R7.out.past hW.out).cellAt 0 rfl, (K7.out.past hW.out).cellAt 0 rfl, (K7.out.past hW.out).cellAt 1 rfl, (K7.out.past hW.out).cellAt 2 rfl⟩)
  clear x0 y0 y1 y2
  go_region_held3 (fun w' => Hid (Below w7.heap.size w7 w') ∧ w'.cell? ⟨w.heap.size, 0, none⟩ = some (.slice RA rn rc) ∧ w'.cell? ⟨w.heap.size + 1, 0, none⟩ = some (.slice A n c) ∧ w'.cell? ⟨w.heap.size + 1, 1, none⟩ = some (.int .i64 idle) ∧ w'.cell? ⟨w.heap.size + 1, 2, none⟩ = some (.int .i64 price)) ((refine HSS.out _ (Lib.hid ?_); repeat (first | assumption | (with_reducible exact pr) | (with_reducible refine pd ?_) | (with_reducible refine pa ?_) | (with_reducible refine pt ?_ (by assumption)))))
    ((first
      | (go_at_call 11; (with_reducible refine (HCr.out _ (pd HB7.out)).mono ?_); rintro e w8 ⟨A8, c8, rfl, hs8, hb8⟩; have HS8 := Lib.hid hs8)
      | (go_at_call 12; (with_reducible refine (HCk.out _ (pt (pd HB7.out) hb8)).mono ?_); rintro e w9 ⟨A9, c9, rfl, hs9, hb9⟩; have HS9 := Lib.hid hs9)
      | (go_at_call 13; (with_reducible refine (HCo.out _ A8 c8 A9 c9 (HUn.out _ (pt (pt (pd HB7.out) hb8) hb9)) (HS8.out.past (Nat.le_refl _) hb9) HS9.out).mono ?_); rintro e w10 ⟨A10, c10, rfl, hb10⟩)))
  have HB10 := Lib.hid (show Below w.heap.size w w10 from pt (pt (pt (pd HB7.out) hb8) hb9) hb10)
  have HBl10 := Lib.hid (show Below w7.heap.size w7 w10 from pt (pt (pt (pd pr) hb8) hb9) hb10)
  have R10 := Lib.hid (R7.out.past HBl10.out)
  have K10 := Lib.hid (K7.out.past HBl10.out)
  clear HSS xl yl hs8 hs9 hb8 hb9 hb10 HS8 HS9 R7 K7 HB7
  have x0 := R10.out.cellAt 0 rfl; have y0 := K10.out.cellAt 0 rfl; have y1 := K10.out.cellAt 1 rfl; have y2 := K10.out.cellAt 2 rfl; have xl := R10.out.lt; have yl := K10.out.lt
  have HI10 := Lib.hid ((HI7.out.below HBl10.out).more HBl10.out.size)
  go_wp2_with (first
    | (go_at_call 14; refine (HRc.out _ _ _ HB10.out HI10.out).mono ?_; rintro e w11 ⟨rfl, hb⟩; have HI11 := Lib.hid ((HI10.out.below hb).more hb.size); have HB11 := Lib.hid (pt HB10.out hb); have R11 := Lib.hid (R10.out.past hb); have K11 := Lib.hid (K10.out.past hb); clear x0 y0 y1 y2 xl yl; clear hb; have x0 := R11.out.cellAt 0 rfl; have y0 := K11.out.cellAt 0 rfl; have y1 := K11.out.cellAt 1 rfl; have y2 := K11.out.cellAt 2 rfl; have xl := R11.out.lt; have yl := K11.out.lt)
    | (go_at_call 15; refine (HRm.out _ _ _ HB11.out HI11.out).mono ?_; rintro e w12 ⟨rfl, hb⟩; have HI12 := Lib.hid ((HI11.out.below hb).more hb.size); have HB12 := Lib.hid (pt HB11.out hb); have R12 := Lib.hid (R11.out.past hb); have K12 := Lib.hid (K11.out.past hb); clear x0 y0 y1 y2 xl yl; clear hb; have x0 := R12.out.cellAt 0 rfl; have y0 := K12.out.cellAt 0 rfl; have y1 := K12.out.cellAt 1 rfl; have y2 := K12.out.cellAt 2 rfl; have xl := R12.out.lt; have yl := K12.out.lt)
    | (go_at_call 16; refine (HRk.out _ _ _ HB12.out HI12.out).mono ?_; rintro e w13 ⟨rfl, hb⟩; have HB13 := Lib.hid (pt HB12.out hb); have R13 := Lib.hid (R12.out.past hb); have K13 := Lib.hid (K12.out.past hb); clear x0 y0 y1 y2 xl yl; clear hb; have x0 := R13.out.cellAt 0 rfl; have y0 := K13.out.cellAt 0 rfl; have y1 := K13.out.cellAt 1 rfl; have y2 := K13.out.cellAt 2 rfl; have xl := R13.out.lt; have yl := K13.out.lt))
  go_ret
  exact ⟨rfl, HB13.out⟩

set_option maxRecDepth 100000 in
set_option maxHeartbeats 16000000 in
theorem contra_none (B : Nat) (rs : List DReq) (RA : Option Addr) (rn rc : Nat) (sl : List (List DPart)) (A : Option Addr) (n c : Nat) (idle price : Int) (w : World) (hU : UnitIn w) (hQ : TabS 1 qWords w) (hW : TabS 0 uWords w) (hrr : ReqsIn B w RA rs) (hr : SlotsIn B w A sl) (hB : B ≤ w.heap.size) (hrn : rs.length = rn) (hn : sl.length = n) (h6 : Six sl) (hf : FewP rs sl) (h0 : openE rs idle price sl = 0) (hb : lightB sl = true) (s : List Int) (hT : cheaF rs idle price sl (allC (slotN sl)) = none) (hC : contrV rs sl = some s) :
    Calls Tryz.prog 3 #[.agg #[.slice RA rn rc], .agg #[.slice A n c, .int .i64 idle, .int .i64 price]] w fun e w' => e = .returned (.bool true) ∧ Below w.heap.size w w' := by
  obtain ⟨f1, f2, f3, f4⟩ := few_bd2 hf
  have hn7 : n ≤ 7 := by omega
  have hr8 : rn ≤ 8 := by omega
  have hok := openE_ok h6 h0
  have HAw := Lib.hid (awake_any ((w.alloc (.cells #[.slice RA rn rc] 24)).alloc (.cells #[.slice A n c, .int .i64 idle, .int .i64 price] 27)) (hU.below (pa (pa pr))) (hQ.below (pa (pa pr))) (hW.below (pa (pa pr))))
  have HFe := Lib.hid (fun W (hW : Below w.heap.size w W) => (show Calls Tryz.prog 7 #[.agg #[.slice RA rn rc], .agg #[.slice A n c, .int .i64 idle, .int .i64 price]] W fun e w' => e = .returned (.bool true) ∧ Below W.heap.size W w' from (few_any B rs RA rn rc sl A n c idle price W (hrr.below (hW.mono hB)) (hr.below (hW.mono hB)) (Nat.le_trans hB hW.size) hrn hn).mono fun e w' h => by
    obtain ⟨⟨f, rfl, hfi⟩, hb⟩ := h
    cases f
    · exact absurd (hfi.2 hf) (by decide)
    · exact ⟨rfl, hb⟩))
  have HCk := Lib.hid (fun W (hW : Below w.heap.size w W) => (show Calls Tryz.prog 12 #[.agg #[.slice A n c, .int .i64 idle, .int .i64 price]] W fun e w' => ∃ A2 c2, e = .returned (.agg #[.slice A2 n c2, .int .i64 idle, .int .i64 price]) ∧ SlotsIn w'.heap.size w' A2 sl ∧ Below W.heap.size W w' from (copyStock_any B sl A n c idle price W (hr.below (hW.mono hB)) (Nat.le_trans hB hW.size) hn (by omega) (fun l hl => (f4 l hl).1)).mono fun e w' h => by
    obtain ⟨A2, c2, rfl, h2, _, h3⟩ := h
    rw [hn]
    exact ⟨A2, c2, rfl, h2, h3⟩))
  have HCr := Lib.hid (fun W (hW : Below w.heap.size w W) => (show Calls Tryz.prog 11 #[.agg #[.slice RA rn rc]] W fun e w' => ∃ A2 c2, e = .returned (.agg #[.slice A2 rn c2]) ∧ ReqsIn w'.heap.size w' A2 rs ∧ Below W.heap.size W w' from (copySpec_any B rs RA rn rc W (hrr.below (hW.mono hB)) (Nat.le_trans hB hW.size) hrn (by omega) f2).mono fun e w' h => by
    obtain ⟨A2, c2, rfl, h2, _, h3⟩ := h
    rw [hrn]
    exact ⟨A2, c2, rfl, h2, h3⟩))
  have HBo := Lib.hid (fun W (hW : Below w.heap.size w W) => bothErr_any B rs RA rn rc sl A n c idle price W (hrr.below (hW.mono hB)) (hr.below (hW.mono hB)) (Nat.le_trans hB hW.size) hrn hn (by omega) f2 f4)
  have HLi := Lib.hid (fun W (hW : Below w.heap.size w W) => light_any B sl A n c idle price W (hr.below (hW.mono hB)) (Nat.le_trans hB hW.size) hn (by omega) (fun l hl => (f4 l hl).1))

  have HCh := Lib.hid (fun (W : World) A1 c1 A2 c2 (hU : UnitIn W) (hx : ReqsIn W.heap.size W A1 rs) (hy : SlotsIn W.heap.size W A2 sl) => (show Calls Tryz.prog 10 #[.agg #[.slice A1 rn c1], .agg #[.slice A2 n c2, .int .i64 idle, .int .i64 price]] W fun e w' => ∃ A2 c2, e = .returned (.tuple #[.slice A2 0 c2, .int .i64 0, .int .i64 12]) ∧ Below W.heap.size W w' by
    have h := cheapest_ok W.heap.size rs A1 rn c1 sl A2 n c2 idle price W hx hy (Nat.le_refl _) hrn (by omega) f2 hU hn (by omega) f4 h6 h0
    rw [hT] at h
    refine h.mono fun e w' h9 => ?_
    obtain ⟨A2, c2, rfl, h7, _, h8⟩ := h9
    exact ⟨A2, c2, rfl, h8⟩))
  have HCo := Lib.hid (fun (W : World) A1 c1 A2 c2 (hU : UnitIn W) (hx : ReqsIn W.heap.size W A1 rs) (hy : SlotsIn W.heap.size W A2 sl) => (show Calls Tryz.prog 13 #[.agg #[.slice A1 rn c1], .agg #[.slice A2 n c2, .int .i64 idle, .int .i64 price]] W fun e w' => ∃ A2 c2, e = .returned (.tuple #[.slice A2 s.length c2, .int .i64 0]) ∧ IntsIn w'.heap.size w' A2 s ∧ Below W.heap.size W w' by
    have h := contradicting_any W.heap.size rs A1 rn c1 sl A2 n c2 idle price W hx hy (Nat.le_refl _) hrn (by omega) f2 hU hn (by omega) f4 h6
    unfold ctrL ctrE at h
    rw [if_pos h0, if_pos h0, hC] at h
    refine h.mono fun e w' h9 => ?_
    obtain ⟨A2, c2, rfl, h7, _, h8⟩ := h9
    exact ⟨A2, c2, rfl, h7, h8⟩))
  rw [h0] at HBo
  rw [hb] at HLi
  have HUn := Lib.hid (fun W (hW' : Below w.heap.size w W) => hU.below hW')
  have hct := ctr_ok (idle := idle) (price := price) hC
  have hr6 : rn ≤ 6 := by rw [← hrn]; exact hok.n
  have hsn : s.length ≤ rn := by rw [← hrn]; exact hct.le
  have hs1 := hct.pos
  have HBd := Lib.hid (fun j (hj : j < s.length) => (show 0 ≤ s.getD j 0 ∧ s.getD j 0 < (rn : Int) by have h := hct.bd j hj; rw [hrn] at h; exact h))
  have HAs := Lib.hid hct.asc
  have HErr := Lib.hid (fun wo (hw : -1 ≤ wo) (hw2 : wo < (s.length : Int)) (hl : 0 < (skipL s wo s.length).length) => ctr_err (idle := idle) (price := price) hct h0 (by rw [hrn]; exact hr6) hw hw2 hl)
  have HChP := Lib.hid (fun (W : World) wo L A1 c1 A2 c2 (hU : UnitIn W) (hw : -1 ≤ wo) (hw2 : wo < (s.length : Int)) (hl : (skipL s wo s.length).length = L) (hL : 0 < L) (hx : ReqsIn W.heap.size W A1 (pickR rs (skipL s wo s.length))) (hy : SlotsIn W.heap.size W A2 sl) => (show Calls Tryz.prog 10 #[.agg #[.slice A1 L c1], .agg #[.slice A2 n c2, .int .i64 idle, .int .i64 price]] W fun e w' => ∃ A3 L3 c3 n3, e = .returned (.tuple #[.slice A3 L3 c3, .int .i64 n3, .int .i64 (if wo < 0 then 12 else 0)]) ∧ Below W.heap.size W w' by
    obtain ⟨k1, k2⟩ := ctr_err (idle := idle) (price := price) hct h0 (by rw [hrn]; exact hr6) hw hw2 (by omega)
    have hpl := pick_len rs (skipL s wo s.length)
    have hsl := skip_len s wo s.length
    have h := cheapest_ok W.heap.size (pickR rs (skipL s wo s.length)) A1 L c1 sl A2 n c2 idle price W hx hy (Nat.le_refl _) (hpl.trans hl) (by omega) (fun r hr => by
      unfold pickR at hr
      obtain ⟨i, hi, rfl⟩ := List.mem_map.1 hr
      rcases Nat.lt_or_ge i.toNat rs.length with h3 | h3
      · exact f2 _ (getD_mem' h3)
      · have e : rs.getD i.toNat default = default := by rw [List.getD_eq_getElem?_getD, List.getElem?_eq_none h3]; rfl
        rw [e]
        exact Nat.zero_le _) hU hn (by omega) f4 h6 k1
    rw [k2] at h
    refine h.mono fun e w' h9 => ?_
    obtain ⟨A3, c3, rfl, _, _, h7⟩ := h9
    exact ⟨A3, _, c3, _, rfl, h7⟩))
  have HCrP := Lib.hid (fun (W : World) (q : List DReq) L A1 c1 (hx : ReqsIn W.heap.size W A1 q) (hl : q.length = L) (hL : L ≤ 1000) (hq : ∀ r ∈ q, r.ts.length ≤ 1000) => (show Calls Tryz.prog 11 #[.agg #[.slice A1 L c1]] W fun e w' => ∃ A2 c2, e = .returned (.agg #[.slice A2 L c2]) ∧ ReqsIn w'.heap.size w' A2 q ∧ Below W.heap.size W w' from (copySpec_any W.heap.size q A1 L c1 W hx (Nat.le_refl _) hl hL hq).mono fun e w' h => by
    obtain ⟨A2, c2, rfl, h2, _, h3⟩ := h
    rw [hl]
    exact ⟨A2, c2, rfl, h2, h3⟩))
  have HPl := Lib.hid (fun set => pick_len rs set)
  have HPts := Lib.hid (fun set => (show ∀ r ∈ pickR rs set, r.ts.length ≤ 1000 from fun r hr => by
    unfold pickR at hr
    obtain ⟨i, hi, rfl⟩ := List.mem_map.1 hr
    rcases Nat.lt_or_ge i.toNat rs.length with h3 | h3
    · exact f2 _ (getD_mem' h3)
    · have e : rs.getD i.toNat default = default := by rw [List.getD_eq_getElem?_getD, List.getElem?_eq_none h3]; rfl
      rw [e]
      exact Nat.zero_le _))
  have HRR := Lib.hid hrr
  have HRn := Lib.hid hrn
  obtain ⟨i0, hi0, hiz, his, hib⟩ := info_partsC req_infoC
  have HB0 := Lib.hid (show Below w.heap.size w ((w.alloc (.cells #[.slice RA rn rc] 24)).alloc (.cells #[.slice A n c, .int .i64 idle, .int .i64 price] 27)) from pa (pa pr))
  have R0 := Lib.hid (show Blk ((w.alloc (.cells #[.slice RA rn rc] 24)).alloc (.cells #[.slice A n c, .int .i64 idle, .int .i64 price] 27)) w.heap.size 24 #[.slice RA rn rc] from (Blk.newAt rfl).alloc)
  have K0 := Lib.hid (show Blk ((w.alloc (.cells #[.slice RA rn rc] 24)).alloc (.cells #[.slice A n c, .int .i64 idle, .int .i64 price] 27)) (w.heap.size + 1) 27 #[.slice A n c, .int .i64 idle, .int .i64 price] from Blk.newAt (by simp))
  clear hU hQ hW hrr hr hn hrn h6 f1 f2 f3 f4 h0 hok hT hC hf hb hct
  go_enter Tryz.func3, Tryz.ntmps3
  go_wp2_with (first
    | (go_at_call 6; refine HAw.out.mono ?_; rintro e w1 ⟨rfl, hb⟩; have HB1 := Lib.hid (pt HB0.out hb); have R1 := Lib.hid (R0.out.past hb); have K1 := Lib.hid (K0.out.past hb); clear hb; have x0 := R1.out.cellAt 0 rfl; have y0 := K1.out.cellAt 0 rfl; have y1 := K1.out.cellAt 1 rfl; have y2 := K1.out.cellAt 2 rfl; have xl := R1.out.lt; have yl := K1.out.lt)
    | (go_at_call 7; refine (HFe.out _ HB1.out).mono ?_; rintro e w2 ⟨rfl, hb⟩; have HB2 := Lib.hid (pt HB1.out hb); have R2 := Lib.hid (R1.out.past hb); have K2 := Lib.hid (K1.out.past hb); clear x0 y0 y1 y2 xl yl; clear hb; have x0 := R2.out.cellAt 0 rfl; have y0 := K2.out.cellAt 0 rfl; have y1 := K2.out.cellAt 1 rfl; have y2 := K2.out.cellAt 2 rfl; have xl := R2.out.lt; have yl := K2.out.lt)
    | (go_at_call 8; refine (HBo.out _ HB2.out).mono ?_; rintro e w3 ⟨rfl, hb⟩; have HB3 := Lib.hid (pt HB2.out hb); have R3 := Lib.hid (R2.out.past hb); have K3 := Lib.hid (K2.out.past hb); clear x0 y0 y1 y2 xl yl; clear hb; have x0 := R3.out.cellAt 0 rfl; have y0 := K3.out.cellAt 0 rfl; have y1 := K3.out.cellAt 1 rfl; have y2 := K3.out.cellAt 2 rfl; have xl := R3.out.lt; have yl := K3.out.lt)
    | (go_at_call 9; refine (HLi.out _ HB3.out).mono ?_; rintro e w4 ⟨rfl, hb⟩; have HB4 := Lib.hid (pt HB3.out hb); have R4 := Lib.hid (R3.out.past hb); have K4 := Lib.hid (K3.out.past hb); clear x0 y0 y1 y2 xl yl; clear hb; have x0 := R4.out.cellAt 0 rfl; have y0 := K4.out.cellAt 0 rfl; have y1 := K4.out.cellAt 1 rfl; have y2 := K4.out.cellAt 2 rfl; have xl := R4.out.lt; have yl := K4.out.lt))
  clear R0 R1 R2 R3 K0 K1 K2 K3 HB0 HB1 HB2 HB3 HAw HFe HLi HBo
  have HSS := Lib.hid (show ∀ W, Hid (Below w4.heap.size w4 W) → Hid (Below w4.heap.size w4 W) ∧ W.cell? ⟨w.heap.size, 0, none⟩ = some (.slice RA rn rc) ∧ W.cell? ⟨w.heap.size + 1, 0, none⟩ = some (.slice A n c) ∧ W.cell? ⟨w.heap.size + 1, 1, none⟩ = some (.int .i64 idle) ∧ W.cell? ⟨w.heap.size + 1, 2, none⟩ = some (.int .i64 price) from fun W hW => ⟨hW, (R4.out.past hW.out).cellAt 0 rfl, (K4.out.past hW.out).cellAt 0 rfl, (K4.out.past hW.out).cellAt 1 rfl, (K4.out.past hW.out).cellAt 2 rfl⟩)
  clear x0 y0 y1 y2
  go_region_held3 (fun w' => Hid (Below w4.heap.size w4 w') ∧ w'.cell? ⟨w.heap.size, 0, none⟩ = some (.slice RA rn rc) ∧ w'.cell? ⟨w.heap.size + 1, 0, none⟩ = some (.slice A n c) ∧ w'.cell? ⟨w.heap.size + 1, 1, none⟩ = some (.int .i64 idle) ∧ w'.cell? ⟨w.heap.size + 1, 2, none⟩ = some (.int .i64 price)) ((refine HSS.out _ (Lib.hid ?_); repeat (first | assumption | (with_reducible exact pr) | (with_reducible refine pd ?_) | (with_reducible refine pa ?_) | (with_reducible refine pt ?_ (by assumption)))))
    ((first
      | (go_at_call 11; (with_reducible refine (HCr.out _ (pd HB4.out)).mono ?_); rintro e w5 ⟨A5, c5, rfl, hs5, hb5⟩; have HS5 := Lib.hid hs5)
      | (go_at_call 12; (with_reducible refine (HCk.out _ (pt (pd HB4.out) hb5)).mono ?_); rintro e w6 ⟨A6, c6, rfl, hs6, hb6⟩; have HS6 := Lib.hid hs6)
      | (go_at_call 10; (with_reducible refine (HCh.out _ A5 c5 A6 c6 (HUn.out _ (pt (pt (pd HB4.out) hb5) hb6)) (HS5.out.past (Nat.le_refl _) hb6) HS6.out).mono ?_); rintro e w7 ⟨A7, c7, rfl, hb7⟩)))
  have HB7 := Lib.hid (show Below w.heap.size w w7 from pt (pt (pt (pd HB4.out) hb5) hb6) hb7)
  have HBl7 := Lib.hid (show Below w4.heap.size w4 w7 from pt (pt (pt (pd pr) hb5) hb6) hb7)
  have R7 := Lib.hid (R4.out.past HBl7.out)
  have K7 := Lib.hid (K4.out.past HBl7.out)
  clear HSS xl yl hs5 hs6 hb5 hb6 hb7 HS5 HS6 R4 K4 HB4
  have x0 := R7.out.cellAt 0 rfl; have y0 := K7.out.cellAt 0 rfl; have y1 := K7.out.cellAt 1 rfl; have y2 := K7.out.cellAt 2 rfl; have xl := R7.out.lt; have yl := K7.out.lt
  go_wp2
  have HSS := Lib.hid (show ∀ W, Hid (Below w7.heap.size w7 W) → Hid (Below w7.heap.size w7 W) ∧ W.cell? ⟨w.heap.size, 0, none⟩ = some (.slice RA rn rc) ∧ W.cell? ⟨w.heap.size + 1, 0, none⟩ = some (.slice A n c) ∧ W.cell? ⟨w.heap.size + 1, 1, none⟩ = some (.int .i64 idle) ∧ W.cell? ⟨w.heap.size + 1, 2, none⟩ = some (.int .i64 price) from fun W hW => ⟨hW, (R7.out.past hW.out).cellAt 0 rfl, (K7.out.past hW.out).cellAt 0 rfl, (K7.out.past hW.out).cellAt 1 rfl, (K7.out.past hW.out).cellAt 2 rfl⟩)
  clear x0 y0 y1 y2
  go_region_held3 (fun w' => Hid (Below w7.heap.size w7 w') ∧ w'.cell? ⟨w.heap.size, 0, none⟩ = some (.slice RA rn rc) ∧ w'.cell? ⟨w.heap.size + 1, 0, none⟩ = some (.slice A n c) ∧ w'.cell? ⟨w.heap.size + 1, 1, none⟩ = some (.int .i64 idle) ∧ w'.cell? ⟨w.heap.size + 1, 2, none⟩ = some (.int .i64 price)) ((refine HSS.out _ (Lib.hid ?_); repeat (first | assumption | (with_reducible exact pr) | (with_reducible refine pd ?_) | (with_reducible refine pa ?_) | (with_reducible refine pt ?_ (by assumption)))))
    ((first
      | (go_at_call 11; (with_reducible refine (HCr.out _ (pd HB7.out)).mono ?_); rintro e w8 ⟨A8, c8, rfl, hs8, hb8⟩; have HS8 := Lib.hid hs8)
      | (go_at_call 12; (with_reducible refine (HCk.out _ (pt (pd HB7.out) hb8)).mono ?_); rintro e w9 ⟨A9, c9, rfl, hs9, hb9⟩; have HS9 := Lib.hid hs9)
      | (go_at_call 13; (with_reducible refine (HCo.out _ A8 c8 A9 c9 (HUn.out _ (pt (pt (pd HB7.out) hb8) hb9)) (HS8.out.past (Nat.le_refl _) hb9) HS9.out).mono ?_); rintro e w10 ⟨A10, c10, rfl, hi10, hb10⟩; have HI10 := Lib.hid hi10)))
  have HB10 := Lib.hid (show Below w.heap.size w w10 from pt (pt (pt (pd HB7.out) hb8) hb9) hb10)
  have HBl10 := Lib.hid (show Below w7.heap.size w7 w10 from pt (pt (pt (pd pr) hb8) hb9) hb10)
  have R10 := Lib.hid (R7.out.past HBl10.out)
  have K10 := Lib.hid (K7.out.past HBl10.out)
  clear HSS xl yl hs8 hs9 hb8 hb9 hb10 HS8 HS9 R7 K7 HB7
  have x0 := R10.out.cellAt 0 rfl; have y0 := K10.out.cellAt 0 rfl; have y1 := K10.out.cellAt 1 rfl; have y2 := K10.out.cellAt 2 rfl; have xl := R10.out.lt; have yl := K10.out.lt
  clear hi10
  have z1 : ((s.length : Int) == 0) = false := beq_eq_false_iff_ne.2 (by omega)
  have z2 : ¬ (rn : Int) < (s.length : Int) := by omega
  have z3 : ¬ (s.length : Int) = 0 := by omega
  go_wp2
  have HSl := Lib.hid (fun W (hW : Below w10.heap.size w10 W) => (show W.cell? ⟨w.heap.size, 0, none⟩ = some (.slice RA rn rc) ∧ w.heap.size < W.heap.size from ⟨(R10.out.past hW).cellAt 0 rfl, (R10.out.past hW).lt⟩))
  have h10 := HB10.out.size
  have HR10 := Lib.hid (HRR.out.below (HB10.out.mono hB))
  clear x0 y0 y1 y2 xl yl
  go_loopw [10] (fun iv wr => ∃ wo : Int, iv = .int .i64 wo ∧ -1 ≤ wo ∧ wo ≤ (s.length : Int) ∧ Below w10.heap.size w10 wr) (fun iv _ => ((s.length : Int) - intOf iv).toNat)
  case atStart => exact ⟨-1, rfl, by decide, by omega, pr⟩
  case round =>
    obtain ⟨wo, rfl, hw1, hw2, hq⟩ := hrel
    have HQ := Lib.hid hq
    clear hq
    by_cases hlt : wo < (s.length : Int)
    · go_wp2
      have G0 := Lib.hid (show Blk (wr.alloc (.cells #[.slice none 0 0] 24)) wr.heap.size 24 #[.slice none 0 0] from Blk.newAt rfl)
      have HA0 := Lib.hid (show Below wr.heap.size wr (wr.alloc (.cells #[.slice none 0 0] 24)) from pa pr)
      generalize wr.alloc (.cells #[.slice none 0 0] 24) = wa at *
      obtain ⟨wA, hwA⟩ : ∃ wA : World, wA = wr := ⟨_, rfl⟩
      subst hwA
      have hAs := HQ.out.size
      go_loopw [12] (fun iv wr => ∃ (i : Nat) (A' : Option Addr) (c' : Nat) (us : List Value), iv = .int .i64 (i : Int) ∧ i ≤ s.length ∧ Blk wr wA.heap.size 24 #[.slice A' (skipL s wo i).length c'] ∧ wr.ownsRow wA.heap.size 45 4 (.slice A' (skipL s wo i).length c') (skipL s wo i).length us ∧ OldRow w10.heap.size wr us (pickR rs (skipL s wo i)) ∧ Below wA.heap.size wA wr) (fun iv _ => s.length - (intOf iv).toNat)
      case atStart => exact ⟨0, none, 0, [], rfl, Nat.zero_le _, by rw [skip_zero]; exact G0.out, by rw [skip_zero]; exact World.ownsRow_nil _ _ _ _, by rw [skip_zero]; exact OldRow.nil, HA0.out⟩
      case round =>
        clear G0 HA0
        obtain ⟨i, A', c', us, rfl, hi, hg, hown, hrow, hq⟩ := hrel
        have HG := Lib.hid hg
        have HOwn := Lib.hid hown
        have HRow := Lib.hid hrow
        have HQa := Lib.hid hq
        have HQw := Lib.hid (pt HQ.out hq)
        have hsl := skip_len s wo i
        clear hg hown hrow hq
        by_cases hli : i < s.length
        · obtain ⟨b2, o2, rfl, hb2, hc2⟩ := HI10.out.at_ hli
          have HYc := Lib.hid (fun W (hW : Below w10.heap.size w10 W) j (hj : j < s.length) => (show W.cell? ⟨b2, o2 + j, none⟩ = some (.int .i64 (s.getD j 0)) from ((bcell hW).1 _ _ hb2).trans (hc2 j hj)))
          have hyb := HBd.out i hli
          have hb2w : b2 < wr.heap.size := Nat.lt_of_lt_of_le hb2 HQw.out.size
          have e1 := HYc.out wr HQw.out i hli
          have n0 : (0 : Int) ≤ (i : Int) := by omega
          have n1 : (i : Int) < (s.length : Int) := by omega
          obtain ⟨x0, xl⟩ := HSl.out wr HQw.out
          have HWi := Lib.hid (fun W => refWithin_any (s.getD i 0) 0 ((rn : Int) - 1) W)
          rw [show withinB (s.getD i 0) 0 ((rn : Int) - 1) = true by simp only [withinB, Bool.and_eq_true, decide_eq_true_eq]; omega] at HWi
          have hwr : IntKind.i64.wrap ((rn : Int) - 1) = (rn : Int) - 1 := IntWalk.i64_in _ (by omega)
          have HSame := Lib.hid (fun (he : wo = (i : Int)) => skip_same hli he)
          have HNext := Lib.hid (fun (he : wo ≠ (i : Int)) => skip_next hli hw1 he)
          have HPrev := Lib.hid (fun j (hj : j + 1 = i) => (show s.getD j 0 < s.getD i 0 by
            have h := HAs.out j (by omega)
            rw [hj] at h
            exact h))
          generalize hy : s.getD i 0 = y at *
          have HY := Lib.hid hy
          clear hy hc2
          by_cases hi0' : i = 0
          · have zi : ¬ (0 : Int) < (i : Int) := by omega
            have zd : decide (0 < i) = false := decide_eq_false (by omega)
            clear hi0' 
            go_wp2
            refine region_below 25 follows_mixed (by kernel_rfl) ?_
            intro C hC
            simp only [List.take_succ_cons, List.take_zero, List.drop_succ_cons, List.drop_zero]
            repeat (first
              | ((with_reducible refine quiet_plain rfl (fun K hK => ?_)); (focus (apply quiet_val; (focus (intro w' hw; obtain ⟨hcq, hfq⟩ := bcell ((hC.out _).1 hw); go_simp; (first | done | rfl | (with_reducible exact call_same hw (HWi.out _))))); (simp only [Act.put, List.setIfInBounds_toArray, List.set_cons_succ, List.set_cons_zero]); (with_reducible refine hK _ ?_); clear hK K)))
              | ((with_reducible refine quiet_skip ?_ ?_); (focus (first | (simp [Region.wanted, yielded]; done) | (simp [Region.wanted, yielded, undef]; done))); simp only [Act.put, List.setIfInBounds_toArray, List.set_cons_succ, List.set_cons_zero])
              | ((with_reducible refine quiet_go ?_ (fun K hK => ?_)); (focus (first | (simp [Region.wanted, yielded]; done) | (simp [Region.wanted, yielded, undef]; done))); (focus (apply quiet_val; (focus (intro w' hw; obtain ⟨hcq, hfq⟩ := bcell ((hC.out _).1 hw); go_simp; (first | done | rfl | (with_reducible exact call_same hw (HWi.out _))))); (simp only [Act.put, List.setIfInBounds_toArray, List.set_cons_succ, List.set_cons_zero]); (with_reducible refine hK _ ?_); clear hK K))))
            refine wpQuiet_nil ?_
            intro w1 hb1
            replace hb1 := (hC.out _).1 hb1
            clear hC C
            obtain ⟨hc1, hf1⟩ := bcell hb1
            have HV := Lib.hid hb1
            clear hb1 hc1 hf1 x0 xl e1
            by_cases hwo : wo = (i : Int)
            · have HSk := Lib.hid (HSame.out hwo)
              have G1 := Lib.hid (HG.out.past HV.out)
              have O1 := Lib.hid (own_past HV.out HOwn.out)
              have RW1 := Lib.hid (HRow.out.below (HV.out.mono HQw.out.size))
              clear HSame HNext HChP HErr
              subst hwo
              have zw : ((i : Int) != (i : Int)) = false := by simp
              go_wp2
              go_roundw
              case rel => exact ⟨i + 1, A', c', us, by go_num, by omega, by rw [HSk.out]; exact G1.out, by rw [HSk.out]; exact O1.out, by rw [HSk.out]; exact RW1.out, pt HQa.out HV.out⟩
              case measure => simp [intOf]; omega
            · have zw : ((i : Int) != wo) = true := by simp; omega
              have ze : ((i : Int) == wo) = false := by simp; omega
              have zn : ¬ (i : Int) = wo := by omega
              have HSk := Lib.hid (HNext.out hwo)
              have HSkl := Lib.hid (show (skipL s wo (i + 1)).length = (skipL s wo i).length + 1 by rw [HSk.out, List.length_append, List.length_singleton])
              have HPk := Lib.hid (show pickR rs (skipL s wo (i + 1)) = pickR rs (skipL s wo i) ++ [rs.getD y.toNat default] by
                rw [HSk.out]
                unfold pickR
                rw [List.map_append]
                rfl)
              clear hwo
              obtain ⟨yn, rfl⟩ : ∃ yn : Nat, y = (yn : Int) := ⟨y.toNat, by omega⟩
              rw [Int.toNat_natCast] at HPk
              have hyl : yn < rs.length := by rw [HRn.out]; omega
              obtain ⟨b, off, rfl, hbB, hct⟩ := HR10.out.at_ hyl
              obtain ⟨A3, c3, t0, t1, t2, t3, tps, tc⟩ := hct yn hyl
              have HPs := Lib.hid (tps.more (Nat.le_trans hB h10))
              have y0 : (0 : Int) ≤ (yn : Int) := by omega
              have y1 : (yn : Int) < (rn : Int) := hyb.2
              have hbw0 : b < w10.heap.size := by omega
              generalize rs.getD yn default = r at *
              have HCs := Lib.hid (fun W (hW : Below w10.heap.size w10 W) => (show W.cell? ⟨w.heap.size, 0, none⟩ = some (.slice (some ⟨b, off, none⟩) rn rc) ∧ W.cell? ⟨b2, o2 + i, none⟩ = some (.int .i64 (yn : Int)) ∧ W.cell? ⟨b, off + yn * 4, none⟩ = some (.slice A3 r.ts.length c3) ∧ W.cell? ⟨b, off + yn * 4 + 1, none⟩ = some (.bool r.ge) ∧ W.cell? ⟨b, off + yn * 4 + 2, none⟩ = some (.int .i64 r.lim) ∧ W.cell? ⟨b, off + yn * 4 + 3, none⟩ = some (.int .i64 r.unit) from
                ⟨(HSl.out W hW).1, (HYc.out W hW i hli).trans (by rw [HY.out]), ((bcell hW).1 _ _ hbw0).trans t0, ((bcell hW).1 _ _ hbw0).trans t1, ((bcell hW).1 _ _ hbw0).trans t2, ((bcell hW).1 _ _ hbw0).trans t3⟩))
              have G1 := Lib.hid (HG.out.past HV.out)
              have O1 := Lib.hid (own_past HV.out HOwn.out)
              have RW1 := Lib.hid (HRow.out.below (HV.out.mono HQw.out.size))
              have HQa1 := Lib.hid (pt HQa.out HV.out)
              have HQw1 := Lib.hid (pt HQw.out HV.out)
              have hw1s := HQw1.out.size
              have hbw : b < w1.heap.size := by omega
              have hb2w1 : b2 < w1.heap.size := by omega
              clear hct t0 t1 t2 t3 tps hyb HG HOwn HRow HWi HPrev HSame HNext
              go_wp2
              have HSS := Lib.hid (fun W (hW : Below w10.heap.size w10 W) (h2 : Blk W wA.heap.size 24 #[.slice A' (skipL s wo i).length c']) => (show W.cell? ⟨w.heap.size, 0, none⟩ = some (.slice (some ⟨b, off, none⟩) rn rc) ∧ W.cell? ⟨wA.heap.size, 0, none⟩ = some (.slice A' (skipL s wo i).length c') ∧ W.cell? ⟨b2, o2 + i, none⟩ = some (.int .i64 (yn : Int)) ∧ W.cell? ⟨b, off + yn * 4, none⟩ = some (.slice A3 r.ts.length c3) ∧ W.cell? ⟨b, off + yn * 4 + 1, none⟩ = some (.bool r.ge) ∧ W.cell? ⟨b, off + yn * 4 + 2, none⟩ = some (.int .i64 r.lim) ∧ W.cell? ⟨b, off + yn * 4 + 3, none⟩ = some (.int .i64 r.unit) from ⟨(HCs.out W hW).1, h2.cellAt 0 rfl, (HCs.out W hW).2.1, (HCs.out W hW).2.2.1, (HCs.out W hW).2.2.2.1, (HCs.out W hW).2.2.2.2.1, (HCs.out W hW).2.2.2.2.2⟩))
              refine wp_region_G 13 follows_mixed (fun W => W.cell? ⟨w.heap.size, 0, none⟩ = some (.slice (some ⟨b, off, none⟩) rn rc) ∧ W.cell? ⟨wA.heap.size, 0, none⟩ = some (.slice A' (skipL s wo i).length c') ∧ W.cell? ⟨b2, o2 + i, none⟩ = some (.int .i64 (yn : Int)) ∧ W.cell? ⟨b, off + yn * 4, none⟩ = some (.slice A3 r.ts.length c3) ∧ W.cell? ⟨b, off + yn * 4 + 1, none⟩ = some (.bool r.ge) ∧ W.cell? ⟨b, off + yn * 4 + 2, none⟩ = some (.int .i64 r.lim) ∧ W.cell? ⟨b, off + yn * 4 + 3, none⟩ = some (.int .i64 r.unit)) (HSS.out _ (pd HQw1.out) G1.out.drew) ?_
              intro hSd inv
              have HSd := Lib.hid hSd
              clear hSd
              refine wpAnyG_take (i := 0) (v := ?_) rfl (by kernel_rfl) (by kernel_rfl) (by kernel_rfl) (by kernel_rfl) (by kernel_rfl) (by decide) (by decide) inv (fun _ _ _ h => h) (Or.inl ⟨by rfl, ?_⟩) HSd.out ?_; rotate_left; (focus (intro W y1; obtain ⟨y1, y2, y3, y4, y5, y6, y7⟩ := y1; go_simp; (first | done | with_reducible rfl))); clear inv; intro inv; simp only [List.getElem_toArray, List.getElem_cons_zero, Act.put, List.setIfInBounds_toArray, List.set_cons_zero, List.set_cons_succ]
              refine wpAnyG_take (i := 1) (v := ?_) rfl (by kernel_rfl) (by kernel_rfl) (by kernel_rfl) (by kernel_rfl) (by kernel_rfl) (by decide) (by decide) inv (fun _ _ _ h => h) (Or.inl ⟨by rfl, ?_⟩) HSd.out ?_; rotate_left; (focus (intro W y1; obtain ⟨y1, y2, y3, y4, y5, y6, y7⟩ := y1; go_simp; (first | done | with_reducible rfl))); clear inv; intro inv; simp only [List.getElem_toArray, List.getElem_cons_zero, List.getElem_cons_succ, Act.put, List.setIfInBounds_toArray, List.set_cons_zero, List.set_cons_succ]
              refine wpAnyG_take (i := 2) (v := ?_) rfl (by kernel_rfl) (by kernel_rfl) (by kernel_rfl) (by kernel_rfl) (by kernel_rfl) (by decide) (by decide) inv (fun _ _ _ h => h) (Or.inl ⟨by rfl, ?_⟩) HSd.out ?_; rotate_left; (focus (intro W y1; obtain ⟨y1, y2, y3, y4, y5, y6, y7⟩ := y1; go_simp; (first | done | with_reducible rfl))); clear inv; intro inv; simp only [List.getElem_toArray, List.getElem_cons_zero, List.getElem_cons_succ, Act.put, List.setIfInBounds_toArray, List.set_cons_zero, List.set_cons_succ]
              refine wpAnyG_take (i := 3) (v := ?_) rfl (by kernel_rfl) (by kernel_rfl) (by kernel_rfl) (by kernel_rfl) (by kernel_rfl) (by decide) (by decide) inv (fun _ _ _ h => h) (Or.inl ⟨by rfl, ?_⟩) HSd.out ?_; rotate_left; (focus (intro W y1; obtain ⟨y1, y2, y3, y4, y5, y6, y7⟩ := y1; go_simp; (first | done | with_reducible rfl))); clear inv; intro inv; simp only [List.getElem_toArray, List.getElem_cons_zero, List.getElem_cons_succ, Act.put, List.setIfInBounds_toArray, List.set_cons_zero, List.set_cons_succ]
              refine wpAnyG_take (i := 4) (v := ?_) rfl (by kernel_rfl) (by kernel_rfl) (by kernel_rfl) (by kernel_rfl) (by kernel_rfl) (by decide) (by decide) inv (fun _ _ _ h => h) (Or.inl ⟨by rfl, ?_⟩) HSd.out ?_; rotate_left; (focus (intro W y1; obtain ⟨y1, y2, y3, y4, y5, y6, y7⟩ := y1; go_simp; (first | done | with_reducible rfl))); clear inv; intro inv; simp only [List.getElem_toArray, List.getElem_cons_zero, List.getElem_cons_succ, Act.put, List.setIfInBounds_toArray, List.set_cons_zero, List.set_cons_succ]
              refine wpAnyG_take (i := 5) (v := ?_) rfl (by kernel_rfl) (by kernel_rfl) (by kernel_rfl) (by kernel_rfl) (by kernel_rfl) (by decide) (by decide) inv (fun _ _ _ h => h) (Or.inl ⟨by rfl, ?_⟩) HSd.out ?_; rotate_left; (focus (intro W y1; obtain ⟨y1, y2, y3, y4, y5, y6, y7⟩ := y1; go_simp; (first | done | with_reducible rfl))); clear inv; intro inv; simp only [List.getElem_toArray, List.getElem_cons_zero, List.getElem_cons_succ, Act.put, List.setIfInBounds_toArray, List.set_cons_zero, List.set_cons_succ]
              refine wpAnyG_take (i := 6) (v := ?_) rfl (by kernel_rfl) (by kernel_rfl) (by kernel_rfl) (by kernel_rfl) (by kernel_rfl) (by decide) (by decide) inv (fun _ _ _ h => h) (Or.inl ⟨by rfl, ?_⟩) HSd.out ?_; rotate_left; (focus (intro W y1; obtain ⟨y1, y2, y3, y4, y5, y6, y7⟩ := y1; go_simp; (first | done | with_reducible rfl))); clear inv; intro inv; simp only [List.getElem_toArray, List.getElem_cons_zero, List.getElem_cons_succ, Act.put, List.setIfInBounds_toArray, List.set_cons_zero, List.set_cons_succ]
              refine wpAnyG_take (i := 7) (v := ?_) rfl (by kernel_rfl) (by kernel_rfl) (by kernel_rfl) (by kernel_rfl) (by kernel_rfl) (by decide) (by decide) inv (fun _ _ _ h => h) (Or.inl ⟨by rfl, ?_⟩) HSd.out ?_; rotate_left; (focus (intro W y1; obtain ⟨y1, y2, y3, y4, y5, y6, y7⟩ := y1; go_simp; (first | done | with_reducible rfl))); clear inv; intro inv; simp only [List.getElem_toArray, List.getElem_cons_zero, List.getElem_cons_succ, Act.put, List.setIfInBounds_toArray, List.set_cons_zero, List.set_cons_succ]
              refine wpAnyG_take (i := 8) (v := ?_) rfl (by kernel_rfl) (by kernel_rfl) (by kernel_rfl) (by kernel_rfl) (by kernel_rfl) (by decide) (by decide) inv (fun _ _ _ h => h) (Or.inl ⟨by rfl, ?_⟩) HSd.out ?_; rotate_left; (focus (intro W y1; obtain ⟨y1, y2, y3, y4, y5, y6, y7⟩ := y1; go_simp; (first | done | with_reducible rfl))); clear inv; intro inv; simp only [List.getElem_toArray, List.getElem_cons_zero, List.getElem_cons_succ, Act.put, List.setIfInBounds_toArray, List.set_cons_zero, List.set_cons_succ]
              refine wpAnyG_take (i := 9) (v := ?_) rfl (by kernel_rfl) (by kernel_rfl) (by kernel_rfl) (by kernel_rfl) (by kernel_rfl) (by decide) (by decide) inv (fun _ _ _ h => h) (Or.inl ⟨by rfl, ?_⟩) HSd.out ?_; rotate_left; (focus (intro W y1; obtain ⟨y1, y2, y3, y4, y5, y6, y7⟩ := y1; go_simp; (first | done | with_reducible rfl))); clear inv; intro inv; simp only [List.getElem_toArray, List.getElem_cons_zero, List.getElem_cons_succ, Act.put, List.setIfInBounds_toArray, List.set_cons_zero, List.set_cons_succ]
              clear inv
              refine wpAnyG_one (i := 10) (by kernel_rfl) rfl rfl fun K hK => ?_
              go_simp
              have hBr : Below w1.heap.size w1 ((w1.alloc (.cells #[.slice A3 r.ts.length c3, .bool r.ge, .int .i64 r.lim, .int .i64 r.unit] 45)).drew) := pd (pa pr)
              have HB2 := Lib.hid (pt HQw1.out hBr)
              have HA2 := Lib.hid (pt HQa1.out hBr)
              have G2 := Lib.hid (G1.out.past hBr)
              have O2 := Lib.hid (own_past hBr O1.out)
              have HC1 := Lib.hid (show CellsIn (w1.heap.size + 1) ((w1.alloc (.cells #[.slice A3 r.ts.length c3, .bool r.ge, .int .i64 r.lim, .int .i64 r.unit] 45)).drew) (some ⟨w1.heap.size, 0, none⟩) [.slice A3 r.ts.length c3, .bool r.ge, .int .i64 r.lim, .int .i64 r.unit] from cells_new w1 45 #[.slice A3 r.ts.length c3, .bool r.ge, .int .i64 r.lim, .int .i64 r.unit])
              have hsx : ((w1.alloc (.cells #[.slice A3 r.ts.length c3, .bool r.ge, .int .i64 r.lim, .int .i64 r.unit] 45)).drew).heap.size = w1.heap.size + 1 := by simp [World.drew]
              generalize (w1.alloc (.cells #[.slice A3 r.ts.length c3, .bool r.ge, .int .i64 r.lim, .int .i64 r.unit] 45)).drew = wx at *
              refine hK.out _ _ (fun _ => HSS.out _ HB2.out G2.out) ?_
              clear hK K
              refine wpAnyG_one (i := 11) (by kernel_rfl) rfl rfl fun K hK => ?_
              refine wp_append_cells _ (.tmp 140) (.tmp 149) _ (by rfl) wA.heap.size 45 i0 _ 4 48 Tryz.underlying22 hi0 hiz his hib (by rfl) (by omega) (.slice A' (skipL s wo i).length c') (skipL s wo i).length us (by rfl) O2.out (w1.heap.size + 1) (some ⟨w1.heap.size, 0, none⟩) 1 1 [.slice A3 r.ts.length c3, .bool r.ge, .int .i64 r.lim, .int .i64 r.unit] (by rfl) HC1.out rfl (by simp [Value.oneCell']) (by simp only [maxLen]; omega) (by omega) (by have := HA2.out.size; omega) ?_
              intro v4 w4 hown4 hg4 _
              obtain ⟨A4, c4, rfl, hc4, _⟩ := own_form hown4
              have HB4 := Lib.hid (pg HA2.out O2.out (Nat.le_refl _) hg4)
              have G4 := Lib.hid (G2.out.grown hg4 (own_ne O2.out G2.out (by decide)))
              have HQ4 := Lib.hid (pt HQ.out HB4.out)
              have RW4 := Lib.hid ((RW1.out.below (hBr.mono (by omega))).snoc (r := r) (HPs.out.below HB2.out) tc)
              have RW5 := Lib.hid (RW4.out.below (w := wx) (w' := w4) (⟨hg4.os, hg4.tape, hg4.output, hg4.size, fun k hk => hg4.block k (by omega) (fun e => by have := (O2.out.lt k e.symm).1; omega)⟩))
              have O4 := Lib.hid hown4
              clear hown4 hg4 O2 G2 RW4 hBr HB2 RW1 O1 G1 HC1 HA2
              refine hK.out _ _ (fun _ => HSS.out _ HQ4.out G4.out) ?_
              clear hK K
              refine wpAnyG_one (i := 12) (by kernel_rfl) rfl rfl fun K hK => ?_
              go_simp
              refine hK.out _ _ (fun _ => HSS.out _ HQ4.out G4.out) ?_
              clear hK K
              refine wpAnyG_one (i := 13) (by kernel_rfl) rfl rfl fun K hK => ?_
              have q1 : w4.cell? ⟨wA.heap.size, 0, none⟩ = some (.slice A' (skipL s wo i).length c') := G4.out.cellAt 0 rfl
              have q2 := G4.out.frozen 0
              have q3 := G4.out.lt
              go_simp
              refine hK.out _ _ (fun h => absurd h (by decide)) ?_
              clear hK K
              refine wpAnyG_done (by kernel_rfl) ?_
              have HK2 := Lib.hid (G4.out.set_ 0 (.slice A4 ((skipL s wo i).length + 1) c4))
              have HOw := Lib.hid (own_cellT O4.out G4.out (by decide) (q := ⟨wA.heap.size, 0, none⟩) rfl (.slice A4 ((skipL s wo i).length + 1) c4))
              have HRw := Lib.hid (RW5.out.below (show Below w10.heap.size w4 (w4.setCell ⟨wA.heap.size, 0, none⟩ (.slice A4 ((skipL s wo i).length + 1) c4)) from (Below.refl w10.heap.size w4).setCell (by show w10.heap.size ≤ wA.heap.size; omega) _))
              have HBw := Lib.hid (ps HB4.out (p := ⟨wA.heap.size, 0, none⟩) (u := .slice A4 ((skipL s wo i).length + 1) c4) (Nat.le_refl _))
              clear q1 q2 q3 G4 O4 RW5 HB4 HSS HSd HQ4
              go_wp2
              go_roundw
              case rel => exact ⟨i + 1, A4, c4, _, by go_num, by omega, by rw [HSkl.out]; exact HK2.out, by rw [HSkl.out]; exact HOw.out, by rw [HPk.out]; exact HRw.out, HBw.out⟩
              case measure => simp [intOf]; omega
          · have zi : (0 : Int) < (i : Int) := by omega
            have zd : decide (0 < i) = true := decide_eq_true (by omega)
            have hpv := HPrev.out (i - 1) (by omega)
            have e0 := HYc.out wr HQw.out (i - 1) (by omega)
            generalize s.getD (i - 1) 0 = y' at *
            have q0 : (0 : Int) ≤ (i : Int) - 1 := by omega
            have q2 : ((i : Int) - 1).toNat = i - 1 := by omega
            have q3 : (i : Int) - 1 < (s.length : Int) := by omega
            have q4 : IntKind.i64.wrap ((i : Int) - 1) = (i : Int) - 1 := IntWalk.i64_in _ (by omega)
            have q5 : ¬ y ≤ y' := by omega
            have q6 : (1 : Int) ≤ (i : Int) := by omega
            have q7 : (i : Int) < (s.length : Int) + 1 := by omega
            clear hi0' 
            go_wp2
            refine region_below 25 follows_mixed (by kernel_rfl) ?_
            intro C hC
            simp only [List.take_succ_cons, List.take_zero, List.drop_succ_cons, List.drop_zero]
            repeat (first
              | ((with_reducible refine quiet_plain rfl (fun K hK => ?_)); (focus (apply quiet_val; (focus (intro w' hw; obtain ⟨hcq, hfq⟩ := bcell ((hC.out _).1 hw); go_simp; (first | done | rfl | (with_reducible exact call_same hw (HWi.out _))))); (simp only [Act.put, List.setIfInBounds_toArray, List.set_cons_succ, List.set_cons_zero]); (with_reducible refine hK _ ?_); clear hK K)))
              | ((with_reducible refine quiet_skip ?_ ?_); (focus (first | (simp [Region.wanted, yielded]; done) | (simp [Region.wanted, yielded, undef]; done))); simp only [Act.put, List.setIfInBounds_toArray, List.set_cons_succ, List.set_cons_zero])
              | ((with_reducible refine quiet_go ?_ (fun K hK => ?_)); (focus (first | (simp [Region.wanted, yielded]; done) | (simp [Region.wanted, yielded, undef]; done))); (focus (apply quiet_val; (focus (intro w' hw; obtain ⟨hcq, hfq⟩ := bcell ((hC.out _).1 hw); go_simp; (first | done | rfl | (with_reducible exact call_same hw (HWi.out _))))); (simp only [Act.put, List.setIfInBounds_toArray, List.set_cons_succ, List.set_cons_zero]); (with_reducible refine hK _ ?_); clear hK K))))
            refine wpQuiet_nil ?_
            intro w1 hb1
            replace hb1 := (hC.out _).1 hb1
            clear hC C
            obtain ⟨hc1, hf1⟩ := bcell hb1
            clear e0
            have HV := Lib.hid hb1
            clear hb1 hc1 hf1 x0 xl e1
            by_cases hwo : wo = (i : Int)
            · have HSk := Lib.hid (HSame.out hwo)
              have G1 := Lib.hid (HG.out.past HV.out)
              have O1 := Lib.hid (own_past HV.out HOwn.out)
              have RW1 := Lib.hid (HRow.out.below (HV.out.mono HQw.out.size))
              clear HSame HNext HChP HErr
              subst hwo
              have zw : ((i : Int) != (i : Int)) = false := by simp
              go_wp2
              go_roundw
              case rel => exact ⟨i + 1, A', c', us, by go_num, by omega, by rw [HSk.out]; exact G1.out, by rw [HSk.out]; exact O1.out, by rw [HSk.out]; exact RW1.out, pt HQa.out HV.out⟩
              case measure => simp [intOf]; omega
            · have zw : ((i : Int) != wo) = true := by simp; omega
              have ze : ((i : Int) == wo) = false := by simp; omega
              have zn : ¬ (i : Int) = wo := by omega
              have HSk := Lib.hid (HNext.out hwo)
              have HSkl := Lib.hid (show (skipL s wo (i + 1)).length = (skipL s wo i).length + 1 by rw [HSk.out, List.length_append, List.length_singleton])
              have HPk := Lib.hid (show pickR rs (skipL s wo (i + 1)) = pickR rs (skipL s wo i) ++ [rs.getD y.toNat default] by
                rw [HSk.out]
                unfold pickR
                rw [List.map_append]
                rfl)
              clear hwo
              obtain ⟨yn, rfl⟩ : ∃ yn : Nat, y = (yn : Int) := ⟨y.toNat, by omega⟩
              rw [Int.toNat_natCast] at HPk
              have hyl : yn < rs.length := by rw [HRn.out]; omega
              obtain ⟨b, off, rfl, hbB, hct⟩ := HR10.out.at_ hyl
              obtain ⟨A3, c3, t0, t1, t2, t3, tps, tc⟩ := hct yn hyl
              have HPs := Lib.hid (tps.more (Nat.le_trans hB h10))
              have y0 : (0 : Int) ≤ (yn : Int) := by omega
              have y1 : (yn : Int) < (rn : Int) := hyb.2
              have hbw0 : b < w10.heap.size := by omega
              generalize rs.getD yn default = r at *
              have HCs := Lib.hid (fun W (hW : Below w10.heap.size w10 W) => (show W.cell? ⟨w.heap.size, 0, none⟩ = some (.slice (some ⟨b, off, none⟩) rn rc) ∧ W.cell? ⟨b2, o2 + i, none⟩ = some (.int .i64 (yn : Int)) ∧ W.cell? ⟨b, off + yn * 4, none⟩ = some (.slice A3 r.ts.length c3) ∧ W.cell? ⟨b, off + yn * 4 + 1, none⟩ = some (.bool r.ge) ∧ W.cell? ⟨b, off + yn * 4 + 2, none⟩ = some (.int .i64 r.lim) ∧ W.cell? ⟨b, off + yn * 4 + 3, none⟩ = some (.int .i64 r.unit) from
                ⟨(HSl.out W hW).1, (HYc.out W hW i hli).trans (by rw [HY.out]), ((bcell hW).1 _ _ hbw0).trans t0, ((bcell hW).1 _ _ hbw0).trans t1, ((bcell hW).1 _ _ hbw0).trans t2, ((bcell hW).1 _ _ hbw0).trans t3⟩))
              have G1 := Lib.hid (HG.out.past HV.out)
              have O1 := Lib.hid (own_past HV.out HOwn.out)
              have RW1 := Lib.hid (HRow.out.below (HV.out.mono HQw.out.size))
              have HQa1 := Lib.hid (pt HQa.out HV.out)
              have HQw1 := Lib.hid (pt HQw.out HV.out)
              have hw1s := HQw1.out.size
              have hbw : b < w1.heap.size := by omega
              have hb2w1 : b2 < w1.heap.size := by omega
              clear hct t0 t1 t2 t3 tps hyb HG HOwn HRow HWi HPrev HSame HNext
              go_wp2
              have HSS := Lib.hid (fun W (hW : Below w10.heap.size w10 W) (h2 : Blk W wA.heap.size 24 #[.slice A' (skipL s wo i).length c']) => (show W.cell? ⟨w.heap.size, 0, none⟩ = some (.slice (some ⟨b, off, none⟩) rn rc) ∧ W.cell? ⟨wA.heap.size, 0, none⟩ = some (.slice A' (skipL s wo i).length c') ∧ W.cell? ⟨b2, o2 + i, none⟩ = some (.int .i64 (yn : Int)) ∧ W.cell? ⟨b, off + yn * 4, none⟩ = some (.slice A3 r.ts.length c3) ∧ W.cell? ⟨b, off + yn * 4 + 1, none⟩ = some (.bool r.ge) ∧ W.cell? ⟨b, off + yn * 4 + 2, none⟩ = some (.int .i64 r.lim) ∧ W.cell? ⟨b, off + yn * 4 + 3, none⟩ = some (.int .i64 r.unit) from ⟨(HCs.out W hW).1, h2.cellAt 0 rfl, (HCs.out W hW).2.1, (HCs.out W hW).2.2.1, (HCs.out W hW).2.2.2.1, (HCs.out W hW).2.2.2.2.1, (HCs.out W hW).2.2.2.2.2⟩))
              refine wp_region_G 13 follows_mixed (fun W => W.cell? ⟨w.heap.size, 0, none⟩ = some (.slice (some ⟨b, off, none⟩) rn rc) ∧ W.cell? ⟨wA.heap.size, 0, none⟩ = some (.slice A' (skipL s wo i).length c') ∧ W.cell? ⟨b2, o2 + i, none⟩ = some (.int .i64 (yn : Int)) ∧ W.cell? ⟨b, off + yn * 4, none⟩ = some (.slice A3 r.ts.length c3) ∧ W.cell? ⟨b, off + yn * 4 + 1, none⟩ = some (.bool r.ge) ∧ W.cell? ⟨b, off + yn * 4 + 2, none⟩ = some (.int .i64 r.lim) ∧ W.cell? ⟨b, off + yn * 4 + 3, none⟩ = some (.int .i64 r.unit)) (HSS.out _ (pd HQw1.out) G1.out.drew) ?_
              intro hSd inv
              have HSd := Lib.hid hSd
              clear hSd
              refine wpAnyG_take (i := 0) (v := ?_) rfl (by kernel_rfl) (by kernel_rfl) (by kernel_rfl) (by kernel_rfl) (by kernel_rfl) (by decide) (by decide) inv (fun _ _ _ h => h) (Or.inl ⟨by rfl, ?_⟩) HSd.out ?_; rotate_left; (focus (intro W y1; obtain ⟨y1, y2, y3, y4, y5, y6, y7⟩ := y1; go_simp; (first | done | with_reducible rfl))); clear inv; intro inv; simp only [List.getElem_toArray, List.getElem_cons_zero, Act.put, List.setIfInBounds_toArray, List.set_cons_zero, List.set_cons_succ]
              refine wpAnyG_take (i := 1) (v := ?_) rfl (by kernel_rfl) (by kernel_rfl) (by kernel_rfl) (by kernel_rfl) (by kernel_rfl) (by decide) (by decide) inv (fun _ _ _ h => h) (Or.inl ⟨by rfl, ?_⟩) HSd.out ?_; rotate_left; (focus (intro W y1; obtain ⟨y1, y2, y3, y4, y5, y6, y7⟩ := y1; go_simp; (first | done | with_reducible rfl))); clear inv; intro inv; simp only [List.getElem_toArray, List.getElem_cons_zero, List.getElem_cons_succ, Act.put, List.setIfInBounds_toArray, List.set_cons_zero, List.set_cons_succ]
              refine wpAnyG_take (i := 2) (v := ?_) rfl (by kernel_rfl) (by kernel_rfl) (by kernel_rfl) (by kernel_rfl) (by kernel_rfl) (by decide) (by decide) inv (fun _ _ _ h => h) (Or.inl ⟨by rfl, ?_⟩) HSd.out ?_; rotate_left; (focus (intro W y1; obtain ⟨y1, y2, y3, y4, y5, y6, y7⟩ := y1; go_simp; (first | done | with_reducible rfl))); clear inv; intro inv; simp only [List.getElem_toArray, List.getElem_cons_zero, List.getElem_cons_succ, Act.put, List.setIfInBounds_toArray, List.set_cons_zero, List.set_cons_succ]
              refine wpAnyG_take (i := 3) (v := ?_) rfl (by kernel_rfl) (by kernel_rfl) (by kernel_rfl) (by kernel_rfl) (by kernel_rfl) (by decide) (by decide) inv (fun _ _ _ h => h) (Or.inl ⟨by rfl, ?_⟩) HSd.out ?_; rotate_left; (focus (intro W y1; obtain ⟨y1, y2, y3, y4, y5, y6, y7⟩ := y1; go_simp; (first | done | with_reducible rfl))); clear inv; intro inv; simp only [List.getElem_toArray, List.getElem_cons_zero, List.getElem_cons_succ, Act.put, List.setIfInBounds_toArray, List.set_cons_zero, List.set_cons_succ]
              refine wpAnyG_take (i := 4) (v := ?_) rfl (by kernel_rfl) (by kernel_rfl) (by kernel_rfl) (by kernel_rfl) (by kernel_rfl) (by decide) (by decide) inv (fun _ _ _ h => h) (Or.inl ⟨by rfl, ?_⟩) HSd.out ?_; rotate_left; (focus (intro W y1; obtain ⟨y1, y2, y3, y4, y5, y6, y7⟩ := y1; go_simp; (first | done | with_reducible rfl))); clear inv; intro inv; simp only [List.getElem_toArray, List.getElem_cons_zero, List.getElem_cons_succ, Act.put, List.setIfInBounds_toArray, List.set_cons_zero, List.set_cons_succ]
              refine wpAnyG_take (i := 5) (v := ?_) rfl (by kernel_rfl) (by kernel_rfl) (by kernel_rfl) (by kernel_rfl) (by kernel_rfl) (by decide) (by decide) inv (fun _ _ _ h => h) (Or.inl ⟨by rfl, ?_⟩) HSd.out ?_; rotate_left; (focus (intro W y1; obtain ⟨y1, y2, y3, y4, y5, y6, y7⟩ := y1; go_simp; (first | done | with_reducible rfl))); clear inv; intro inv; simp only [List.getElem_toArray, List.getElem_cons_zero, List.getElem_cons_succ, Act.put, List.setIfInBounds_toArray, List.set_cons_zero, List.set_cons_succ]
              refine wpAnyG_take (i := 6) (v := ?_) rfl (by kernel_rfl) (by kernel_rfl) (by kernel_rfl) (by kernel_rfl) (by kernel_rfl) (by decide) (by decide) inv (fun _ _ _ h => h) (Or.inl ⟨by rfl, ?_⟩) HSd.out ?_; rotate_left; (focus (intro W y1; obtain ⟨y1, y2, y3, y4, y5, y6, y7⟩ := y1; go_simp; (first | done | with_reducible rfl))); clear inv; intro inv; simp only [List.getElem_toArray, List.getElem_cons_zero, List.getElem_cons_succ, Act.put, List.setIfInBounds_toArray, List.set_cons_zero, List.set_cons_succ]
              refine wpAnyG_take (i := 7) (v := ?_) rfl (by kernel_rfl) (by kernel_rfl) (by kernel_rfl) (by kernel_rfl) (by kernel_rfl) (by decide) (by decide) inv (fun _ _ _ h => h) (Or.inl ⟨by rfl, ?_⟩) HSd.out ?_; rotate_left; (focus (intro W y1; obtain ⟨y1, y2, y3, y4, y5, y6, y7⟩ := y1; go_simp; (first | done | with_reducible rfl))); clear inv; intro inv; simp only [List.getElem_toArray, List.getElem_cons_zero, List.getElem_cons_succ, Act.put, List.setIfInBounds_toArray, List.set_cons_zero, List.set_cons_succ]
              refine wpAnyG_take (i := 8) (v := ?_) rfl (by kernel_rfl) (by kernel_rfl) (by kernel_rfl) (by kernel_rfl) (by kernel_rfl) (by decide) (by decide) inv (fun _ _ _ h => h) (Or.inl ⟨by rfl, ?_⟩) HSd.out ?_; rotate_left; (focus (intro W y1; obtain ⟨y1, y2, y3, y4, y5, y6, y7⟩ := y1; go_simp; (first | done | with_reducible rfl))); clear inv; intro inv; simp only [List.getElem_toArray, List.getElem_cons_zero, List.getElem_cons_succ, Act.put, List.setIfInBounds_toArray, List.set_cons_zero, List.set_cons_succ]
              refine wpAnyG_take (i := 9) (v := ?_) rfl (by kernel_rfl) (by kernel_rfl) (by kernel_rfl) (by kernel_rfl) (by kernel_rfl) (by decide) (by decide) inv (fun _ _ _ h => h) (Or.inl ⟨by rfl, ?_⟩) HSd.out ?_; rotate_left; (focus (intro W y1; obtain ⟨y1, y2, y3, y4, y5, y6, y7⟩ := y1; go_simp; (first | done | with_reducible rfl))); clear inv; intro inv; simp only [List.getElem_toArray, List.getElem_cons_zero, List.getElem_cons_succ, Act.put, List.setIfInBounds_toArray, List.set_cons_zero, List.set_cons_succ]
              clear inv
              refine wpAnyG_one (i := 10) (by kernel_rfl) rfl rfl fun K hK => ?_
              go_simp
              have hBr : Below w1.heap.size w1 ((w1.alloc (.cells #[.slice A3 r.ts.length c3, .bool r.ge, .int .i64 r.lim, .int .i64 r.unit] 45)).drew) := pd (pa pr)
              have HB2 := Lib.hid (pt HQw1.out hBr)
              have HA2 := Lib.hid (pt HQa1.out hBr)
              have G2 := Lib.hid (G1.out.past hBr)
              have O2 := Lib.hid (own_past hBr O1.out)
              have HC1 := Lib.hid (show CellsIn (w1.heap.size + 1) ((w1.alloc (.cells #[.slice A3 r.ts.length c3, .bool r.ge, .int .i64 r.lim, .int .i64 r.unit] 45)).drew) (some ⟨w1.heap.size, 0, none⟩) [.slice A3 r.ts.length c3, .bool r.ge, .int .i64 r.lim, .int .i64 r.unit] from cells_new w1 45 #[.slice A3 r.ts.length c3, .bool r.ge, .int .i64 r.lim, .int .i64 r.unit])
              have hsx : ((w1.alloc (.cells #[.slice A3 r.ts.length c3, .bool r.ge, .int .i64 r.lim, .int .i64 r.unit] 45)).drew).heap.size = w1.heap.size + 1 := by simp [World.drew]
              generalize (w1.alloc (.cells #[.slice A3 r.ts.length c3, .bool r.ge, .int .i64 r.lim, .int .i64 r.unit] 45)).drew = wx at *
              refine hK.out _ _ (fun _ => HSS.out _ HB2.out G2.out) ?_
              clear hK K
              refine wpAnyG_one (i := 11) (by kernel_rfl) rfl rfl fun K hK => ?_
              refine wp_append_cells _ (.tmp 140) (.tmp 149) _ (by rfl) wA.heap.size 45 i0 _ 4 48 Tryz.underlying22 hi0 hiz his hib (by rfl) (by omega) (.slice A' (skipL s wo i).length c') (skipL s wo i).length us (by rfl) O2.out (w1.heap.size + 1) (some ⟨w1.heap.size, 0, none⟩) 1 1 [.slice A3 r.ts.length c3, .bool r.ge, .int .i64 r.lim, .int .i64 r.unit] (by rfl) HC1.out rfl (by simp [Value.oneCell']) (by simp only [maxLen]; omega) (by omega) (by have := HA2.out.size; omega) ?_
              intro v4 w4 hown4 hg4 _
              obtain ⟨A4, c4, rfl, hc4, _⟩ := own_form hown4
              have HB4 := Lib.hid (pg HA2.out O2.out (Nat.le_refl _) hg4)
              have G4 := Lib.hid (G2.out.grown hg4 (own_ne O2.out G2.out (by decide)))
              have HQ4 := Lib.hid (pt HQ.out HB4.out)
              have RW4 := Lib.hid ((RW1.out.below (hBr.mono (by omega))).snoc (r := r) (HPs.out.below HB2.out) tc)
              have RW5 := Lib.hid (RW4.out.below (w := wx) (w' := w4) (⟨hg4.os, hg4.tape, hg4.output, hg4.size, fun k hk => hg4.block k (by omega) (fun e => by have := (O2.out.lt k e.symm).1; omega)⟩))
              have O4 := Lib.hid hown4
              clear hown4 hg4 O2 G2 RW4 hBr HB2 RW1 O1 G1 HC1 HA2
              refine hK.out _ _ (fun _ => HSS.out _ HQ4.out G4.out) ?_
              clear hK K
              refine wpAnyG_one (i := 12) (by kernel_rfl) rfl rfl fun K hK => ?_
              go_simp
              refine hK.out _ _ (fun _ => HSS.out _ HQ4.out G4.out) ?_
              clear hK K
              refine wpAnyG_one (i := 13) (by kernel_rfl) rfl rfl fun K hK => ?_
              have q1 : w4.cell? ⟨wA.heap.size, 0, none⟩ = some (.slice A' (skipL s wo i).length c') := G4.out.cellAt 0 rfl
              have q2 := G4.out.frozen 0
              have q3 := G4.out.lt
              go_simp
              refine hK.out _ _ (fun h => absurd h (by decide)) ?_
              clear hK K
              refine wpAnyG_done (by kernel_rfl) ?_
              have HK2 := Lib.hid (G4.out.set_ 0 (.slice A4 ((skipL s wo i).length + 1) c4))
              have HOw := Lib.hid (own_cellT O4.out G4.out (by decide) (q := ⟨wA.heap.size, 0, none⟩) rfl (.slice A4 ((skipL s wo i).length + 1) c4))
              have HRw := Lib.hid (RW5.out.below (show Below w10.heap.size w4 (w4.setCell ⟨wA.heap.size, 0, none⟩ (.slice A4 ((skipL s wo i).length + 1) c4)) from (Below.refl w10.heap.size w4).setCell (by show w10.heap.size ≤ wA.heap.size; omega) _))
              have HBw := Lib.hid (ps HB4.out (p := ⟨wA.heap.size, 0, none⟩) (u := .slice A4 ((skipL s wo i).length + 1) c4) (Nat.le_refl _))
              clear q1 q2 q3 G4 O4 RW5 HB4 HSS HSd HQ4
              go_wp2
              go_roundw
              case rel => exact ⟨i + 1, A4, c4, _, by go_num, by omega, by rw [HSkl.out]; exact HK2.out, by rw [HSkl.out]; exact HOw.out, by rw [HPk.out]; exact HRw.out, HBw.out⟩
              case measure => simp [intOf]; omega
        · have hie : i = s.length := by omega
          have HRq := Lib.hid (HRow.out.reqs HQw.out.size HOwn.out)
          have HEq := Lib.hid hie
          subst hie
          have g0 := HG.out.cellAt 0 rfl
          have gl := HG.out.lt
          have HLn := Lib.hid (show (skipL s wo s.length).length = (skipL s wo s.length).length from rfl)
          generalize hL : (skipL s wo s.length).length = L at *
          have HL := Lib.hid hL
          clear hL HLn
          by_cases hL0 : L = 0
          · have z5 : ((L : Int) == 0) = true := by simp [hL0]
            have z6 : (L : Int) = 0 := by omega
            clear hL0
            go_wp2
            go_roundw
            case rel => exact ⟨wo + 1, by go_num, by omega, by omega, pt HQ.out HQa.out⟩
            case measure => simp [intOf]; omega
          · have z5 : ((L : Int) == 0) = false := by simp [hL0]
            have z6 : ¬ (L : Int) = 0 := by omega
            have HKw := Lib.hid (K10.out.past HQw.out)
            have HBw := Lib.hid (pt HB10.out HQw.out)
            have HCh2 := Lib.hid (fun (W : World) A1 c1 A2 c2 hU hx hy => HChP.out W wo L A1 c1 A2 c2 hU hw1 hlt HL.out (by omega) hx hy)
            have HCr2 := Lib.hid (fun (W : World) (hW : Below wr.heap.size wr W) => HCrP.out W (pickR rs (skipL s wo s.length)) L A' c' (HRq.out.past (Nat.le_refl _) hW) ((HPl.out _).trans HL.out) (by omega) (HPts.out _))
            go_wp2
            clear g0 gl
            have HSS := Lib.hid (show ∀ W, Hid (Below wr.heap.size wr W) → Hid (Below wr.heap.size wr W) ∧ W.cell? ⟨wA.heap.size, 0, none⟩ = some (.slice A' L c') ∧ W.cell? ⟨w.heap.size + 1, 0, none⟩ = some (.slice A n c) ∧ W.cell? ⟨w.heap.size + 1, 1, none⟩ = some (.int .i64 idle) ∧ W.cell? ⟨w.heap.size + 1, 2, none⟩ = some (.int .i64 price) from fun W hW => ⟨hW, (HG.out.past hW.out).cellAt 0 rfl, (HKw.out.past hW.out).cellAt 0 rfl, (HKw.out.past hW.out).cellAt 1 rfl, (HKw.out.past hW.out).cellAt 2 rfl⟩)
            by_cases hneg : wo < 0
            · rw [if_pos hneg] at HCh2
              go_region_held3 (fun w' => Hid (Below wr.heap.size wr w') ∧ w'.cell? ⟨wA.heap.size, 0, none⟩ = some (.slice A' L c') ∧ w'.cell? ⟨w.heap.size + 1, 0, none⟩ = some (.slice A n c) ∧ w'.cell? ⟨w.heap.size + 1, 1, none⟩ = some (.int .i64 idle) ∧ w'.cell? ⟨w.heap.size + 1, 2, none⟩ = some (.int .i64 price)) ((refine HSS.out _ (Lib.hid ?_); repeat (first | assumption | (with_reducible exact pr) | (with_reducible refine pd ?_) | (with_reducible refine pa ?_) | (with_reducible refine pt ?_ (by assumption)))))
                ((first
                  | (go_at_call 11; (with_reducible refine (HCr2.out _ (pd pr)).mono ?_); rintro e w11 ⟨A11, c11, rfl, hs11, hb11⟩; have HS11 := Lib.hid hs11)
                  | (go_at_call 12; (with_reducible refine (HCk.out _ (pt HBw.out (pt (pd pr) hb11))).mono ?_); rintro e w12 ⟨A12, c12, rfl, hs12, hb12⟩; have HS12 := Lib.hid hs12)
                  | (go_at_call 10; (with_reducible refine (HCh2.out _ A11 c11 A12 c12 (HUn.out _ (pt HBw.out (pt (pt (pd pr) hb11) hb12))) (HS11.out.past (Nat.le_refl _) hb12) HS12.out).mono ?_); rintro e w13 ⟨A13, L13, c13, n13, rfl, hb13⟩)))
              have HZ := Lib.hid (show Below wr.heap.size wr w13 from pt (pt (pt (pd pr) hb11) hb12) hb13)
              clear hb11 hb12 hb13 hs11 hs12 HS11 HS12 HSS
              have z7 : ¬ 0 ≤ wo := by omega
              go_wp2
              go_roundw
              case rel => exact ⟨wo + 1, by go_num, by omega, by omega, pt HQ.out (pt HQa.out HZ.out)⟩
              case measure => simp [intOf]; omega
            · rw [if_neg hneg] at HCh2
              go_region_held3 (fun w' => Hid (Below wr.heap.size wr w') ∧ w'.cell? ⟨wA.heap.size, 0, none⟩ = some (.slice A' L c') ∧ w'.cell? ⟨w.heap.size + 1, 0, none⟩ = some (.slice A n c) ∧ w'.cell? ⟨w.heap.size + 1, 1, none⟩ = some (.int .i64 idle) ∧ w'.cell? ⟨w.heap.size + 1, 2, none⟩ = some (.int .i64 price)) ((refine HSS.out _ (Lib.hid ?_); repeat (first | assumption | (with_reducible exact pr) | (with_reducible refine pd ?_) | (with_reducible refine pa ?_) | (with_reducible refine pt ?_ (by assumption)))))
                ((first
                  | (go_at_call 11; (with_reducible refine (HCr2.out _ (pd pr)).mono ?_); rintro e w11 ⟨A11, c11, rfl, hs11, hb11⟩; have HS11 := Lib.hid hs11)
                  | (go_at_call 12; (with_reducible refine (HCk.out _ (pt HBw.out (pt (pd pr) hb11))).mono ?_); rintro e w12 ⟨A12, c12, rfl, hs12, hb12⟩; have HS12 := Lib.hid hs12)
                  | (go_at_call 10; (with_reducible refine (HCh2.out _ A11 c11 A12 c12 (HUn.out _ (pt HBw.out (pt (pt (pd pr) hb11) hb12))) (HS11.out.past (Nat.le_refl _) hb12) HS12.out).mono ?_); rintro e w13 ⟨A13, L13, c13, n13, rfl, hb13⟩)))
              have HZ := Lib.hid (show Below wr.heap.size wr w13 from pt (pt (pt (pd pr) hb11) hb12) hb13)
              clear hb11 hb12 hb13 hs11 hs12 HS11 HS12 HSS
              have z7 : 0 ≤ wo := by omega
              go_wp2
              go_roundw
              case rel => exact ⟨wo + 1, by go_num, by omega, by omega, pt HQ.out (pt HQa.out HZ.out)⟩
              case measure => simp [intOf]; omega
    · have hwe : wo = (s.length : Int) := by omega
      go_wp2
      go_ret
      exact ⟨rfl, pt HB10.out HQ.out⟩
  
theorem designContradicted_any (B : Nat) (rs : List DReq) (RA : Option Addr) (rn rc : Nat) (sl : List (List DPart)) (A : Option Addr) (n c : Nat) (idle price : Int) (w : World) (hU : UnitIn w) (hQ : TabS 1 qWords w) (hW : TabS 0 uWords w) (hrr : ReqsIn B w RA rs) (hr : SlotsIn B w A sl) (hB : B ≤ w.heap.size) (hrn : rs.length = rn) (hn : sl.length = n) (h6 : Six sl) :
    Calls Tryz.prog 3 #[.agg #[.slice RA rn rc], .agg #[.slice A n c, .int .i64 idle, .int .i64 price]] w fun e w' => e = .returned (.bool true) ∧ Below w.heap.size w w' := by
  by_cases hf : FewP rs sl
  · by_cases h0 : openE rs idle price sl = 0
    · cases hb : lightB sl
      · exact contra_large B rs RA rn rc sl A n c idle price w hU hQ hW hrr hr hB hrn hn h6 hf h0 hb
      have hp : 0 < rs.length := (specE_ok (openE_zero.1 h0).1).1.1
      cases hT : cheaF rs idle price sl (allC (slotN sl)) with
      | none =>
        cases hC : contrV rs sl with
        | none => exact absurd hT ((chea_sizes (idle := idle) (price := price) hp).1 hC)
        | some s => exact contra_none B rs RA rn rc sl A n c idle price w hU hQ hW hrr hr hB hrn hn h6 hf h0 hb s hT hC
      | some x =>
        obtain ⟨l, kk⟩ := x
        have hC : contrV rs sl = none := (chea_sizes (idle := idle) (price := price) hp).2 (by rw [hT]; simp)
        exact contra_some B rs RA rn rc sl A n c idle price w hU hQ hW hrr hr hB hrn hn h6 hf h0 hb l kk hT hC
    · exact contra_err B rs RA rn rc sl A n c idle price w hU hQ hW hrr hr hB hrn hn h6 hf h0
  · exact contra_far B rs RA rn rc sl A n c idle price w hU hQ hW hrr hr hB hrn hn h6 hf

end Go.Proofs.YtnfbdkdjoekifaaGreatDoor
end

section
namespace Go.Proofs.YtnfbdkdjoekifaaGreatDoor
open Go.ChangeShapes Go.WideShapes Go.ChangeAt Go.RowKit Go.Joins

set_option maxRecDepth 100000 in
theorem designContradicted_met (os : Os) (args : Array Value) : laidMetH Tryz.prog Rows.designContradictedRow.laid ((World.laidAll Tryz.prog os Rows.designContradictedRow.laid).forCall (fun _ _ => 0) ⟨#[], args, []⟩).memory := by
  rw [MakeChecks.laidMetH_plain _ _ _ (by kernel_rfl)]
  exact laidMet_laidAll args (by kernel_rfl) (by kernel_rfl)

set_option maxRecDepth 100000 in
theorem designContradicted_lifted (os : Os) (started : os.Started) (H : Type) (enc : TypeId × Value → H) :
    ReturnsInHanded {} Tryz.checked os 3 .any (fun w args => (Rows.designContradictedSpec.pre enc Tryz.prog Tryz.f3 [] false w args ∧ laidMetH Tryz.prog Rows.designContradictedRow.laid w) ∧ sizedMet enc Tryz.prog Tryz.f3 (OpenSpec.ofChange Rows.designContradictedSpec) false w args)
      (Rows.designContradictedSpec.post enc Tryz.prog Tryz.f3 false true false false) := by
  refine returnsInHanded_of_change_and (C := Tryz.checked) (X := fun w _ => laidMetH Tryz.prog Rows.designContradictedRow.laid w) (fun _ _ _ hh h => h.of_heap hh) own_knob started (by kernel_rfl) Tryz.func3
    (ChangeSpec.witness_shaped (enc := enc) (C := Tryz.checked) (os := os) (X := fun w _ => laidMetH Tryz.prog Rows.designContradictedRow.laid w) false (World.laidAll Tryz.prog os Rows.designContradictedRow.laid) #[.agg #[.slice none 0 0], .agg #[.slice none 0 0, .int .i64 0, .int .i64 0]] 8 (World.laidAll_os _ _ _) (World.shaped_of_ZipB (by kernel_rfl) (by kernel_rfl)) (by kernel_rfl) (by kernel_rfl) (by kernel_rfl) (designContradicted_met os _)) ?_
  intro W base args ds gs before hval0 hWd _ _ hL _
  have hval : ∀ (j : Nat) t v, Tryz.f3.params[j]? = some t → args[j]? = some v → Value.okWide Tryz.prog W .any base t v := hval0
  have hW' := hWd
  obtain ⟨p, q, hA0, hV, rfl, hfz, hnd⟩ := hWd
  have hA : DataW.TrodAll enc Tryz.prog W 0 (fun _ => true) true Tryz.f3.params.toList args.toList ds p := hA0
  rw [Tryz.params3] at hA hval
  obtain ⟨v0, vs0, d0, ds0, p0, q0, hargs, rfl, rfl, h0, r0⟩ := trodAll_cons hA
  obtain ⟨v1, vs1, d1, ds1, p1, q1, rfl, rfl, rfl, h1, r1⟩ := trodAll_cons r0
  obtain ⟨rfl, rfl, rfl⟩ := trodAll_nil r1
  obtain rfl : args = #[v0, v1] := by cases args; simp_all
  obtain ⟨A0, c0, rs0, rfl, hs0, hcs0⟩ := open_spec (hval 0 _ v0 rfl rfl) h0
  obtain ⟨A1, c1, sl1, y1, z1, rfl, hs1, hx1⟩ := open_stock6 (hval 1 _ v1 rfl rfl) h1
  rw [MakeChecks.laidMetH_plain _ _ _ (by kernel_rfl)] at hL
  have hU := unit_reads (Lib.laidMet.reads hL (n := "buchholz/design.unitOf") (d := Rows.laid_buchholz_design_unitOf) (by simp [Rows.designContradictedRow]))
  have hQ := qwords_read (Lib.laidMet.reads hL (n := "buchholz/design.quantityWords") (d := Rows.laid_buchholz_design_quantityWords) (by simp [Rows.designContradictedRow]))
  have hW := uwords_read (Lib.laidMet.reads hL (n := "buchholz/design.unitWords") (d := Rows.laid_buchholz_design_unitWords) (by simp [Rows.designContradictedRow]))
  clear hA0 hval0 hval hA hL h0 r0 h1 r1
  refine (designContradicted_any W.heap.size rs0 A0 rs0.length c0 sl1 A1 sl1.length c1 y1 z1 W hU hQ hW hs0 hs1 (Nat.le_refl _) rfl rfl hx1).mono fun e W' ⟨he, hb⟩ => ?_
  subst he
  exact law_end laid_out (fun t ht => (by decide +kernel : ∀ t ∈ Tryz.f3.params.toList, Tryz.prog.readableRec t = true ∧ t < Tryz.prog.types.size) t ht) rfl Tryz.underlying4 rfl rfl hW' hb

theorem designContradicted_said : Rows.DesignContradictedSaid :=
  OpenClaim.holds_of_wide 3 Tryz.f3 rfl rfl rfl rfl rfl rfl rfl ⟨rfl, rfl, rfl, rfl, rfl⟩ rfl rfl rfl rfl rfl (by kernel_rfl) Tryz.func3 (by kernel_rfl)
    (of_decide_eq_true (by kernel_rfl)) (by unfold Func.isWrapper; first | (rw [if_pos (by decide +kernel)]; kernel_rfl) | (rw [if_neg (by decide +kernel)]; exact ⟨rfl, rfl⟩))
    (fun os started H enc _ => designContradicted_lifted os started H enc)

/-- No parameter wants a stand-in; the program's own looks are off. -/
theorem designContradicted_plain (f : FuncId) (fn : Func) (hf : Tryz.pinned.checked.prog.funcNamed "buchholz/buchholzlaw02.DesignContradicted" = some f) (hfn : Tryz.pinned.checked.prog.funcs[f]? = some fn) :
    false = Tryz.pinned.checked.prog.looks [] ∧ ∀ (j : Nat) t, fn.params[j]? = some t → Tryz.pinned.checked.prog.wantsStandIn t = false := by
  obtain rfl : f = 3 := Option.some.inj ((show Tryz.prog.funcNamed "buchholz/buchholzlaw02.DesignContradicted" = some 3 by kernel_rfl).symm.trans hf) |>.symm
  obtain rfl : fn = Tryz.f3 := (Option.some.inj (Tryz.func3.symm.trans hfn)).symm
  refine ⟨by kernel_rfl, fun j t ht => ?_⟩
  have hm : t ∈ Tryz.f3.params.toList := by simpa using Array.mem_of_getElem? ht
  exact (by decide +kernel : ∀ t ∈ Tryz.f3.params.toList, Tryz.prog.wantsStandIn t = false) t hm

/-- THE CARD. -/
theorem designContradicted_holds : Rows.DesignContradictedCardSaid :=
  Claim7.holds_tied_plain_at .later [] _ _ _ _ designContradicted_said (fun _ h => by cases h) (by kernel_rfl) (fun _ h => by cases h) designContradicted_row_tie rfl ⟨rfl, rfl⟩ (by kernel_rfl) rfl designContradicted_plain (by kernel_rfl)
#print axioms designContradicted_holds

end Go.Proofs.YtnfbdkdjoekifaaGreatDoor
end
