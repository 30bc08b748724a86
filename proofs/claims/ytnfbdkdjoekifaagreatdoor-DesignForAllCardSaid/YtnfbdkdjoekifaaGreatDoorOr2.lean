/- DesignForAll: the walk. Printed by a program (gen_d9walk.py). -/
import Derived.Test.YtnfbdkdjoekifaaGreatDoorOr1
import Derived.Test.YtnfbdkdjoekifaaGreatDoorOn6
import Derived.Test.YtnfbdkdjoekifaaGreatDoorOn5

section
namespace Go.Proofs.YtnfbdkdjoekifaaGreatDoor
open Go.RowKit

set_option maxRecDepth 100000 in
set_option maxHeartbeats 4000000 in
theorem forall_far (B : Nat) (rs : List DReq) (RA : Option Addr) (rn rc : Nat) (sl : List (List DPart)) (A : Option Addr) (n c : Nat) (idle price : Int) (ch : List Int) (CA : Option Addr) (m cc : Nat) (cs : Array Value) (at_ : Nat → Nat → Int) (w : World) (hU : UnitIn w) (hQ : TabS 1 qWords w) (hW : TabS 0 uWords w) (hrr : ReqsIn B w RA rs) (hr : SlotsIn B w A sl) (_hc : IntsIn B w CA ch) (_hm : ch.length = m) (hB : B ≤ w.heap.size) (hrn : rs.length = rn) (hn : sl.length = n) (_h6 : Six sl) (_hz : cs.size = 31) (hs0 : cs[0]? = some (.slice CA m cc)) (hat : ∀ i q, i < 5 → q < 6 → cs[1 + i * 6 + q]? = some (.int .i64 (at_ i q))) (hf : ¬ FewP rs sl) :
    Calls Tryz.prog 4 #[.agg #[.slice RA rn rc], .agg #[.slice A n c, .int .i64 idle, .int .i64 price], .agg cs] w fun e w' => e = .returned (.bool true) ∧ Below w.heap.size w w' := by
  have HAw := Lib.hid (awake_any (((w.alloc (.cells #[.slice RA rn rc] 24)).alloc (.cells #[.slice A n c, .int .i64 idle, .int .i64 price] 27)).alloc (.cells cs 49)) (hU.below (pa (pa (pa pr)))) (hQ.below (pa (pa (pa pr)))) (hW.below (pa (pa (pa pr)))))
  have HFe := Lib.hid (fun W (hW : Below w.heap.size w W) => (show Calls Tryz.prog 7 #[.agg #[.slice RA rn rc], .agg #[.slice A n c, .int .i64 idle, .int .i64 price]] W fun e w' => e = .returned (.bool false) ∧ Below W.heap.size W w' from (few_any B rs RA rn rc sl A n c idle price W (hrr.below (hW.mono hB)) (hr.below (hW.mono hB)) (Nat.le_trans hB hW.size) hrn hn).mono fun e w' h => by
    obtain ⟨⟨f, rfl, hfi⟩, hb⟩ := h
    cases f
    · exact ⟨rfl, hb⟩
    · exact absurd (hfi.1 rfl) hf))
  have HB0 := Lib.hid (show Below w.heap.size w (((w.alloc (.cells #[.slice RA rn rc] 24)).alloc (.cells #[.slice A n c, .int .i64 idle, .int .i64 price] 27)).alloc (.cells cs 49)) from pa (pa (pa pr)))
  have R0 := Lib.hid (show Blk (((w.alloc (.cells #[.slice RA rn rc] 24)).alloc (.cells #[.slice A n c, .int .i64 idle, .int .i64 price] 27)).alloc (.cells cs 49)) w.heap.size 24 #[.slice RA rn rc] from ((Blk.newAt rfl).alloc).alloc)
  have K0 := Lib.hid (show Blk (((w.alloc (.cells #[.slice RA rn rc] 24)).alloc (.cells #[.slice A n c, .int .i64 idle, .int .i64 price] 27)).alloc (.cells cs 49)) (w.heap.size + 1) 27 #[.slice A n c, .int .i64 idle, .int .i64 price] from (Blk.newAt (by simp)).alloc)
  have S0 := Lib.hid (show Blk (((w.alloc (.cells #[.slice RA rn rc] 24)).alloc (.cells #[.slice A n c, .int .i64 idle, .int .i64 price] 27)).alloc (.cells cs 49)) (w.heap.size + 1 + 1) 49 cs from Blk.newAt (by simp))
  have HS0 := Lib.hid hs0
  have HAt := Lib.hid hat
  clear hs0 hat
  clear hU hQ hW hrr hr hn hrn _hc _hm _h6
  go_enter Tryz.func4, Tryz.ntmps4
  go_wp2_with (first
    | (go_at_call 6; refine HAw.out.mono ?_; rintro e w1 ⟨rfl, hb⟩; have HB1 := Lib.hid (pt HB0.out hb); have R1 := Lib.hid (R0.out.past hb); have K1 := Lib.hid (K0.out.past hb); have S1 := Lib.hid (S0.out.past hb); clear hb; have x0 := R1.out.cellAt 0 rfl; have y0 := K1.out.cellAt 0 rfl; have y1 := K1.out.cellAt 1 rfl; have y2 := K1.out.cellAt 2 rfl; have s0 := (S1.out.cell 0).trans HS0.out; have xl := R1.out.lt; have yl := K1.out.lt; have sl_ := S1.out.lt)
    | (go_at_call 7; refine (HFe.out _ HB1.out).mono ?_; rintro e w2 ⟨rfl, hb⟩; have HB2 := Lib.hid (pt HB1.out hb); have R2 := Lib.hid (R1.out.past hb); have K2 := Lib.hid (K1.out.past hb); have S2 := Lib.hid (S1.out.past hb); clear x0 y0 y1 y2 s0 xl yl sl_; clear hb; have x0 := R2.out.cellAt 0 rfl; have y0 := K2.out.cellAt 0 rfl; have y1 := K2.out.cellAt 1 rfl; have y2 := K2.out.cellAt 2 rfl; have s0 := (S2.out.cell 0).trans HS0.out; have xl := R2.out.lt; have yl := K2.out.lt; have sl_ := S2.out.lt))
  go_ret
  exact ⟨rfl, HB2.out⟩

set_option maxRecDepth 100000 in
set_option maxHeartbeats 4000000 in
theorem forall_err (B : Nat) (rs : List DReq) (RA : Option Addr) (rn rc : Nat) (sl : List (List DPart)) (A : Option Addr) (n c : Nat) (idle price : Int) (ch : List Int) (CA : Option Addr) (m cc : Nat) (cs : Array Value) (at_ : Nat → Nat → Int) (w : World) (hU : UnitIn w) (hQ : TabS 1 qWords w) (hW : TabS 0 uWords w) (hrr : ReqsIn B w RA rs) (hr : SlotsIn B w A sl) (_hc : IntsIn B w CA ch) (_hm : ch.length = m) (hB : B ≤ w.heap.size) (hrn : rs.length = rn) (hn : sl.length = n) (_h6 : Six sl) (_hz : cs.size = 31) (hs0 : cs[0]? = some (.slice CA m cc)) (hat : ∀ i q, i < 5 → q < 6 → cs[1 + i * 6 + q]? = some (.int .i64 (at_ i q))) (hf : FewP rs sl) (h0 : openE rs idle price sl ≠ 0) :
    Calls Tryz.prog 4 #[.agg #[.slice RA rn rc], .agg #[.slice A n c, .int .i64 idle, .int .i64 price], .agg cs] w fun e w' => e = .returned (.bool true) ∧ Below w.heap.size w w' := by
  obtain ⟨f1, f2, f3, f4⟩ := few_bd2 hf
  have hn7 : n ≤ 7 := by omega
  have hr8 : rn ≤ 8 := by omega
  have HAw := Lib.hid (awake_any (((w.alloc (.cells #[.slice RA rn rc] 24)).alloc (.cells #[.slice A n c, .int .i64 idle, .int .i64 price] 27)).alloc (.cells cs 49)) (hU.below (pa (pa (pa pr)))) (hQ.below (pa (pa (pa pr)))) (hW.below (pa (pa (pa pr)))))
  have HFe := Lib.hid (fun W (hW : Below w.heap.size w W) => (show Calls Tryz.prog 7 #[.agg #[.slice RA rn rc], .agg #[.slice A n c, .int .i64 idle, .int .i64 price]] W fun e w' => e = .returned (.bool true) ∧ Below W.heap.size W w' from (few_any B rs RA rn rc sl A n c idle price W (hrr.below (hW.mono hB)) (hr.below (hW.mono hB)) (Nat.le_trans hB hW.size) hrn hn).mono fun e w' h => by
    obtain ⟨⟨f, rfl, hfi⟩, hb⟩ := h
    cases f
    · exact absurd (hfi.2 hf) (by decide)
    · exact ⟨rfl, hb⟩))
  have HBo := Lib.hid (fun W (hW : Below w.heap.size w W) => bothErr_any B rs RA rn rc sl A n c idle price W (hrr.below (hW.mono hB)) (hr.below (hW.mono hB)) (Nat.le_trans hB hW.size) hrn hn (by omega) f2 f4)
  have HB0 := Lib.hid (show Below w.heap.size w (((w.alloc (.cells #[.slice RA rn rc] 24)).alloc (.cells #[.slice A n c, .int .i64 idle, .int .i64 price] 27)).alloc (.cells cs 49)) from pa (pa (pa pr)))
  have R0 := Lib.hid (show Blk (((w.alloc (.cells #[.slice RA rn rc] 24)).alloc (.cells #[.slice A n c, .int .i64 idle, .int .i64 price] 27)).alloc (.cells cs 49)) w.heap.size 24 #[.slice RA rn rc] from ((Blk.newAt rfl).alloc).alloc)
  have K0 := Lib.hid (show Blk (((w.alloc (.cells #[.slice RA rn rc] 24)).alloc (.cells #[.slice A n c, .int .i64 idle, .int .i64 price] 27)).alloc (.cells cs 49)) (w.heap.size + 1) 27 #[.slice A n c, .int .i64 idle, .int .i64 price] from (Blk.newAt (by simp)).alloc)
  have S0 := Lib.hid (show Blk (((w.alloc (.cells #[.slice RA rn rc] 24)).alloc (.cells #[.slice A n c, .int .i64 idle, .int .i64 price] 27)).alloc (.cells cs 49)) (w.heap.size + 1 + 1) 49 cs from Blk.newAt (by simp))
  have HS0 := Lib.hid hs0
  have HAt := Lib.hid hat
  clear hs0 hat
  have z1 : (openE rs idle price sl != 0) = true := by simpa using h0
  generalize openE rs idle price sl = E at *
  clear hU hQ hW hrr hr hn hrn _hc _hm _h6 f1 f2 f3 f4 h0
  go_enter Tryz.func4, Tryz.ntmps4
  go_wp2_with (first
    | (go_at_call 6; refine HAw.out.mono ?_; rintro e w1 ⟨rfl, hb⟩; have HB1 := Lib.hid (pt HB0.out hb); have R1 := Lib.hid (R0.out.past hb); have K1 := Lib.hid (K0.out.past hb); have S1 := Lib.hid (S0.out.past hb); clear hb; have x0 := R1.out.cellAt 0 rfl; have y0 := K1.out.cellAt 0 rfl; have y1 := K1.out.cellAt 1 rfl; have y2 := K1.out.cellAt 2 rfl; have s0 := (S1.out.cell 0).trans HS0.out; have xl := R1.out.lt; have yl := K1.out.lt; have sl_ := S1.out.lt)
    | (go_at_call 7; refine (HFe.out _ HB1.out).mono ?_; rintro e w2 ⟨rfl, hb⟩; have HB2 := Lib.hid (pt HB1.out hb); have R2 := Lib.hid (R1.out.past hb); have K2 := Lib.hid (K1.out.past hb); have S2 := Lib.hid (S1.out.past hb); clear x0 y0 y1 y2 s0 xl yl sl_; clear hb; have x0 := R2.out.cellAt 0 rfl; have y0 := K2.out.cellAt 0 rfl; have y1 := K2.out.cellAt 1 rfl; have y2 := K2.out.cellAt 2 rfl; have s0 := (S2.out.cell 0).trans HS0.out; have xl := R2.out.lt; have yl := K2.out.lt; have sl_ := S2.out.lt)
    | (go_at_call 8; refine (HBo.out _ HB2.out).mono ?_; rintro e w3 ⟨rfl, hb⟩; have HB3 := Lib.hid (pt HB2.out hb); have R3 := Lib.hid (R2.out.past hb); have K3 := Lib.hid (K2.out.past hb); have S3 := Lib.hid (S2.out.past hb); clear x0 y0 y1 y2 s0 xl yl sl_; clear hb; have x0 := R3.out.cellAt 0 rfl; have y0 := K3.out.cellAt 0 rfl; have y1 := K3.out.cellAt 1 rfl; have y2 := K3.out.cellAt 2 rfl; have s0 := (S3.out.cell 0).trans HS0.out; have xl := R3.out.lt; have yl := K3.out.lt; have sl_ := S3.out.lt))
  go_ret
  exact ⟨rfl, HB3.out⟩

set_option maxRecDepth 100000 in
set_option maxHeartbeats 4000000 in
theorem forall_odd (B : Nat) (rs : List DReq) (RA : Option Addr) (rn rc : Nat) (sl : List (List DPart)) (A : Option Addr) (n c : Nat) (idle price : Int) (ch : List Int) (CA : Option Addr) (m cc : Nat) (cs : Array Value) (at_ : Nat → Nat → Int) (w : World) (hU : UnitIn w) (hQ : TabS 1 qWords w) (hW : TabS 0 uWords w) (hrr : ReqsIn B w RA rs) (hr : SlotsIn B w A sl) (hc : IntsIn B w CA ch) (hm : ch.length = m) (hB : B ≤ w.heap.size) (hrn : rs.length = rn) (hn : sl.length = n) (_h6 : Six sl) (_hz : cs.size = 31) (hs0 : cs[0]? = some (.slice CA m cc)) (hat : ∀ i q, i < 5 → q < 6 → cs[1 + i * 6 + q]? = some (.int .i64 (at_ i q))) (hf : FewP rs sl) (h0 : openE rs idle price sl = 0) (h2 : choiceE sl ch ≠ 0) :
    Calls Tryz.prog 4 #[.agg #[.slice RA rn rc], .agg #[.slice A n c, .int .i64 idle, .int .i64 price], .agg cs] w fun e w' => e = .returned (.bool true) ∧ Below w.heap.size w w' := by
  obtain ⟨f1, f2, f3, f4⟩ := few_bd2 hf
  have hn7 : n ≤ 7 := by omega
  have hr8 : rn ≤ 8 := by omega
  have HAw := Lib.hid (awake_any (((w.alloc (.cells #[.slice RA rn rc] 24)).alloc (.cells #[.slice A n c, .int .i64 idle, .int .i64 price] 27)).alloc (.cells cs 49)) (hU.below (pa (pa (pa pr)))) (hQ.below (pa (pa (pa pr)))) (hW.below (pa (pa (pa pr)))))
  have HFe := Lib.hid (fun W (hW : Below w.heap.size w W) => (show Calls Tryz.prog 7 #[.agg #[.slice RA rn rc], .agg #[.slice A n c, .int .i64 idle, .int .i64 price]] W fun e w' => e = .returned (.bool true) ∧ Below W.heap.size W w' from (few_any B rs RA rn rc sl A n c idle price W (hrr.below (hW.mono hB)) (hr.below (hW.mono hB)) (Nat.le_trans hB hW.size) hrn hn).mono fun e w' h => by
    obtain ⟨⟨f, rfl, hfi⟩, hb⟩ := h
    cases f
    · exact absurd (hfi.2 hf) (by decide)
    · exact ⟨rfl, hb⟩))
  have HBo := Lib.hid (fun W (hW : Below w.heap.size w W) => bothErr_any B rs RA rn rc sl A n c idle price W (hrr.below (hW.mono hB)) (hr.below (hW.mono hB)) (Nat.le_trans hB hW.size) hrn hn (by omega) f2 f4)
  have HRc := Lib.hid (fun W (hW : Below w.heap.size w W) => refChoiceErr_any B sl A n c idle price ch CA m cc W (hr.below (hW.mono hB)) (hc.below (hW.mono hB)) (Nat.le_trans hB hW.size) hn hm (by omega) (fun l hl => (f4 l hl).1))
  have HB0 := Lib.hid (show Below w.heap.size w (((w.alloc (.cells #[.slice RA rn rc] 24)).alloc (.cells #[.slice A n c, .int .i64 idle, .int .i64 price] 27)).alloc (.cells cs 49)) from pa (pa (pa pr)))
  have R0 := Lib.hid (show Blk (((w.alloc (.cells #[.slice RA rn rc] 24)).alloc (.cells #[.slice A n c, .int .i64 idle, .int .i64 price] 27)).alloc (.cells cs 49)) w.heap.size 24 #[.slice RA rn rc] from ((Blk.newAt rfl).alloc).alloc)
  have K0 := Lib.hid (show Blk (((w.alloc (.cells #[.slice RA rn rc] 24)).alloc (.cells #[.slice A n c, .int .i64 idle, .int .i64 price] 27)).alloc (.cells cs 49)) (w.heap.size + 1) 27 #[.slice A n c, .int .i64 idle, .int .i64 price] from (Blk.newAt (by simp)).alloc)
  have S0 := Lib.hid (show Blk (((w.alloc (.cells #[.slice RA rn rc] 24)).alloc (.cells #[.slice A n c, .int .i64 idle, .int .i64 price] 27)).alloc (.cells cs 49)) (w.heap.size + 1 + 1) 49 cs from Blk.newAt (by simp))
  have HS0 := Lib.hid hs0
  have HAt := Lib.hid hat
  clear hs0 hat
  rw [h0] at HBo
  have z1 : (choiceE sl ch != 0) = true := by simpa using h2
  generalize choiceE sl ch = E at *
  clear hU hQ hW hrr hr hn hrn hc hm _h6 f1 f2 f3 f4 h0 h2
  go_enter Tryz.func4, Tryz.ntmps4
  go_wp2_with (first
    | (go_at_call 6; refine HAw.out.mono ?_; rintro e w1 ⟨rfl, hb⟩; have HB1 := Lib.hid (pt HB0.out hb); have R1 := Lib.hid (R0.out.past hb); have K1 := Lib.hid (K0.out.past hb); have S1 := Lib.hid (S0.out.past hb); clear hb; have x0 := R1.out.cellAt 0 rfl; have y0 := K1.out.cellAt 0 rfl; have y1 := K1.out.cellAt 1 rfl; have y2 := K1.out.cellAt 2 rfl; have s0 := (S1.out.cell 0).trans HS0.out; have xl := R1.out.lt; have yl := K1.out.lt; have sl_ := S1.out.lt)
    | (go_at_call 7; refine (HFe.out _ HB1.out).mono ?_; rintro e w2 ⟨rfl, hb⟩; have HB2 := Lib.hid (pt HB1.out hb); have R2 := Lib.hid (R1.out.past hb); have K2 := Lib.hid (K1.out.past hb); have S2 := Lib.hid (S1.out.past hb); clear x0 y0 y1 y2 s0 xl yl sl_; clear hb; have x0 := R2.out.cellAt 0 rfl; have y0 := K2.out.cellAt 0 rfl; have y1 := K2.out.cellAt 1 rfl; have y2 := K2.out.cellAt 2 rfl; have s0 := (S2.out.cell 0).trans HS0.out; have xl := R2.out.lt; have yl := K2.out.lt; have sl_ := S2.out.lt)
    | (go_at_call 8; refine (HBo.out _ HB2.out).mono ?_; rintro e w3 ⟨rfl, hb⟩; have HB3 := Lib.hid (pt HB2.out hb); have R3 := Lib.hid (R2.out.past hb); have K3 := Lib.hid (K2.out.past hb); have S3 := Lib.hid (S2.out.past hb); clear x0 y0 y1 y2 s0 xl yl sl_; clear hb; have x0 := R3.out.cellAt 0 rfl; have y0 := K3.out.cellAt 0 rfl; have y1 := K3.out.cellAt 1 rfl; have y2 := K3.out.cellAt 2 rfl; have s0 := (S3.out.cell 0).trans HS0.out; have xl := R3.out.lt; have yl := K3.out.lt; have sl_ := S3.out.lt)
    | (go_at_call 14; refine (HRc.out _ HB3.out).mono ?_; rintro e w4 ⟨rfl, hb⟩; have HB4 := Lib.hid (pt HB3.out hb); have R4 := Lib.hid (R3.out.past hb); have K4 := Lib.hid (K3.out.past hb); have S4 := Lib.hid (S3.out.past hb); clear x0 y0 y1 y2 s0 xl yl sl_; clear hb; have x0 := R4.out.cellAt 0 rfl; have y0 := K4.out.cellAt 0 rfl; have y1 := K4.out.cellAt 1 rfl; have y2 := K4.out.cellAt 2 rfl; have s0 := (S4.out.cell 0).trans HS0.out; have xl := R4.out.lt; have yl := K4.out.lt; have sl_ := S4.out.lt))
  go_ret
  exact ⟨rfl, HB4.out⟩

set_option maxRecDepth 100000 in
set_option maxHeartbeats 16000000 in
theorem forall_main (B : Nat) (rs : List DReq) (RA : Option Addr) (rn rc : Nat) (sl : List (List DPart)) (A : Option Addr) (n c : Nat) (idle price : Int) (ch : List Int) (CA : Option Addr) (m cc : Nat) (cs : Array Value) (at_ : Nat → Nat → Int) (w : World) (hU : UnitIn w) (hQ : TabS 1 qWords w) (hW : TabS 0 uWords w) (hrr : ReqsIn B w RA rs) (hr : SlotsIn B w A sl) (hc : IntsIn B w CA ch) (hm : ch.length = m) (hB : B ≤ w.heap.size) (hrn : rs.length = rn) (hn : sl.length = n) (h6 : Six sl) (_hz : cs.size = 31) (hs0 : cs[0]? = some (.slice CA m cc)) (hat : ∀ i q, i < 5 → q < 6 → cs[1 + i * 6 + q]? = some (.int .i64 (at_ i q))) (hf : FewP rs sl) (h0 : openE rs idle price sl = 0) (h2 : choiceE sl ch = 0) :
    Calls Tryz.prog 4 #[.agg #[.slice RA rn rc], .agg #[.slice A n c, .int .i64 idle, .int .i64 price], .agg cs] w fun e w' => e = .returned (.bool true) ∧ Below w.heap.size w w' := by
  obtain ⟨f1, f2, f3, f4⟩ := few_bd2 hf
  have hn7 : n ≤ 7 := by omega
  have hr8 : rn ≤ 8 := by omega
  have HAw := Lib.hid (awake_any (((w.alloc (.cells #[.slice RA rn rc] 24)).alloc (.cells #[.slice A n c, .int .i64 idle, .int .i64 price] 27)).alloc (.cells cs 49)) (hU.below (pa (pa (pa pr)))) (hQ.below (pa (pa (pa pr)))) (hW.below (pa (pa (pa pr)))))
  have HFe := Lib.hid (fun W (hW : Below w.heap.size w W) => (show Calls Tryz.prog 7 #[.agg #[.slice RA rn rc], .agg #[.slice A n c, .int .i64 idle, .int .i64 price]] W fun e w' => e = .returned (.bool true) ∧ Below W.heap.size W w' from (few_any B rs RA rn rc sl A n c idle price W (hrr.below (hW.mono hB)) (hr.below (hW.mono hB)) (Nat.le_trans hB hW.size) hrn hn).mono fun e w' h => by
    obtain ⟨⟨f, rfl, hfi⟩, hb⟩ := h
    cases f
    · exact absurd (hfi.2 hf) (by decide)
    · exact ⟨rfl, hb⟩))
  have hall : allE rs idle price sl ch = 0 := by unfold allE; rw [if_pos h0, h2]
  have hok := openE_ok h6 h0
  have hch := choiceE_ok h2
  obtain rfl : n = m := by rw [← hm, ← hn]; exact hch.1.symm
  have HCk := Lib.hid (fun W (hW : Below w.heap.size w W) => (show Calls Tryz.prog 12 #[.agg #[.slice A n c, .int .i64 idle, .int .i64 price]] W fun e w' => ∃ A2 c2, e = .returned (.agg #[.slice A2 n c2, .int .i64 idle, .int .i64 price]) ∧ SlotsIn w'.heap.size w' A2 sl ∧ Below W.heap.size W w' from (copyStock_any B sl A n c idle price W (hr.below (hW.mono hB)) (Nat.le_trans hB hW.size) hn (by omega) (fun l hl => (f4 l hl).1)).mono fun e w' h => by
    obtain ⟨A2, c2, rfl, h2, _, h3⟩ := h
    rw [hn]
    exact ⟨A2, c2, rfl, h2, h3⟩))
  have HCr := Lib.hid (fun W (hW : Below w.heap.size w W) => (show Calls Tryz.prog 11 #[.agg #[.slice RA rn rc]] W fun e w' => ∃ A2 c2, e = .returned (.agg #[.slice A2 rn c2]) ∧ ReqsIn w'.heap.size w' A2 rs ∧ Below W.heap.size W w' from (copySpec_any B rs RA rn rc W (hrr.below (hW.mono hB)) (Nat.le_trans hB hW.size) hrn (by omega) f2).mono fun e w' h => by
    obtain ⟨A2, c2, rfl, h2, _, h3⟩ := h
    rw [hrn]
    exact ⟨A2, c2, rfl, h2, h3⟩))
  have HCi := Lib.hid (fun W (hW : Below w.heap.size w W) => (copyInts_any B CA n cc ch W (hc.below (hW.mono hB)) hm (Nat.le_trans hB hW.size) (by omega)).mono (fun _ _ h => copy_formC h))
  rw [hm] at HCi
  have HBo := Lib.hid (fun W (hW : Below w.heap.size w W) => bothErr_any B rs RA rn rc sl A n c idle price W (hrr.below (hW.mono hB)) (hr.below (hW.mono hB)) (Nat.le_trans hB hW.size) hrn hn (by omega) f2 f4)
  have HRc := Lib.hid (fun W (hW : Below w.heap.size w W) => refChoiceErr_any B sl A n c idle price ch CA n cc W (hr.below (hW.mono hB)) (hc.below (hW.mono hB)) (Nat.le_trans hB hW.size) hn hm (by omega) (fun l hl => (f4 l hl).1))
  have HMa := Lib.hid (fun (W : World) A1 c1 A2 c2 A3 c3 (hU : UnitIn W) (h0 : ReqsIn W.heap.size W A1 rs) (h : SlotsIn W.heap.size W A2 sl) (h' : IntsIn W.heap.size W A3 ch) => MarginsOf_any W.heap.size rs A1 rn c1 sl A2 n c2 idle price ch A3 n c3 W h0 h h' (Nat.le_refl _) hn hm (by omega) f4 hrn (by omega) f2 hU h6)
  have HMe := Lib.hid (fun (W : World) A1 c1 A2 c2 A3 c3 (hU : UnitIn W) (h0 : ReqsIn W.heap.size W A1 rs) (h : SlotsIn W.heap.size W A2 sl) (h' : IntsIn W.heap.size W A3 ch) => Meets_any W.heap.size rs A1 rn c1 sl A2 n c2 idle price ch A3 n c3 W h0 h h' (Nat.le_refl _) hn hm (by omega) f4 hrn (by omega) f2 hU h6)
  have HUn := Lib.hid (fun W (hW' : Below w.heap.size w W) => hU.below hW')
  rw [h0] at HBo
  rw [h2] at HRc
  rw [hall, if_pos rfl] at HMa HMe
  have hml : (marginsV rs sl ch).length = rn := by unfold marginsV; rw [List.length_map, hrn]
  have HMat := Lib.hid (show ∀ j, j < rn → (marginsV rs sl ch).getD j default = marginV (rs.getD j default) (valsF sl ch n) from fun j hj => by
    unfold marginsV
    rw [hm]
    simp [List.getD, show j < rs.length by omega])
  have HFin := Lib.hid (fun (b : Bool) (h : AllSt (fun j => marginV (rs.getD j default) (valsF sl ch n)) rn b) => (show (b = true ∧ (meetsV rs sl ch = 1 ∨ meetsV rs sl ch = 2)) ∨ (b = false ∧ (meetsV rs sl ch = 0 ∨ meetsV rs sl ch = 1)) from AllSt.fin (by rw [hm, hrn]; exact h)))
  unfold MargRet at HMa
  rw [hml] at HMa
  have HMl := Lib.hid hml
  generalize marginsV rs sl ch = ML at *
  generalize meetsV rs sl ch = mv at *
  have HR := Lib.hid hr
  have HRR := Lib.hid hrr
  have HC := Lib.hid hc
  have HN := Lib.hid hn
  have HRn := Lib.hid hrn
  have HCm := Lib.hid hm
  have HOk := Lib.hid hok
  have HCh := Lib.hid hch
  have HVb := Lib.hid (fun k (hk : k ≤ n) q => vals_bd hok.s hch q (k := k) (by rw [hn]; exact hk))
  have HAll := Lib.hid (fun L (h : Between (valsF sl ch n) L) q => (by have h9 := Between.all hok.s hch (L := L) (by rw [hn]; exact h) q; rw [hn] at h9; exact h9 : (valsF sl ch n q).1 ≤ L.getD q.toNat 0 ∧ L.getD q.toNat 0 ≤ (valsF sl ch n q).2))
  have hn5 : n ≤ 5 := by rw [← hn]; exact hok.s.1.2
  have HB0 := Lib.hid (show Below w.heap.size w (((w.alloc (.cells #[.slice RA rn rc] 24)).alloc (.cells #[.slice A n c, .int .i64 idle, .int .i64 price] 27)).alloc (.cells cs 49)) from pa (pa (pa pr)))
  have R0 := Lib.hid (show Blk (((w.alloc (.cells #[.slice RA rn rc] 24)).alloc (.cells #[.slice A n c, .int .i64 idle, .int .i64 price] 27)).alloc (.cells cs 49)) w.heap.size 24 #[.slice RA rn rc] from ((Blk.newAt rfl).alloc).alloc)
  have K0 := Lib.hid (show Blk (((w.alloc (.cells #[.slice RA rn rc] 24)).alloc (.cells #[.slice A n c, .int .i64 idle, .int .i64 price] 27)).alloc (.cells cs 49)) (w.heap.size + 1) 27 #[.slice A n c, .int .i64 idle, .int .i64 price] from (Blk.newAt (by simp)).alloc)
  have S0 := Lib.hid (show Blk (((w.alloc (.cells #[.slice RA rn rc] 24)).alloc (.cells #[.slice A n c, .int .i64 idle, .int .i64 price] 27)).alloc (.cells cs 49)) (w.heap.size + 1 + 1) 49 cs from Blk.newAt (by simp))
  have HS0 := Lib.hid hs0
  have HAt := Lib.hid hat
  clear hs0 hat
  clear hU hQ hW hrr hr hn hrn hc hm h6 f1 f2 f3 f4 h0 h2 hf hok hch hall hml
  go_enter Tryz.func4, Tryz.ntmps4
  go_wp2_with (first
    | (go_at_call 6; refine HAw.out.mono ?_; rintro e w1 ⟨rfl, hb⟩; have HB1 := Lib.hid (pt HB0.out hb); have R1 := Lib.hid (R0.out.past hb); have K1 := Lib.hid (K0.out.past hb); have S1 := Lib.hid (S0.out.past hb); clear hb; have x0 := R1.out.cellAt 0 rfl; have y0 := K1.out.cellAt 0 rfl; have y1 := K1.out.cellAt 1 rfl; have y2 := K1.out.cellAt 2 rfl; have s0 := (S1.out.cell 0).trans HS0.out; have xl := R1.out.lt; have yl := K1.out.lt; have sl_ := S1.out.lt)
    | (go_at_call 7; refine (HFe.out _ HB1.out).mono ?_; rintro e w2 ⟨rfl, hb⟩; have HB2 := Lib.hid (pt HB1.out hb); have R2 := Lib.hid (R1.out.past hb); have K2 := Lib.hid (K1.out.past hb); have S2 := Lib.hid (S1.out.past hb); clear x0 y0 y1 y2 s0 xl yl sl_; clear hb; have x0 := R2.out.cellAt 0 rfl; have y0 := K2.out.cellAt 0 rfl; have y1 := K2.out.cellAt 1 rfl; have y2 := K2.out.cellAt 2 rfl; have s0 := (S2.out.cell 0).trans HS0.out; have xl := R2.out.lt; have yl := K2.out.lt; have sl_ := S2.out.lt)
    | (go_at_call 8; refine (HBo.out _ HB2.out).mono ?_; rintro e w3 ⟨rfl, hb⟩; have HB3 := Lib.hid (pt HB2.out hb); have R3 := Lib.hid (R2.out.past hb); have K3 := Lib.hid (K2.out.past hb); have S3 := Lib.hid (S2.out.past hb); clear x0 y0 y1 y2 s0 xl yl sl_; clear hb; have x0 := R3.out.cellAt 0 rfl; have y0 := K3.out.cellAt 0 rfl; have y1 := K3.out.cellAt 1 rfl; have y2 := K3.out.cellAt 2 rfl; have s0 := (S3.out.cell 0).trans HS0.out; have xl := R3.out.lt; have yl := K3.out.lt; have sl_ := S3.out.lt)
    | (go_at_call 14; refine (HRc.out _ HB3.out).mono ?_; rintro e w8 ⟨rfl, hb⟩; have HB8 := Lib.hid (pt HB3.out hb); have R8 := Lib.hid (R3.out.past hb); have K8 := Lib.hid (K3.out.past hb); have S8 := Lib.hid (S3.out.past hb); clear x0 y0 y1 y2 s0 xl yl sl_; clear hb; have x0 := R8.out.cellAt 0 rfl; have y0 := K8.out.cellAt 0 rfl; have y1 := K8.out.cellAt 1 rfl; have y2 := K8.out.cellAt 2 rfl; have s0 := (S8.out.cell 0).trans HS0.out; have xl := R8.out.lt; have yl := K8.out.lt; have sl_ := S8.out.lt))
  clear R0 R1 R2 R3 K0 K1 K2 K3 S0 S1 S2 S3 HB0 HB1 HB2 HB3 HAw HFe HBo HRc
  have HSS := Lib.hid (show ∀ W, Hid (Below w8.heap.size w8 W) → Hid (Below w8.heap.size w8 W) ∧ W.cell? ⟨w.heap.size, 0, none⟩ = some (.slice RA rn rc) ∧ W.cell? ⟨w.heap.size + 1, 0, none⟩ = some (.slice A n c) ∧ W.cell? ⟨w.heap.size + 1, 1, none⟩ = some (.int .i64 idle) ∧ W.cell? ⟨w.heap.size + 1, 2, none⟩ = some (.int .i64 price) ∧ W.cell? ⟨w.heap.size + 1 + 1, 0, none⟩ = some (.slice CA n cc) from fun W hW => ⟨hW, (R8.out.past hW.out).cellAt 0 rfl, (K8.out.past hW.out).cellAt 0 rfl, (K8.out.past hW.out).cellAt 1 rfl, (K8.out.past hW.out).cellAt 2 rfl, ((S8.out.past hW.out).cell 0).trans HS0.out⟩)
  clear x0 y0 y1 y2 s0
  go_region_held3 (fun w' => Hid (Below w8.heap.size w8 w') ∧ w'.cell? ⟨w.heap.size, 0, none⟩ = some (.slice RA rn rc) ∧ w'.cell? ⟨w.heap.size + 1, 0, none⟩ = some (.slice A n c) ∧ w'.cell? ⟨w.heap.size + 1, 1, none⟩ = some (.int .i64 idle) ∧ w'.cell? ⟨w.heap.size + 1, 2, none⟩ = some (.int .i64 price) ∧ w'.cell? ⟨w.heap.size + 1 + 1, 0, none⟩ = some (.slice CA n cc)) ((refine HSS.out _ (Lib.hid ?_); repeat (first | assumption | (with_reducible exact pr) | (with_reducible refine pd ?_) | (with_reducible refine pa ?_) | (with_reducible refine pt ?_ (by assumption)))))
    ((first
      | (go_at_call 11; (with_reducible refine (HCr.out _ (pd HB8.out)).mono ?_); rintro e w9 ⟨A9, c9, rfl, hs9, hb9⟩; have HS9 := Lib.hid hs9)
      | (go_at_call 12; (with_reducible refine (HCk.out _ (pt (pd HB8.out) hb9)).mono ?_); rintro e w10 ⟨A10, c10, rfl, hs10, hb10⟩; have HS10 := Lib.hid hs10)
      | (go_at_call 19; (with_reducible refine (HCi.out _ (pt (pt (pd HB8.out) hb9) hb10)).mono ?_); rintro e w11 ⟨A11, c11, rfl, hi11, hb11⟩; have HI11 := Lib.hid hi11)
      | (go_at_call 18; (with_reducible refine (HMa.out _ A9 c9 A10 c10 A11 c11 (HUn.out _ (pt (pt (pt (pd HB8.out) hb9) hb10) hb11)) ((HS9.out.past (Nat.le_refl _) hb10).past (Nat.le_refl _) hb11) (HS10.out.past (Nat.le_refl _) hb11) HI11.out).mono ?_); rintro e w12 ⟨A12, c12, rfl, hc12, hb12⟩; have HC12 := Lib.hid hc12)))
  have HB12 := Lib.hid (show Below w.heap.size w w12 from pt (pt (pt (pt (pd HB8.out) hb9) hb10) hb11) hb12)
  have HBl12 := Lib.hid (show Below w8.heap.size w8 w12 from pt (pt (pt (pt (pd pr) hb9) hb10) hb11) hb12)
  have R12 := Lib.hid (R8.out.past HBl12.out)
  have K12 := Lib.hid (K8.out.past HBl12.out)
  have S12 := Lib.hid (S8.out.past HBl12.out)
  clear HSS xl yl sl_ hs9 hs10 hi11 hb9 hb10 hb11 hb12 HS9 HS10 HI11 R8 K8 S8 HB8
  have x0 := R12.out.cellAt 0 rfl; have y0 := K12.out.cellAt 0 rfl; have y1 := K12.out.cellAt 1 rfl; have y2 := K12.out.cellAt 2 rfl; have s0 := (S12.out.cell 0).trans HS0.out; have xl := R12.out.lt; have yl := K12.out.lt; have sl_ := S12.out.lt
  clear hc12
  go_wp2
  have HSS := Lib.hid (show ∀ W, Hid (Below w12.heap.size w12 W) → Hid (Below w12.heap.size w12 W) ∧ W.cell? ⟨w.heap.size, 0, none⟩ = some (.slice RA rn rc) ∧ W.cell? ⟨w.heap.size + 1, 0, none⟩ = some (.slice A n c) ∧ W.cell? ⟨w.heap.size + 1, 1, none⟩ = some (.int .i64 idle) ∧ W.cell? ⟨w.heap.size + 1, 2, none⟩ = some (.int .i64 price) ∧ W.cell? ⟨w.heap.size + 1 + 1, 0, none⟩ = some (.slice CA n cc) from fun W hW => ⟨hW, (R12.out.past hW.out).cellAt 0 rfl, (K12.out.past hW.out).cellAt 0 rfl, (K12.out.past hW.out).cellAt 1 rfl, (K12.out.past hW.out).cellAt 2 rfl, ((S12.out.past hW.out).cell 0).trans HS0.out⟩)
  clear x0 y0 y1 y2 s0
  go_region_held3 (fun w' => Hid (Below w12.heap.size w12 w') ∧ w'.cell? ⟨w.heap.size, 0, none⟩ = some (.slice RA rn rc) ∧ w'.cell? ⟨w.heap.size + 1, 0, none⟩ = some (.slice A n c) ∧ w'.cell? ⟨w.heap.size + 1, 1, none⟩ = some (.int .i64 idle) ∧ w'.cell? ⟨w.heap.size + 1, 2, none⟩ = some (.int .i64 price) ∧ w'.cell? ⟨w.heap.size + 1 + 1, 0, none⟩ = some (.slice CA n cc)) ((refine HSS.out _ (Lib.hid ?_); repeat (first | assumption | (with_reducible exact pr) | (with_reducible refine pd ?_) | (with_reducible refine pa ?_) | (with_reducible refine pt ?_ (by assumption)))))
    ((first
      | (go_at_call 11; (with_reducible refine (HCr.out _ (pd HB12.out)).mono ?_); rintro e w13 ⟨A13, c13, rfl, hs13, hb13⟩; have HS13 := Lib.hid hs13)
      | (go_at_call 12; (with_reducible refine (HCk.out _ (pt (pd HB12.out) hb13)).mono ?_); rintro e w14 ⟨A14, c14, rfl, hs14, hb14⟩; have HS14 := Lib.hid hs14)
      | (go_at_call 19; (with_reducible refine (HCi.out _ (pt (pt (pd HB12.out) hb13) hb14)).mono ?_); rintro e w15 ⟨A15, c15, rfl, hi15, hb15⟩; have HI15 := Lib.hid hi15)
      | (go_at_call 20; (with_reducible refine (HMe.out _ A13 c13 A14 c14 A15 c15 (HUn.out _ (pt (pt (pt (pd HB12.out) hb13) hb14) hb15)) ((HS13.out.past (Nat.le_refl _) hb14).past (Nat.le_refl _) hb15) (HS14.out.past (Nat.le_refl _) hb15) HI15.out).mono ?_); rintro e w16 ⟨rfl, hb16⟩)))
  have HB16 := Lib.hid (show Below w.heap.size w w16 from pt (pt (pt (pt (pd HB12.out) hb13) hb14) hb15) hb16)
  have HBl16 := Lib.hid (show Below w12.heap.size w12 w16 from pt (pt (pt (pt (pd pr) hb13) hb14) hb15) hb16)
  have R16 := Lib.hid (R12.out.past HBl16.out)
  have K16 := Lib.hid (K12.out.past HBl16.out)
  have S16 := Lib.hid (S12.out.past HBl16.out)
  clear HSS xl yl sl_ hs13 hs14 hi15 hb13 hb14 hb15 hb16 HS13 HS14 HI15 R12 K12 S12 HB12
  have x0 := R16.out.cellAt 0 rfl; have y0 := K16.out.cellAt 0 rfl; have y1 := K16.out.cellAt 1 rfl; have y2 := K16.out.cellAt 2 rfl; have s0 := (S16.out.cell 0).trans HS0.out; have xl := R16.out.lt; have yl := K16.out.lt; have sl_ := S16.out.lt
  have HC16 := Lib.hid ((HC12.out.below HBl16.out).more HBl16.out.size)
  clear HC12 HBl12 HBl16 HMa HMe HCk HCr HCi HUn
  go_wp2
  have G0 := Lib.hid (show Blk (w16.alloc (.cells #[.int .i64 0, .int .i64 0, .int .i64 0, .int .i64 0, .int .i64 0, .int .i64 0] 46)) w16.heap.size 46 (sixC [0, 0, 0, 0, 0, 0]) from Blk.newAt rfl)
  have HL0 := Lib.hid (show Below w16.heap.size w16 (w16.alloc (.cells #[.int .i64 0, .int .i64 0, .int .i64 0, .int .i64 0, .int .i64 0, .int .i64 0] 46)) from pa pr)
  generalize w16.alloc (.cells #[.int .i64 0, .int .i64 0, .int .i64 0, .int .i64 0, .int .i64 0, .int .i64 0] 46) = wE at *
  clear x0 y0 y1 y2 s0 xl yl sl_
  have HSz := Lib.hid (show w.heap.size < w16.heap.size ∧ w.heap.size + 1 < w16.heap.size ∧ w.heap.size + 1 + 1 < w16.heap.size from ⟨R16.out.lt, K16.out.lt, S16.out.lt⟩)
  go_loopw [12] (fun iv wr => ∃ (k : Nat) (L : List Int), iv = .int .i64 (k : Int) ∧ k ≤ n ∧ Between (valsF sl ch k) L ∧ Blk wr w16.heap.size 46 (sixC L) ∧ Below w16.heap.size w16 wr) (fun iv _ => n - (intOf iv).toNat)
  case atStart => exact ⟨0, _, rfl, Nat.zero_le _, Between.zero sl ch, G0.out, HL0.out⟩
  case round =>
    clear G0 HL0
    obtain ⟨k, L, rfl, hk, hbt, hg, hq⟩ := hrel
    have HBt := Lib.hid hbt
    have HG := Lib.hid hg
    have HQ := Lib.hid hq
    clear hbt hg hq
    by_cases hlt : k < n
    · have hk' : k < sl.length := by rw [HN.out]; exact hlt
      obtain ⟨_, _, hpo⟩ := part_mem HOk.out.s HCh.out hk'
      have hcb := HCh.out.2 k hk'
      obtain ⟨b0, off0, rfl, hb0, hct0⟩ := HC.out.at_ (k := k) (by rw [HCm.out]; exact hlt)
      have e0 := hct0 k (by rw [HCm.out]; exact hlt)
      obtain ⟨b1, off1, rfl, hb1, hct1⟩ := HR.out.at_ hk'
      obtain ⟨A2, c2, e1, hts, hcap⟩ := hct1 k hk'
      have HSet := Lib.hid (fun q L x (h : Between (mixV sl ch k q) L) hq h1 h2 => Between.set (x := x) h hq h1 h2)
      unfold partAt at *
      generalize ch.getD k 0 = y at *
      obtain ⟨yn, rfl⟩ : ∃ yn : Nat, y = (yn : Int) := ⟨y.toNat, by omega⟩
      have hyl : yn < (sl.getD k []).length := by omega
      obtain ⟨b2, off2, rfl, hb2, hct2⟩ := parts_at hts hyl
      have HPt := Lib.hid (hct2 yn hyl)
      rw [Int.toNat_natCast] at *
      generalize (sl.getD k []).length = ln at *
      generalize (sl.getD k []).getD yn default = prt at *
      have HCell := Lib.hid (fun W (hW2 : Below w16.heap.size w16 W) => (show W.cell? ⟨b0, off0 + k, none⟩ = some (.int .i64 (yn : Int)) ∧ W.cell? ⟨b1, off1 + k, none⟩ = some (.slice (some ⟨b2, off2, none⟩) ln c2) ∧ (∀ q, q < 6 → W.cell? ⟨b2, off2 + yn * 14 + 2 + q * 2, none⟩ = some (.int .i64 (valP prt (q : Int)).1) ∧ W.cell? ⟨b2, off2 + yn * 14 + 2 + q * 2 + 1, none⟩ = some (.int .i64 (valP prt (q : Int)).2)) ∧ (b0 < W.heap.size ∧ b1 < W.heap.size ∧ b2 < W.heap.size) from by
        have hW := pt HB16.out hW2
        refine ⟨((bcell hW).1 _ _ (by omega)).trans e0, ((bcell hW).1 _ _ (by omega)).trans e1, fun q hq => ?_, by have := hW.size; omega⟩
        have pv : (partU prt)[2 + q * 2]? = some (.int .i64 (valP prt (q : Int)).1) ∧ (partU prt)[2 + q * 2 + 1]? = some (.int .i64 (valP prt (q : Int)).2) := by
          rcases (show q = 0 ∨ q = 1 ∨ q = 2 ∨ q = 3 ∨ q = 4 ∨ q = 5 by omega) with rfl | rfl | rfl | rfl | rfl | rfl <;> exact ⟨rfl, rfl⟩
        have f1 := ((bcell hW).1 b2 _ (by omega)).trans ((HPt.out (2 + q * 2) (by omega)).trans pv.1)
        have f2 := ((bcell hW).1 b2 _ (by omega)).trans ((HPt.out (2 + q * 2 + 1) (by omega)).trans pv.2)
        rw [show off2 + yn * 14 + (2 + q * 2) = off2 + yn * 14 + 2 + q * 2 by omega] at f1
        rw [show off2 + yn * 14 + (2 + q * 2 + 1) = off2 + yn * 14 + 2 + q * 2 + 1 by omega] at f2
        exact ⟨f1, f2⟩))
      have y0' : (0 : Int) ≤ (yn : Int) := by omega
      have y1' : (yn : Int) < (ln : Int) := by omega
      have k0 : (0 : Int) ≤ (k : Int) := by omega
      have k1 : (k : Int) < (n : Int) := by omega
      have k5 : (k : Int) < 5 := by omega
      have HPo := Lib.hid hpo
      have HVk := Lib.hid (fun q => HVb.out k (by omega) q)
      have HVk1 := Lib.hid (fun q => HVb.out (k + 1) (by omega) q)
      have s0 := ((S16.out.past HQ.out).cell 0).trans HS0.out
      have sl_ := (S16.out.past HQ.out).lt
      clear hct0 hct1 hct2 hts hcap hcb hpo e0 e1 HPt
      go_wp2
      obtain ⟨wo, hwo⟩ : ∃ wo : World, wo = wr := ⟨_, rfl⟩
      subst hwo
      have HI0 := Lib.hid (show Between (mixV sl ch k 0) L ∧ Blk wo w16.heap.size 46 (sixC L) ∧ Below w16.heap.size w16 wo from ⟨HBt.out.start, HG.out, HQ.out⟩)
      clear HBt HG HQ s0 sl_
      go_loopw [13] (fun jv wr => ∃ (q : Nat) (L : List Int), jv = .int .i64 (q : Int) ∧ q ≤ 6 ∧ Between (mixV sl ch k q) L ∧ Blk wr w16.heap.size 46 (sixC L) ∧ Below w16.heap.size w16 wr) (fun jv _ => 6 - (intOf jv).toNat)
      case atStart => exact ⟨0, L, rfl, Nat.zero_le _, HI0.out⟩
      case round =>
        clear HI0
        obtain ⟨q, L, rfl, hq6, hbt, hg, hq⟩ := hrel
        have HBt := Lib.hid hbt
        have HG := Lib.hid hg
        have HQ := Lib.hid hq
        clear hbt hg hq
        by_cases hlt6 : q < 6
        · obtain ⟨e0, e1, hpt, hb0w, hb1w, hb2w⟩ := HCell.out wr HQ.out
          obtain ⟨e2, e3⟩ := hpt q hlt6
          have hll := HBt.out.1
          have hLq := HBt.out.2 q hlt6
          have e4 := (HG.out.cell q).trans (sixC_at (L := L) (q := q) (by omega))
          have x0 := (R16.out.past HQ.out).cellAt 0 rfl
          have y0 := (K16.out.past HQ.out).cellAt 0 rfl
          have s0 := ((S16.out.past HQ.out).cell 0).trans HS0.out
          have s1 := ((S16.out.past HQ.out).cell (1 + k * 6 + q)).trans (HAt.out k q (by omega) hlt6)
          have xl := (R16.out.past HQ.out).lt
          have yl := (K16.out.past HQ.out).lt
          have sl_ := (S16.out.past HQ.out).lt
          have gl := HG.out.lt
          have hpv := HPo.out.2.2 (q : Int)
          have hv1 := HVk.out (q : Int)
          have hm1 : mixV sl ch k q (q : Int) = valsF sl ch k (q : Int) := mix_at sl ch k q
          rw [hm1] at hLq
          have q60 : (0 : Int) ≤ (q : Int) := by omega
          have q61 : (q : Int) < 6 := by omega
          have HSq := Lib.hid (fun x h1 h2 => HSet.out q L x HBt.out hlt6 h1 h2)
          have hlL := Lib.hid hll
          generalize hx : L.getD q 0 = x at *
          have hxq := Lib.hid hx
          generalize (valP prt (q : Int)).1 = lo at *
          generalize (valP prt (q : Int)).2 = hi at *
          generalize hat : at_ k q = a at *
          have haq := Lib.hid hat
          have bx : 0 ≤ x ∧ x ≤ 5000000 := by omega
          have hmd1 := Int.emod_nonneg a (show hi - lo + 1 ≠ 0 by omega)
          have hmd2 := Int.emod_lt_of_pos a (show 0 < hi - lo + 1 by omega)
          have HMo := Lib.hid (fun W => baseMod_any a (hi - lo + 1) (by omega) (by omega) W)
          generalize a % (hi - lo + 1) = md at *
          have wa1 : IntKind.i64.wrap (hi - lo) = hi - lo := IntWalk.i64_in _ (by omega)
          have wa2 : IntKind.i64.wrap (hi - lo + 1) = hi - lo + 1 := IntWalk.i64_in _ (by omega)
          have wa3 : IntKind.i64.wrap (x + lo) = x + lo := IntWalk.i64_in _ (by omega)
          have wa4 : IntKind.i64.wrap (x + lo + md) = x + lo + md := IntWalk.i64_in _ (by omega)
          have HNx := Lib.hid (show Between (mixV sl ch k (q + 1)) (L.set q (x + lo + md)) from by
            have h9 := HSq.out (lo + md) (by omega) (by omega)
            rw [show x + (lo + md) = x + lo + md by omega] at h9
            exact h9)
          clear hpt hLq hpv hv1 hm1 hmd1 hmd2 HSq hat hx hll
          go_wp2
          refine region_alloc (zc := (.cells #[.int .i64 0, .int .i64 0] 57)) 15 follows_mixed (by kernel_rfl) rfl (fun _ _ => by kernel_rfl) ?_
          simp only [List.take_succ_cons, List.take_zero, List.drop_succ_cons, List.drop_zero]
          repeat (first
            | ((with_reducible apply grow_plain); (focus rfl); (focus (intro w' hw; obtain ⟨hcq, hfq⟩ := bcell hw; go_simp; (first | done | rfl))); (simp only [Act.put, List.setIfInBounds_toArray, List.set_cons_succ, List.set_cons_zero]))
            | ((with_reducible apply grow_skip); (focus (first | (simp [Region.wanted, yielded]; done) | (simp [Region.wanted, yielded, undef]; done))); simp only [Act.put, List.setIfInBounds_toArray, List.set_cons_succ, List.set_cons_zero])
            | ((with_reducible apply grow_go); (focus (first | (simp [Region.wanted, yielded]; done) | (simp [Region.wanted, yielded, undef]; done))); (focus (intro w' hw; obtain ⟨hcq, hfq⟩ := bcell hw; go_simp; (first | done | rfl))); (simp only [Act.put, List.setIfInBounds_toArray, List.set_cons_succ, List.set_cons_zero])))
          refine grow_nil ?_
          intro v1 w1 hv1 hb1
          simp only [List.setIfInBounds_toArray, List.set_cons_succ, List.set_cons_zero]
          have hsz2 := hv1.size
          have T8 := Lib.hid ((Blk.new v1 57 #[.int .i64 0, .int .i64 0]).past hb1)
          have RB := Lib.hid (show Below wr.heap.size wr w1 from pt (pa hv1) hb1)
          clear hv1 hb1 e0 e1 e2 e3 e4 x0 y0 s0 s1 xl yl sl_ gl hb0w hb1w hb2w
          generalize v1.heap.size = tb at *
          go_wp2_with ((with_reducible refine store_blk (T := 57) (x := .tmp 14) (y := .tmp 101) (vs := #[.int .i64 lo, .int .i64 hi]) T8.out ?_ ?_ ?_ ?_ ?_ ?_); (focus rfl); (focus exact range_size); (focus (simp [Value.oneCell']; done)); (focus (first | rfl | (go_simp; done))); (focus (first | rfl | (go_simp; done))); intro wa RT PT)
          have UB := Lib.hid (show Below wr.heap.size wr wa from pp RB.out PT (by omega))
          have UT := Lib.hid RT
          clear T8 RB RT PT
          have UQ := Lib.hid (pt HQ.out UB.out)
          have UG := Lib.hid (HG.out.past UB.out)
          have e4 := (UG.out.cell q).trans (sixC_at (L := L) (q := q) (by have := HBt.out.1; omega))
          have hxx : L.getD q 0 = x := hxq.out
          rw [hxx] at e4
          clear hxx
          have x0 := (R16.out.past UQ.out).cellAt 0 rfl
          have s1 := ((S16.out.past UQ.out).cell (1 + k * 6 + q)).trans (HAt.out k q (by omega) hlt6)
          rw [haq.out] at s1
          have xl := (R16.out.past UQ.out).lt
          have sl_ := (S16.out.past UQ.out).lt
          have gl := UG.out.lt
          have v0 := UT.out.cellAt 0 rfl
          have v1 := UT.out.cellAt 1 rfl
          have vl := UT.out.lt
          clear HG HQ HBt
          refine region_below 22 follows_mixed (by kernel_rfl) ?_
          intro C hC
          simp only [List.take_succ_cons, List.take_zero, List.drop_succ_cons, List.drop_zero]
          repeat (first
            | ((with_reducible refine quiet_plain rfl (fun K hK => ?_)); (focus (apply quiet_val; (focus (intro w' hw; obtain ⟨hcq, hfq⟩ := bcell ((hC.out _).1 hw); go_simp; (first | done | rfl | (with_reducible exact call_same hw (HMo.out _))))); (simp only [Act.put, List.setIfInBounds_toArray, List.set_cons_succ, List.set_cons_zero]); (with_reducible refine hK _ ?_); clear hK K)))
            | ((with_reducible refine quiet_skip ?_ ?_); (focus (first | (simp [Region.wanted, yielded]; done) | (simp [Region.wanted, yielded, undef]; done))); simp only [Act.put, List.setIfInBounds_toArray, List.set_cons_succ, List.set_cons_zero])
            | ((with_reducible refine quiet_go ?_ (fun K hK => ?_)); (focus (first | (simp [Region.wanted, yielded]; done) | (simp [Region.wanted, yielded, undef]; done))); (focus (apply quiet_val; (focus (intro w' hw; obtain ⟨hcq, hfq⟩ := bcell ((hC.out _).1 hw); go_simp; (first | done | rfl | (with_reducible exact call_same hw (HMo.out _))))); (simp only [Act.put, List.setIfInBounds_toArray, List.set_cons_succ, List.set_cons_zero]); (with_reducible refine hK _ ?_); clear hK K))))
          refine wpQuiet_nil ?_
          intro w1 hb1
          replace hb1 := (hC.out _).1 hb1
          clear hC C
          obtain ⟨hc1, hf1⟩ := bcell hb1
          have PQ := Lib.hid (pt UQ.out hb1)
          have PG := Lib.hid (UG.out.past hb1)
          clear x0 s1 xl sl_ gl v0 v1 vl e4 hb1 hc1 hf1 UQ UG UT UB
          have e4 := (PG.out.cell q).trans (sixC_at (L := L) (q := q) (by rw [hlL.out]; exact hlt6))
          have gl := PG.out.lt
          have gf := PG.out.frozen q
          go_wp2
          go_roundw
          case rel => exact ⟨q + 1, _, by go_num, by omega, HNx.out, by have h9 := PG.out.set_ q (.int .i64 (x + lo + md)); rw [sixC_set] at h9; exact h9, PQ.out.setCell (p := ⟨w16.heap.size, q, none⟩) (Nat.le_refl _) _⟩
          case measure => simp [intOf]; omega
        · have hq66 : q = 6 := by omega
          subst hq66
          go_wp2
          go_roundw
          case rel => exact ⟨k + 1, L, by go_num, by omega, HBt.out.stop, HG.out, HQ.out⟩
          case measure => simp [intOf]; omega
    · have hkn : k = n := by omega
      subst hkn
      have s0 := ((S16.out.past HQ.out).cell 0).trans HS0.out
      have sl_ := (S16.out.past HQ.out).lt
      have HX := Lib.hid (HAll.out L HBt.out)
      go_wp2
      clear s0 sl_
      obtain ⟨wo, hwo⟩ : ∃ wo : World, wo = wr := ⟨_, rfl⟩
      subst hwo
      have HI0 := Lib.hid (show Blk wo w16.heap.size 46 (sixC L) ∧ Below w16.heap.size w16 wo from ⟨HG.out, HQ.out⟩)
      have hlL := Lib.hid HBt.out.1
      have HVk := Lib.hid (fun q => HVb.out k (Nat.le_refl _) q)
      clear HG HQ HVb HAll
      go_loopw [15, 16] (fun av jv wr => ∃ (j : Nat) (b : Bool), jv = .int .i64 (j : Int) ∧ j ≤ rn ∧ av = .bool b ∧ AllSt (fun j => marginV (rs.getD j default) (valsF sl ch k)) j b ∧ Blk wr w16.heap.size 46 (sixC L) ∧ Below w16.heap.size w16 wr) (fun _ jv _ => rn - (intOf jv).toNat)
      case atStart => exact ⟨0, true, rfl, Nat.zero_le _, rfl, AllSt.zero _, HI0.out⟩
      case round =>
        clear HI0
        obtain ⟨j, b, rfl, hj, rfl, hst, hg, hq⟩ := hrel
        have HSt := Lib.hid hst
        have HG := Lib.hid hg
        have HQ := Lib.hid hq
        clear hst hg hq
        have x0 := (R16.out.past HQ.out).cellAt 0 rfl
        have xl := (R16.out.past HQ.out).lt
        by_cases hlt : j < rn
        · have hj' : j < rs.length := by rw [HRn.out]; exact hlt
          have hro := HOk.out.r _ (getD_mem' hj')
          obtain ⟨br, off, rfl, hbr, hct⟩ := HRR.out.at_ hj'
          obtain ⟨A2, c2, v0, v1, v2, v3, hts, hcap⟩ := hct j hj'
          have hbc := (bcell (pt HB16.out HQ.out)).1
          have hbr2 : br < w.heap.size := Nat.lt_of_lt_of_le hbr hB
          have u0 := (hbc br _ hbr2).trans v0
          have u1 := (hbc br _ hbr2).trans v1
          have u2 := (hbc br _ hbr2).trans v2
          have u3 := (hbc br _ hbr2).trans v3
          clear v0 v1 v2 v3 hbc
          have HMj := Lib.hid (HMat.out j hlt)
          have hin := margin_in HX.out (rs.getD j default)
          have HSp := Lib.hid (fun n (h1 : (marginV (rs.getD j default) (valsF sl ch k)).1 ≤ n) (h2 : n ≤ (marginV (rs.getD j default) (valsF sl ch k)).2) => AllSt.step (n := n) HSt.out h1 h2)
          have hbrw : br < wr.heap.size := by have := HQ.out.size; have := HB16.out.size; omega
          have hsumb := fun t ht => sumT_bd (ts := (rs.getD j default).ts) (v := valsF sl ch k) (fun q => by
            have h9 := HVk.out q
            exact ⟨⟨h9.1, by omega⟩, by omega, by omega⟩) hro.1 t ht
          have hsin := fun t => sum_in HX.out ((rs.getD j default).ts.take t)
          have hlb := hro.2
          have htl := hro.1.1
          have HTo := Lib.hid hro.1.2
          have j0 : (0 : Int) ≤ (j : Int) := by omega
          have j1 : (j : Int) < (rn : Int) := by omega
          have HXb := Lib.hid (fun q : Int => (show 0 ≤ L.getD q.toNat 0 ∧ L.getD q.toNat 0 ≤ 5000000 from by
            have h8 := HX.out q
            have h9 := HVk.out q
            omega))
          clear hct hcap
          generalize marginV (rs.getD j default) (valsF sl ch k) = MV at *
          generalize rs.getD j default = r at *
          obtain ⟨ts, ge, lim, unit⟩ := r
          dsimp only at *
          unfold diffX at hin
          dsimp only at hin
          have HTs := Lib.hid hts
          have HSb := Lib.hid (fun t ht => (show -80000000000 ≤ sumX (fun x : Int => L.getD x.toNat 0) (ts.take t) ∧ sumX (fun x : Int => L.getD x.toNat 0) (ts.take t) ≤ 80000000000 from by
            have h8 := hsumb t ht
            have h9 := hsin t
            have h7 : (t : Int) ≤ 8 := by omega
            omega))
          have HFull := Lib.hid (HSb.out ts.length (Nat.le_refl _))
          rw [List.take_length] at HFull
          have HIn := Lib.hid hin
          clear hts hsumb hsin hin hro
          have HG2 := Lib.hid (HG.out.alloc (o := .cells #[.slice A2 ts.length c2, .bool ge, .int .i64 lim, .int .i64 unit] 45))
          have HT17 := Lib.hid (show Blk (wr.alloc (.cells #[.slice A2 ts.length c2, .bool ge, .int .i64 lim, .int .i64 unit] 45)) wr.heap.size 45 #[.slice A2 ts.length c2, .bool ge, .int .i64 lim, .int .i64 unit] from Blk.newAt rfl)
          have HQ2 := Lib.hid (pa (o := .cells #[.slice A2 ts.length c2, .bool ge, .int .i64 lim, .int .i64 unit] 45) HQ.out)
          go_wp2
          clear x0 xl u0 u1 u2 u3
          generalize wr.alloc (.cells #[.slice A2 ts.length c2, .bool ge, .int .i64 lim, .int .i64 unit] 45) = wq at *
          generalize wr.heap.size = tq at *
          clear HG HQ
          go_loopw [18, 19] (fun sv tv wr => ∃ t : Nat, tv = .int .i64 (t : Int) ∧ t ≤ ts.length ∧ sv = .int .i64 (sumX (fun x : Int => L.getD x.toNat 0) (ts.take t)) ∧ Below wq.heap.size wq wr) (fun _ tv _ => ts.length - (intOf tv).toNat)
          case atStart => exact ⟨0, rfl, Nat.zero_le _, rfl, pr⟩
          case round =>
            obtain ⟨t, rfl, ht, rfl, hq⟩ := hrel
            have HQw := Lib.hid hq
            have t0 := (HT17.out.past hq).cellAt 0 rfl
            have t1 := (HT17.out.past hq).cellAt 1 rfl
            have t2 := (HT17.out.past hq).cellAt 2 rfl
            have tl := (HT17.out.past hq).lt
            have HG3 := Lib.hid (HG2.out.past hq)
            clear hq
            by_cases hlt2 : t < ts.length
            · obtain ⟨b9, o9, rfl, hb9, hc9⟩ := terms_at (HTs.out.below ((pt HB16.out (pt HQ2.out HQw.out)).mono hB)) hlt2
              obtain ⟨u0, u1⟩ := hc9 t hlt2
              have htm := HTo.out _ (getD_mem' hlt2)
              have hsn := sumX_snoc (fun x : Int => L.getD x.toNat 0) (ts.take t) (ts.getD t default)
              rw [← take_snoc hlt2] at hsn
              have hs1 := HSb.out t (by omega)
              have hs2 := HSb.out (t + 1) (by omega)
              rw [hsn] at hs2
              have hxb := HXb.out (ts.getD t default).q
              have hb9w : b9 < wr.heap.size := by have := HQw.out.size; have := HQ2.out.size; have := HB16.out.size; omega
              have HSn := Lib.hid hsn
              have i0 : (0 : Int) ≤ (t : Int) := by omega
              have i1 : (t : Int) < (ts.length : Int) := by omega
              clear hc9 hsn
              generalize ts.getD t default = tm at *
              obtain ⟨f, qq⟩ := tm
              dsimp only at *
              obtain ⟨qn, rfl⟩ : ∃ qn : Nat, qq = (qn : Int) := ⟨qq.toNat, by omega⟩
              rw [Int.toNat_natCast] at *
              have e4 := (HG3.out.cell qn).trans (sixC_at (L := L) (q := qn) (by rw [hlL.out]; omega))
              have gl := HG3.out.lt
              have q60 : (0 : Int) ≤ (qn : Int) := by omega
              have q61 : (qn : Int) < 6 := by omega
              have pm := mulf_bd (a := f) (b := L.getD qn 0) htm.1 (by omega)
              generalize L.getD qn 0 = x at *
              generalize sumX (fun x : Int => L.getD x.toNat 0) (ts.take t) = s at *
              have hw1 : wrap64 (f * x) = f * x := w64 (by omega)
              have hw2 : wrap64 (s + f * x) = s + f * x := w64 (by omega)
              have hw3 : IntKind.i64.wrap (f * x) = f * x := IntWalk.i64_in _ (by omega)
              have hw4 : IntKind.i64.wrap (s + f * x) = s + f * x := IntWalk.i64_in _ (by omega)
              clear hs1 hs2 hxb pm htm
              go_wp2
              refine region_below 17 follows_mixed (by kernel_rfl) ?_
              intro C hC
              simp only [List.take_succ_cons, List.take_zero, List.drop_succ_cons, List.drop_zero]
              repeat (first
                | ((with_reducible refine quiet_plain rfl (fun K hK => ?_)); (focus (apply quiet_val; (focus (intro w' hw; obtain ⟨hcq, hfq⟩ := bcell ((hC.out _).1 hw); go_simp; (first | done | rfl))); (simp only [Act.put, List.setIfInBounds_toArray, List.set_cons_succ, List.set_cons_zero]); (with_reducible refine hK _ ?_); clear hK K)))
                | ((with_reducible refine quiet_skip ?_ ?_); (focus (first | (simp [Region.wanted, yielded]; done) | (simp [Region.wanted, yielded, undef]; done))); simp only [Act.put, List.setIfInBounds_toArray, List.set_cons_succ, List.set_cons_zero])
                | ((with_reducible refine quiet_go ?_ (fun K hK => ?_)); (focus (first | (simp [Region.wanted, yielded]; done) | (simp [Region.wanted, yielded, undef]; done))); (focus (apply quiet_val; (focus (intro w' hw; obtain ⟨hcq, hfq⟩ := bcell ((hC.out _).1 hw); go_simp; (first | done | rfl))); (simp only [Act.put, List.setIfInBounds_toArray, List.set_cons_succ, List.set_cons_zero]); (with_reducible refine hK _ ?_); clear hK K))))
              refine wpQuiet_nil ?_
              intro w1 hb1
              replace hb1 := (hC.out _).1 hb1
              clear hC C
              obtain ⟨hc1, hf1⟩ := bcell hb1
              have HAc := Lib.hid (pt HQw.out hb1)
              clear hb1 hc1 hf1
              go_wp2
              go_roundw
              case rel => exact ⟨t + 1, by go_num, by omega, by first | rw [HSn.out] | rw [HSn.out, hw3, hw4], HAc.out⟩
              case measure => simp [intOf]; omega
            · have htn : t = ts.length := by omega
              subst htn
              rw [List.take_length]
              have hsb := HFull.out
              have hIn := HIn.out
              have HQx := Lib.hid (pt HQ2.out HQw.out)
              have r0 := (R16.out.past HQx.out).cellAt 0 rfl
              have rl := (R16.out.past HQx.out).lt
              obtain ⟨bm, om, hAm, hbm, hcm⟩ := rng_at (HC16.out.below HQx.out) (k := j) (by rw [HMl.out]; exact hlt)
              obtain ⟨v0, v1⟩ := hcm j (by rw [HMl.out]; exact hlt)
              rw [HMj.out] at v0 v1
              have hbmw : bm < wr.heap.size := by have := HQx.out.size; omega
              subst hAm
              clear hcm
              generalize sumX (fun x : Int => L.getD x.toNat 0) ts = s at *
              obtain ⟨mlo, mhi⟩ := MV
              dsimp only at *
              cases ge
              · replace hIn : mlo ≤ lim - s ∧ lim - s ≤ mhi := hIn
                cases b
                · by_cases hp : 0 ≤ lim - s
                  · have hw1 : IntKind.i64.wrap (lim - s) = lim - s := IntWalk.i64_in _ (by omega)
                    have hw3 : IntKind.i64.wrap (lim - s) = lim - s := IntWalk.i64_in _ (by omega)
                    have HWi := Lib.hid (fun W => refWithin_any (lim - s) mlo mhi W)
                    rw [show withinB (lim - s) mlo mhi = true by simp only [withinB, Bool.and_eq_true, decide_eq_true_eq]; exact hIn] at HWi
                    have HNs := Lib.hid (HSp.out (lim - s) hIn.1 hIn.2)
                    rw [decide_eq_true hp] at HNs
                    have hp2 : ¬ (lim - s) < 0 := by omega
                    have hp3 : s ≤ lim := by omega
                    clear hIn
                    go_wp2
                    refine region_below 12 follows_mixed (by kernel_rfl) ?_
                    intro C hC
                    simp only [List.take_succ_cons, List.take_zero, List.drop_succ_cons, List.drop_zero]
                    repeat (first
                      | ((with_reducible refine quiet_plain rfl (fun K hK => ?_)); (focus (apply quiet_val; (focus (intro w' hw; obtain ⟨hcq, hfq⟩ := bcell ((hC.out _).1 hw); go_simp; (first | done | rfl | (with_reducible exact call_same hw (HWi.out _))))); (simp only [Act.put, List.setIfInBounds_toArray, List.set_cons_succ, List.set_cons_zero]); (with_reducible refine hK _ ?_); clear hK K)))
                      | ((with_reducible refine quiet_skip ?_ ?_); (focus (first | (simp [Region.wanted, yielded]; done) | (simp [Region.wanted, yielded, undef]; done))); simp only [Act.put, List.setIfInBounds_toArray, List.set_cons_succ, List.set_cons_zero])
                      | ((with_reducible refine quiet_go ?_ (fun K hK => ?_)); (focus (first | (simp [Region.wanted, yielded]; done) | (simp [Region.wanted, yielded, undef]; done))); (focus (apply quiet_val; (focus (intro w' hw; obtain ⟨hcq, hfq⟩ := bcell ((hC.out _).1 hw); go_simp; (first | done | rfl | (with_reducible exact call_same hw (HWi.out _))))); (simp only [Act.put, List.setIfInBounds_toArray, List.set_cons_succ, List.set_cons_zero]); (with_reducible refine hK _ ?_); clear hK K))))
                    refine wpQuiet_nil ?_
                    intro w1 hb1
                    replace hb1 := (hC.out _).1 hb1
                    clear hC C
                    obtain ⟨hc1, hf1⟩ := bcell hb1
                    have HAc := Lib.hid (pt HQx.out hb1)
                    have HGz := Lib.hid (HG3.out.past hb1)
                    clear hb1 hc1 hf1
                    go_wp2
                    go_roundw
                    case rel => exact ⟨j + 1, false, by go_num, by omega, rfl, HNs.out, HGz.out, HAc.out⟩
                    case measure => simp [intOf]; omega
                  · have hw1 : IntKind.i64.wrap (lim - s) = lim - s := IntWalk.i64_in _ (by omega)
                    have hw3 : IntKind.i64.wrap (lim - s) = lim - s := IntWalk.i64_in _ (by omega)
                    have HWi := Lib.hid (fun W => refWithin_any (lim - s) mlo mhi W)
                    rw [show withinB (lim - s) mlo mhi = true by simp only [withinB, Bool.and_eq_true, decide_eq_true_eq]; exact hIn] at HWi
                    have HNs := Lib.hid (HSp.out (lim - s) hIn.1 hIn.2)
                    rw [decide_eq_false hp] at HNs
                    have hp2 : (lim - s) < 0 := by omega
                    have hp3 : ¬ s ≤ lim := by omega
                    clear hIn
                    go_wp2
                    refine region_below 12 follows_mixed (by kernel_rfl) ?_
                    intro C hC
                    simp only [List.take_succ_cons, List.take_zero, List.drop_succ_cons, List.drop_zero]
                    repeat (first
                      | ((with_reducible refine quiet_plain rfl (fun K hK => ?_)); (focus (apply quiet_val; (focus (intro w' hw; obtain ⟨hcq, hfq⟩ := bcell ((hC.out _).1 hw); go_simp; (first | done | rfl | (with_reducible exact call_same hw (HWi.out _))))); (simp only [Act.put, List.setIfInBounds_toArray, List.set_cons_succ, List.set_cons_zero]); (with_reducible refine hK _ ?_); clear hK K)))
                      | ((with_reducible refine quiet_skip ?_ ?_); (focus (first | (simp [Region.wanted, yielded]; done) | (simp [Region.wanted, yielded, undef]; done))); simp only [Act.put, List.setIfInBounds_toArray, List.set_cons_succ, List.set_cons_zero])
                      | ((with_reducible refine quiet_go ?_ (fun K hK => ?_)); (focus (first | (simp [Region.wanted, yielded]; done) | (simp [Region.wanted, yielded, undef]; done))); (focus (apply quiet_val; (focus (intro w' hw; obtain ⟨hcq, hfq⟩ := bcell ((hC.out _).1 hw); go_simp; (first | done | rfl | (with_reducible exact call_same hw (HWi.out _))))); (simp only [Act.put, List.setIfInBounds_toArray, List.set_cons_succ, List.set_cons_zero]); (with_reducible refine hK _ ?_); clear hK K))))
                    refine wpQuiet_nil ?_
                    intro w1 hb1
                    replace hb1 := (hC.out _).1 hb1
                    clear hC C
                    obtain ⟨hc1, hf1⟩ := bcell hb1
                    have HAc := Lib.hid (pt HQx.out hb1)
                    have HGz := Lib.hid (HG3.out.past hb1)
                    clear hb1 hc1 hf1
                    go_wp2
                    go_roundw
                    case rel => exact ⟨j + 1, false, by go_num, by omega, rfl, HNs.out, HGz.out, HAc.out⟩
                    case measure => simp [intOf]; omega
                · by_cases hp : 0 ≤ lim - s
                  · have hw1 : IntKind.i64.wrap (lim - s) = lim - s := IntWalk.i64_in _ (by omega)
                    have hw3 : IntKind.i64.wrap (lim - s) = lim - s := IntWalk.i64_in _ (by omega)
                    have HWi := Lib.hid (fun W => refWithin_any (lim - s) mlo mhi W)
                    rw [show withinB (lim - s) mlo mhi = true by simp only [withinB, Bool.and_eq_true, decide_eq_true_eq]; exact hIn] at HWi
                    have HNs := Lib.hid (HSp.out (lim - s) hIn.1 hIn.2)
                    rw [decide_eq_true hp] at HNs
                    have hp2 : ¬ (lim - s) < 0 := by omega
                    have hp3 : s ≤ lim := by omega
                    clear hIn
                    go_wp2
                    refine region_below 12 follows_mixed (by kernel_rfl) ?_
                    intro C hC
                    simp only [List.take_succ_cons, List.take_zero, List.drop_succ_cons, List.drop_zero]
                    repeat (first
                      | ((with_reducible refine quiet_plain rfl (fun K hK => ?_)); (focus (apply quiet_val; (focus (intro w' hw; obtain ⟨hcq, hfq⟩ := bcell ((hC.out _).1 hw); go_simp; (first | done | rfl | (with_reducible exact call_same hw (HWi.out _))))); (simp only [Act.put, List.setIfInBounds_toArray, List.set_cons_succ, List.set_cons_zero]); (with_reducible refine hK _ ?_); clear hK K)))
                      | ((with_reducible refine quiet_skip ?_ ?_); (focus (first | (simp [Region.wanted, yielded]; done) | (simp [Region.wanted, yielded, undef]; done))); simp only [Act.put, List.setIfInBounds_toArray, List.set_cons_succ, List.set_cons_zero])
                      | ((with_reducible refine quiet_go ?_ (fun K hK => ?_)); (focus (first | (simp [Region.wanted, yielded]; done) | (simp [Region.wanted, yielded, undef]; done))); (focus (apply quiet_val; (focus (intro w' hw; obtain ⟨hcq, hfq⟩ := bcell ((hC.out _).1 hw); go_simp; (first | done | rfl | (with_reducible exact call_same hw (HWi.out _))))); (simp only [Act.put, List.setIfInBounds_toArray, List.set_cons_succ, List.set_cons_zero]); (with_reducible refine hK _ ?_); clear hK K))))
                    refine wpQuiet_nil ?_
                    intro w1 hb1
                    replace hb1 := (hC.out _).1 hb1
                    clear hC C
                    obtain ⟨hc1, hf1⟩ := bcell hb1
                    have HAc := Lib.hid (pt HQx.out hb1)
                    have HGz := Lib.hid (HG3.out.past hb1)
                    clear hb1 hc1 hf1
                    go_wp2
                    go_roundw
                    case rel => exact ⟨j + 1, true, by go_num, by omega, rfl, HNs.out, HGz.out, HAc.out⟩
                    case measure => simp [intOf]; omega
                  · have hw1 : IntKind.i64.wrap (lim - s) = lim - s := IntWalk.i64_in _ (by omega)
                    have hw3 : IntKind.i64.wrap (lim - s) = lim - s := IntWalk.i64_in _ (by omega)
                    have HWi := Lib.hid (fun W => refWithin_any (lim - s) mlo mhi W)
                    rw [show withinB (lim - s) mlo mhi = true by simp only [withinB, Bool.and_eq_true, decide_eq_true_eq]; exact hIn] at HWi
                    have HNs := Lib.hid (HSp.out (lim - s) hIn.1 hIn.2)
                    rw [decide_eq_false hp] at HNs
                    have hp2 : (lim - s) < 0 := by omega
                    have hp3 : ¬ s ≤ lim := by omega
                    clear hIn
                    go_wp2
                    refine region_below 12 follows_mixed (by kernel_rfl) ?_
                    intro C hC
                    simp only [List.take_succ_cons, List.take_zero, List.drop_succ_cons, List.drop_zero]
                    repeat (first
                      | ((with_reducible refine quiet_plain rfl (fun K hK => ?_)); (focus (apply quiet_val; (focus (intro w' hw; obtain ⟨hcq, hfq⟩ := bcell ((hC.out _).1 hw); go_simp; (first | done | rfl | (with_reducible exact call_same hw (HWi.out _))))); (simp only [Act.put, List.setIfInBounds_toArray, List.set_cons_succ, List.set_cons_zero]); (with_reducible refine hK _ ?_); clear hK K)))
                      | ((with_reducible refine quiet_skip ?_ ?_); (focus (first | (simp [Region.wanted, yielded]; done) | (simp [Region.wanted, yielded, undef]; done))); simp only [Act.put, List.setIfInBounds_toArray, List.set_cons_succ, List.set_cons_zero])
                      | ((with_reducible refine quiet_go ?_ (fun K hK => ?_)); (focus (first | (simp [Region.wanted, yielded]; done) | (simp [Region.wanted, yielded, undef]; done))); (focus (apply quiet_val; (focus (intro w' hw; obtain ⟨hcq, hfq⟩ := bcell ((hC.out _).1 hw); go_simp; (first | done | rfl | (with_reducible exact call_same hw (HWi.out _))))); (simp only [Act.put, List.setIfInBounds_toArray, List.set_cons_succ, List.set_cons_zero]); (with_reducible refine hK _ ?_); clear hK K))))
                    refine wpQuiet_nil ?_
                    intro w1 hb1
                    replace hb1 := (hC.out _).1 hb1
                    clear hC C
                    obtain ⟨hc1, hf1⟩ := bcell hb1
                    have HAc := Lib.hid (pt HQx.out hb1)
                    have HGz := Lib.hid (HG3.out.past hb1)
                    clear hb1 hc1 hf1
                    go_wp2
                    go_roundw
                    case rel => exact ⟨j + 1, false, by go_num, by omega, rfl, HNs.out, HGz.out, HAc.out⟩
                    case measure => simp [intOf]; omega
              · replace hIn : mlo ≤ s - lim ∧ s - lim ≤ mhi := hIn
                cases b
                · by_cases hp : 0 ≤ s - lim
                  · have hw1 : IntKind.i64.wrap (s - lim) = s - lim := IntWalk.i64_in _ (by omega)
                    have hw3 : IntKind.i64.wrap (lim - s) = lim - s := IntWalk.i64_in _ (by omega)
                    have HWi := Lib.hid (fun W => refWithin_any (s - lim) mlo mhi W)
                    rw [show withinB (s - lim) mlo mhi = true by simp only [withinB, Bool.and_eq_true, decide_eq_true_eq]; exact hIn] at HWi
                    have HNs := Lib.hid (HSp.out (s - lim) hIn.1 hIn.2)
                    rw [decide_eq_true hp] at HNs
                    have hp2 : ¬ (s - lim) < 0 := by omega
                    have hp3 : lim ≤ s := by omega
                    clear hIn
                    go_wp2
                    refine region_below 12 follows_mixed (by kernel_rfl) ?_
                    intro C hC
                    simp only [List.take_succ_cons, List.take_zero, List.drop_succ_cons, List.drop_zero]
                    repeat (first
                      | ((with_reducible refine quiet_plain rfl (fun K hK => ?_)); (focus (apply quiet_val; (focus (intro w' hw; obtain ⟨hcq, hfq⟩ := bcell ((hC.out _).1 hw); go_simp; (first | done | rfl | (with_reducible exact call_same hw (HWi.out _))))); (simp only [Act.put, List.setIfInBounds_toArray, List.set_cons_succ, List.set_cons_zero]); (with_reducible refine hK _ ?_); clear hK K)))
                      | ((with_reducible refine quiet_skip ?_ ?_); (focus (first | (simp [Region.wanted, yielded]; done) | (simp [Region.wanted, yielded, undef]; done))); simp only [Act.put, List.setIfInBounds_toArray, List.set_cons_succ, List.set_cons_zero])
                      | ((with_reducible refine quiet_go ?_ (fun K hK => ?_)); (focus (first | (simp [Region.wanted, yielded]; done) | (simp [Region.wanted, yielded, undef]; done))); (focus (apply quiet_val; (focus (intro w' hw; obtain ⟨hcq, hfq⟩ := bcell ((hC.out _).1 hw); go_simp; (first | done | rfl | (with_reducible exact call_same hw (HWi.out _))))); (simp only [Act.put, List.setIfInBounds_toArray, List.set_cons_succ, List.set_cons_zero]); (with_reducible refine hK _ ?_); clear hK K))))
                    refine wpQuiet_nil ?_
                    intro w1 hb1
                    replace hb1 := (hC.out _).1 hb1
                    clear hC C
                    obtain ⟨hc1, hf1⟩ := bcell hb1
                    have HAc := Lib.hid (pt HQx.out hb1)
                    have HGz := Lib.hid (HG3.out.past hb1)
                    clear hb1 hc1 hf1
                    go_wp2
                    go_roundw
                    case rel => exact ⟨j + 1, false, by go_num, by omega, rfl, HNs.out, HGz.out, HAc.out⟩
                    case measure => simp [intOf]; omega
                  · have hw1 : IntKind.i64.wrap (s - lim) = s - lim := IntWalk.i64_in _ (by omega)
                    have hw3 : IntKind.i64.wrap (lim - s) = lim - s := IntWalk.i64_in _ (by omega)
                    have HWi := Lib.hid (fun W => refWithin_any (s - lim) mlo mhi W)
                    rw [show withinB (s - lim) mlo mhi = true by simp only [withinB, Bool.and_eq_true, decide_eq_true_eq]; exact hIn] at HWi
                    have HNs := Lib.hid (HSp.out (s - lim) hIn.1 hIn.2)
                    rw [decide_eq_false hp] at HNs
                    have hp2 : (s - lim) < 0 := by omega
                    have hp3 : ¬ lim ≤ s := by omega
                    clear hIn
                    go_wp2
                    refine region_below 12 follows_mixed (by kernel_rfl) ?_
                    intro C hC
                    simp only [List.take_succ_cons, List.take_zero, List.drop_succ_cons, List.drop_zero]
                    repeat (first
                      | ((with_reducible refine quiet_plain rfl (fun K hK => ?_)); (focus (apply quiet_val; (focus (intro w' hw; obtain ⟨hcq, hfq⟩ := bcell ((hC.out _).1 hw); go_simp; (first | done | rfl | (with_reducible exact call_same hw (HWi.out _))))); (simp only [Act.put, List.setIfInBounds_toArray, List.set_cons_succ, List.set_cons_zero]); (with_reducible refine hK _ ?_); clear hK K)))
                      | ((with_reducible refine quiet_skip ?_ ?_); (focus (first | (simp [Region.wanted, yielded]; done) | (simp [Region.wanted, yielded, undef]; done))); simp only [Act.put, List.setIfInBounds_toArray, List.set_cons_succ, List.set_cons_zero])
                      | ((with_reducible refine quiet_go ?_ (fun K hK => ?_)); (focus (first | (simp [Region.wanted, yielded]; done) | (simp [Region.wanted, yielded, undef]; done))); (focus (apply quiet_val; (focus (intro w' hw; obtain ⟨hcq, hfq⟩ := bcell ((hC.out _).1 hw); go_simp; (first | done | rfl | (with_reducible exact call_same hw (HWi.out _))))); (simp only [Act.put, List.setIfInBounds_toArray, List.set_cons_succ, List.set_cons_zero]); (with_reducible refine hK _ ?_); clear hK K))))
                    refine wpQuiet_nil ?_
                    intro w1 hb1
                    replace hb1 := (hC.out _).1 hb1
                    clear hC C
                    obtain ⟨hc1, hf1⟩ := bcell hb1
                    have HAc := Lib.hid (pt HQx.out hb1)
                    have HGz := Lib.hid (HG3.out.past hb1)
                    clear hb1 hc1 hf1
                    go_wp2
                    go_roundw
                    case rel => exact ⟨j + 1, false, by go_num, by omega, rfl, HNs.out, HGz.out, HAc.out⟩
                    case measure => simp [intOf]; omega
                · by_cases hp : 0 ≤ s - lim
                  · have hw1 : IntKind.i64.wrap (s - lim) = s - lim := IntWalk.i64_in _ (by omega)
                    have hw3 : IntKind.i64.wrap (lim - s) = lim - s := IntWalk.i64_in _ (by omega)
                    have HWi := Lib.hid (fun W => refWithin_any (s - lim) mlo mhi W)
                    rw [show withinB (s - lim) mlo mhi = true by simp only [withinB, Bool.and_eq_true, decide_eq_true_eq]; exact hIn] at HWi
                    have HNs := Lib.hid (HSp.out (s - lim) hIn.1 hIn.2)
                    rw [decide_eq_true hp] at HNs
                    have hp2 : ¬ (s - lim) < 0 := by omega
                    have hp3 : lim ≤ s := by omega
                    clear hIn
                    go_wp2
                    refine region_below 12 follows_mixed (by kernel_rfl) ?_
                    intro C hC
                    simp only [List.take_succ_cons, List.take_zero, List.drop_succ_cons, List.drop_zero]
                    repeat (first
                      | ((with_reducible refine quiet_plain rfl (fun K hK => ?_)); (focus (apply quiet_val; (focus (intro w' hw; obtain ⟨hcq, hfq⟩ := bcell ((hC.out _).1 hw); go_simp; (first | done | rfl | (with_reducible exact call_same hw (HWi.out _))))); (simp only [Act.put, List.setIfInBounds_toArray, List.set_cons_succ, List.set_cons_zero]); (with_reducible refine hK _ ?_); clear hK K)))
                      | ((with_reducible refine quiet_skip ?_ ?_); (focus (first | (simp [Region.wanted, yielded]; done) | (simp [Region.wanted, yielded, undef]; done))); simp only [Act.put, List.setIfInBounds_toArray, List.set_cons_succ, List.set_cons_zero])
                      | ((with_reducible refine quiet_go ?_ (fun K hK => ?_)); (focus (first | (simp [Region.wanted, yielded]; done) | (simp [Region.wanted, yielded, undef]; done))); (focus (apply quiet_val; (focus (intro w' hw; obtain ⟨hcq, hfq⟩ := bcell ((hC.out _).1 hw); go_simp; (first | done | rfl | (with_reducible exact call_same hw (HWi.out _))))); (simp only [Act.put, List.setIfInBounds_toArray, List.set_cons_succ, List.set_cons_zero]); (with_reducible refine hK _ ?_); clear hK K))))
                    refine wpQuiet_nil ?_
                    intro w1 hb1
                    replace hb1 := (hC.out _).1 hb1
                    clear hC C
                    obtain ⟨hc1, hf1⟩ := bcell hb1
                    have HAc := Lib.hid (pt HQx.out hb1)
                    have HGz := Lib.hid (HG3.out.past hb1)
                    clear hb1 hc1 hf1
                    go_wp2
                    go_roundw
                    case rel => exact ⟨j + 1, true, by go_num, by omega, rfl, HNs.out, HGz.out, HAc.out⟩
                    case measure => simp [intOf]; omega
                  · have hw1 : IntKind.i64.wrap (s - lim) = s - lim := IntWalk.i64_in _ (by omega)
                    have hw3 : IntKind.i64.wrap (lim - s) = lim - s := IntWalk.i64_in _ (by omega)
                    have HWi := Lib.hid (fun W => refWithin_any (s - lim) mlo mhi W)
                    rw [show withinB (s - lim) mlo mhi = true by simp only [withinB, Bool.and_eq_true, decide_eq_true_eq]; exact hIn] at HWi
                    have HNs := Lib.hid (HSp.out (s - lim) hIn.1 hIn.2)
                    rw [decide_eq_false hp] at HNs
                    have hp2 : (s - lim) < 0 := by omega
                    have hp3 : ¬ lim ≤ s := by omega
                    clear hIn
                    go_wp2
                    refine region_below 12 follows_mixed (by kernel_rfl) ?_
                    intro C hC
                    simp only [List.take_succ_cons, List.take_zero, List.drop_succ_cons, List.drop_zero]
                    repeat (first
                      | ((with_reducible refine quiet_plain rfl (fun K hK => ?_)); (focus (apply quiet_val; (focus (intro w' hw; obtain ⟨hcq, hfq⟩ := bcell ((hC.out _).1 hw); go_simp; (first | done | rfl | (with_reducible exact call_same hw (HWi.out _))))); (simp only [Act.put, List.setIfInBounds_toArray, List.set_cons_succ, List.set_cons_zero]); (with_reducible refine hK _ ?_); clear hK K)))
                      | ((with_reducible refine quiet_skip ?_ ?_); (focus (first | (simp [Region.wanted, yielded]; done) | (simp [Region.wanted, yielded, undef]; done))); simp only [Act.put, List.setIfInBounds_toArray, List.set_cons_succ, List.set_cons_zero])
                      | ((with_reducible refine quiet_go ?_ (fun K hK => ?_)); (focus (first | (simp [Region.wanted, yielded]; done) | (simp [Region.wanted, yielded, undef]; done))); (focus (apply quiet_val; (focus (intro w' hw; obtain ⟨hcq, hfq⟩ := bcell ((hC.out _).1 hw); go_simp; (first | done | rfl | (with_reducible exact call_same hw (HWi.out _))))); (simp only [Act.put, List.setIfInBounds_toArray, List.set_cons_succ, List.set_cons_zero]); (with_reducible refine hK _ ?_); clear hK K))))
                    refine wpQuiet_nil ?_
                    intro w1 hb1
                    replace hb1 := (hC.out _).1 hb1
                    clear hC C
                    obtain ⟨hc1, hf1⟩ := bcell hb1
                    have HAc := Lib.hid (pt HQx.out hb1)
                    have HGz := Lib.hid (HG3.out.past hb1)
                    clear hb1 hc1 hf1
                    go_wp2
                    go_roundw
                    case rel => exact ⟨j + 1, false, by go_num, by omega, rfl, HNs.out, HGz.out, HAc.out⟩
                    case measure => simp [intOf]; omega
        · have hjn : j = rn := by omega
          subst hjn
          rcases HFin.out b HSt.out with ⟨rfl, hv | hv⟩ | ⟨rfl, hv | hv⟩
          all_goals
            have HQf := Lib.hid (pt HB16.out HQ.out)
            subst hv
            clear HSt HFin
            go_wp2_with (go_at_call 17; refine (refWithin_any _ _ _ _).mono ?_; rintro e w' ⟨rfl, rfl⟩)
            go_ret
            exact ⟨rfl, HQf.out⟩

theorem designForAll_any (B : Nat) (rs : List DReq) (RA : Option Addr) (rn rc : Nat) (sl : List (List DPart)) (A : Option Addr) (n c : Nat) (idle price : Int) (ch : List Int) (CA : Option Addr) (m cc : Nat) (cs : Array Value) (at_ : Nat → Nat → Int) (w : World) (hU : UnitIn w) (hQ : TabS 1 qWords w) (hW : TabS 0 uWords w) (hrr : ReqsIn B w RA rs) (hr : SlotsIn B w A sl) (hc : IntsIn B w CA ch) (hm : ch.length = m) (hB : B ≤ w.heap.size) (hrn : rs.length = rn) (hn : sl.length = n) (h6 : Six sl) (hz : cs.size = 31) (hs0 : cs[0]? = some (.slice CA m cc)) (hat : ∀ i q, i < 5 → q < 6 → cs[1 + i * 6 + q]? = some (.int .i64 (at_ i q))) :
    Calls Tryz.prog 4 #[.agg #[.slice RA rn rc], .agg #[.slice A n c, .int .i64 idle, .int .i64 price], .agg cs] w fun e w' => e = .returned (.bool true) ∧ Below w.heap.size w w' := by
  by_cases hf : FewP rs sl
  · by_cases h0 : openE rs idle price sl = 0
    · by_cases h2 : choiceE sl ch = 0
      · exact forall_main B rs RA rn rc sl A n c idle price ch CA m cc cs at_ w hU hQ hW hrr hr hc hm hB hrn hn h6 hz hs0 hat hf h0 h2
      · exact forall_odd B rs RA rn rc sl A n c idle price ch CA m cc cs at_ w hU hQ hW hrr hr hc hm hB hrn hn h6 hz hs0 hat hf h0 h2
    · exact forall_err B rs RA rn rc sl A n c idle price ch CA m cc cs at_ w hU hQ hW hrr hr hc hm hB hrn hn h6 hz hs0 hat hf h0
  · exact forall_far B rs RA rn rc sl A n c idle price ch CA m cc cs at_ w hU hQ hW hrr hr hc hm hB hrn hn h6 hz hs0 hat hf

end Go.Proofs.YtnfbdkdjoekifaaGreatDoor
end
