/- The law DesignBounds: the walk. Printed by a program (gen_e4law.py). -/
import Derived.Test.YtncbigkkmgnkmaaGreatDoorOs1
import Derived.Test.YtncbigkkmgnkmaaGreatDoorOs2
import Derived.Test.YtncbigkkmgnkmaaGreatDoorOp7
import Derived.Test.YtncbigkkmgnkmaaGreatDoorOn6
import Derived.Test.YtncbigkkmgnkmaaGreatDoorOn5

section
namespace Go.Proofs.YtncbigkkmgnkmaaGreatDoor
open Go.RowKit

theorem boundE_bad {rs : List DReq} {idle price : Int} {sl : List (List DPart)} {ps : List Int} (h : openE rs idle price sl ≠ 0) : boundE rs idle price sl ps = openE rs idle price sl := by
  unfold boundE
  simp [firstV, h]
theorem boundE_good {rs : List DReq} {idle price : Int} {sl : List (List DPart)} {ps : List Int} (h : openE rs idle price sl = 0) : boundE rs idle price sl ps = pricesE rs.length ps := by
  unfold boundE
  by_cases h2 : pricesE rs.length ps = 0 <;> simp [firstV, h, h2]
theorem offE_bad {rs : List DReq} {idle price : Int} {sl : List (List DPart)} {ch ps : List Int} (h : openE rs idle price sl ≠ 0) : offE rs idle price sl ch ps = openE rs idle price sl := by
  unfold offE allE
  simp [firstV, h]
theorem offE_good {rs : List DReq} {idle price : Int} {sl : List (List DPart)} {ch ps : List Int} (h : openE rs idle price sl = 0) : offE rs idle price sl ch ps = if choiceE sl ch ≠ 0 then choiceE sl ch else pricesE rs.length ps := by
  unfold offE allE
  rw [if_pos h]
  by_cases h1 : choiceE sl ch = 0 <;> by_cases h2 : pricesE rs.length ps = 0 <;> simp [firstV, h1, h2]
theorem gapE_off {rs : List DReq} {idle price : Int} {sl : List (List DPart)} {ch ps : List Int} (h : offE rs idle price sl ch ps ≠ 0) : gapE rs idle price sl ch ps = offE rs idle price sl ch ps ∧ gapV rs idle price sl ch ps = 0 := by
  have e : gapE rs idle price sl ch ps = offE rs idle price sl ch ps := if_pos h
  refine ⟨e, ?_⟩
  unfold gapV
  rw [if_neg (by rw [e]; exact h)]
theorem gapE_no {rs : List DReq} {idle price : Int} {sl : List (List DPart)} {ch ps : List Int} (h : offE rs idle price sl ch ps = 0) (h2 : meetsV rs sl ch ≠ 2) : gapE rs idle price sl ch ps = 24 ∧ gapV rs idle price sl ch ps = 0 := by
  have e : gapE rs idle price sl ch ps = 24 := by unfold gapE; rw [if_neg (by simpa using h), if_neg h2]
  refine ⟨e, ?_⟩
  unfold gapV
  rw [if_neg (by rw [e]; decide)]
theorem gapE_yes {rs : List DReq} {idle price : Int} {sl : List (List DPart)} {ch ps : List Int} (h : offE rs idle price sl ch ps = 0) (h2 : meetsV rs sl ch = 2) : gapE rs idle price sl ch ps = 0 ∧ gapV rs idle price sl ch ps = costC idle price sl ch - boundV idle price rs ps sl := by
  have e : gapE rs idle price sl ch ps = 0 := by unfold gapE; rw [if_neg (by simpa using h), if_pos h2]
  refine ⟨e, ?_⟩
  unfold gapV
  rw [if_pos e]

set_option maxRecDepth 100000 in
set_option maxHeartbeats 4000000 in
theorem bounds_far (B : Nat) (rs : List DReq) (RA : Option Addr) (rn rc : Nat) (sl : List (List DPart)) (A : Option Addr) (n c : Nat) (idle price : Int) (ch : List Int) (CA : Option Addr) (m cc : Nat) (ps : List Int) (PA : Option Addr) (pn pc : Nat) (w : World) (hU : UnitIn w) (hQ : TabS 1 qWords w) (hW : TabS 0 uWords w) (hrr : ReqsIn B w RA rs) (hr : SlotsIn B w A sl) (_hc : IntsIn B w CA ch) (_hm : ch.length = m) (_hp : IntsIn B w PA ps) (_hpn : ps.length = pn) (hB : B ≤ w.heap.size) (hrn : rs.length = rn) (hn : sl.length = n) (_h6 : Six sl) (hf : ¬ FewP rs sl) :
    Calls Tryz.prog 4 #[.agg #[.slice RA rn rc], .agg #[.slice A n c, .int .i64 idle, .int .i64 price], .agg #[.slice CA m cc, .slice PA pn pc]] w fun e w' => e = .returned (.bool true) ∧ Below w.heap.size w w' := by
  have HAw := Lib.hid (awake_any (((w.alloc (.cells #[.slice RA rn rc] 24)).alloc (.cells #[.slice A n c, .int .i64 idle, .int .i64 price] 27)).alloc (.cells #[.slice CA m cc, .slice PA pn pc] 46)) (hU.below (pa (pa (pa pr)))) (hQ.below (pa (pa (pa pr)))) (hW.below (pa (pa (pa pr)))))
  have HFe := Lib.hid (fun W (hW : Below w.heap.size w W) => (show Calls Tryz.prog 8 #[.agg #[.slice RA rn rc], .agg #[.slice A n c, .int .i64 idle, .int .i64 price]] W fun e w' => e = .returned (.bool false) ∧ Below W.heap.size W w' from (few_any B rs RA rn rc sl A n c idle price W (hrr.below (hW.mono hB)) (hr.below (hW.mono hB)) (Nat.le_trans hB hW.size) hrn hn).mono fun e w' h => by
    obtain ⟨⟨f, rfl, hfi⟩, hb⟩ := h
    cases f
    · exact ⟨rfl, hb⟩
    · exact absurd (hfi.1 rfl) hf))
  have HB0 := Lib.hid (show Below w.heap.size w (((w.alloc (.cells #[.slice RA rn rc] 24)).alloc (.cells #[.slice A n c, .int .i64 idle, .int .i64 price] 27)).alloc (.cells #[.slice CA m cc, .slice PA pn pc] 46)) from pa (pa (pa pr)))
  have R0 := Lib.hid (show Blk (((w.alloc (.cells #[.slice RA rn rc] 24)).alloc (.cells #[.slice A n c, .int .i64 idle, .int .i64 price] 27)).alloc (.cells #[.slice CA m cc, .slice PA pn pc] 46)) w.heap.size 24 #[.slice RA rn rc] from ((Blk.newAt rfl).alloc).alloc)
  have K0 := Lib.hid (show Blk (((w.alloc (.cells #[.slice RA rn rc] 24)).alloc (.cells #[.slice A n c, .int .i64 idle, .int .i64 price] 27)).alloc (.cells #[.slice CA m cc, .slice PA pn pc] 46)) (w.heap.size + 1) 27 #[.slice A n c, .int .i64 idle, .int .i64 price] from (Blk.newAt (by simp)).alloc)
  have S0 := Lib.hid (show Blk (((w.alloc (.cells #[.slice RA rn rc] 24)).alloc (.cells #[.slice A n c, .int .i64 idle, .int .i64 price] 27)).alloc (.cells #[.slice CA m cc, .slice PA pn pc] 46)) (w.heap.size + 1 + 1) 46 #[.slice CA m cc, .slice PA pn pc] from Blk.newAt (by simp))
  clear hU hQ hW hrr hr hn hrn _hc _hm _hp _hpn _h6
  go_enter Tryz.func4, Tryz.ntmps4
  go_wp2_with (first
    | (go_at_call 7; refine HAw.out.mono ?_; rintro e w1 ⟨rfl, hb⟩; have HB1 := Lib.hid (pt HB0.out hb); have R1 := Lib.hid (R0.out.past hb); have K1 := Lib.hid (K0.out.past hb); have S1 := Lib.hid (S0.out.past hb); clear hb; have x0 := R1.out.cellAt 0 rfl; have y0 := K1.out.cellAt 0 rfl; have y1 := K1.out.cellAt 1 rfl; have y2 := K1.out.cellAt 2 rfl; have s0 := S1.out.cellAt 0 rfl; have s1 := S1.out.cellAt 1 rfl; have xl := R1.out.lt; have yl := K1.out.lt; have sl_ := S1.out.lt)
    | (go_at_call 8; refine (HFe.out _ HB1.out).mono ?_; rintro e w2 ⟨rfl, hb⟩; have HB2 := Lib.hid (pt HB1.out hb); have R2 := Lib.hid (R1.out.past hb); have K2 := Lib.hid (K1.out.past hb); have S2 := Lib.hid (S1.out.past hb); clear x0 y0 y1 y2 s0 s1 xl yl sl_; clear hb; have x0 := R2.out.cellAt 0 rfl; have y0 := K2.out.cellAt 0 rfl; have y1 := K2.out.cellAt 1 rfl; have y2 := K2.out.cellAt 2 rfl; have s0 := S2.out.cellAt 0 rfl; have s1 := S2.out.cellAt 1 rfl; have xl := R2.out.lt; have yl := K2.out.lt; have sl_ := S2.out.lt))
  go_ret
  exact ⟨rfl, HB2.out⟩

set_option maxRecDepth 100000 in
set_option maxHeartbeats 4000000 in
theorem bounds_longp (B : Nat) (rs : List DReq) (RA : Option Addr) (rn rc : Nat) (sl : List (List DPart)) (A : Option Addr) (n c : Nat) (idle price : Int) (ch : List Int) (CA : Option Addr) (m cc : Nat) (ps : List Int) (PA : Option Addr) (pn pc : Nat) (w : World) (hU : UnitIn w) (hQ : TabS 1 qWords w) (hW : TabS 0 uWords w) (hrr : ReqsIn B w RA rs) (hr : SlotsIn B w A sl) (_hc : IntsIn B w CA ch) (_hm : ch.length = m) (_hp : IntsIn B w PA ps) (_hpn : ps.length = pn) (hB : B ≤ w.heap.size) (hrn : rs.length = rn) (hn : sl.length = n) (_h6 : Six sl) (hf : FewP rs sl) (h8 : 8 < pn) :
    Calls Tryz.prog 4 #[.agg #[.slice RA rn rc], .agg #[.slice A n c, .int .i64 idle, .int .i64 price], .agg #[.slice CA m cc, .slice PA pn pc]] w fun e w' => e = .returned (.bool true) ∧ Below w.heap.size w w' := by
  have HAw := Lib.hid (awake_any (((w.alloc (.cells #[.slice RA rn rc] 24)).alloc (.cells #[.slice A n c, .int .i64 idle, .int .i64 price] 27)).alloc (.cells #[.slice CA m cc, .slice PA pn pc] 46)) (hU.below (pa (pa (pa pr)))) (hQ.below (pa (pa (pa pr)))) (hW.below (pa (pa (pa pr)))))
  have HFe := Lib.hid (fun W (hW : Below w.heap.size w W) => (show Calls Tryz.prog 8 #[.agg #[.slice RA rn rc], .agg #[.slice A n c, .int .i64 idle, .int .i64 price]] W fun e w' => e = .returned (.bool true) ∧ Below W.heap.size W w' from (few_any B rs RA rn rc sl A n c idle price W (hrr.below (hW.mono hB)) (hr.below (hW.mono hB)) (Nat.le_trans hB hW.size) hrn hn).mono fun e w' h => by
    obtain ⟨⟨f, rfl, hfi⟩, hb⟩ := h
    cases f
    · exact absurd (hfi.2 hf) (by decide)
    · exact ⟨rfl, hb⟩))
  have HB0 := Lib.hid (show Below w.heap.size w (((w.alloc (.cells #[.slice RA rn rc] 24)).alloc (.cells #[.slice A n c, .int .i64 idle, .int .i64 price] 27)).alloc (.cells #[.slice CA m cc, .slice PA pn pc] 46)) from pa (pa (pa pr)))
  have R0 := Lib.hid (show Blk (((w.alloc (.cells #[.slice RA rn rc] 24)).alloc (.cells #[.slice A n c, .int .i64 idle, .int .i64 price] 27)).alloc (.cells #[.slice CA m cc, .slice PA pn pc] 46)) w.heap.size 24 #[.slice RA rn rc] from ((Blk.newAt rfl).alloc).alloc)
  have K0 := Lib.hid (show Blk (((w.alloc (.cells #[.slice RA rn rc] 24)).alloc (.cells #[.slice A n c, .int .i64 idle, .int .i64 price] 27)).alloc (.cells #[.slice CA m cc, .slice PA pn pc] 46)) (w.heap.size + 1) 27 #[.slice A n c, .int .i64 idle, .int .i64 price] from (Blk.newAt (by simp)).alloc)
  have S0 := Lib.hid (show Blk (((w.alloc (.cells #[.slice RA rn rc] 24)).alloc (.cells #[.slice A n c, .int .i64 idle, .int .i64 price] 27)).alloc (.cells #[.slice CA m cc, .slice PA pn pc] 46)) (w.heap.size + 1 + 1) 46 #[.slice CA m cc, .slice PA pn pc] from Blk.newAt (by simp))
  have z8 : (8 : Int) < (pn : Int) := by omega
  clear hU hQ hW hrr hr hn hrn _hc _hm _hp _hpn _h6
  go_enter Tryz.func4, Tryz.ntmps4
  go_wp2_with (first
    | (go_at_call 7; refine HAw.out.mono ?_; rintro e w1 ⟨rfl, hb⟩; have HB1 := Lib.hid (pt HB0.out hb); have R1 := Lib.hid (R0.out.past hb); have K1 := Lib.hid (K0.out.past hb); have S1 := Lib.hid (S0.out.past hb); clear hb; have x0 := R1.out.cellAt 0 rfl; have y0 := K1.out.cellAt 0 rfl; have y1 := K1.out.cellAt 1 rfl; have y2 := K1.out.cellAt 2 rfl; have s0 := S1.out.cellAt 0 rfl; have s1 := S1.out.cellAt 1 rfl; have xl := R1.out.lt; have yl := K1.out.lt; have sl_ := S1.out.lt)
    | (go_at_call 8; refine (HFe.out _ HB1.out).mono ?_; rintro e w2 ⟨rfl, hb⟩; have HB2 := Lib.hid (pt HB1.out hb); have R2 := Lib.hid (R1.out.past hb); have K2 := Lib.hid (K1.out.past hb); have S2 := Lib.hid (S1.out.past hb); clear x0 y0 y1 y2 s0 s1 xl yl sl_; clear hb; have x0 := R2.out.cellAt 0 rfl; have y0 := K2.out.cellAt 0 rfl; have y1 := K2.out.cellAt 1 rfl; have y2 := K2.out.cellAt 2 rfl; have s0 := S2.out.cellAt 0 rfl; have s1 := S2.out.cellAt 1 rfl; have xl := R2.out.lt; have yl := K2.out.lt; have sl_ := S2.out.lt))
  go_ret
  exact ⟨rfl, HB2.out⟩

set_option maxRecDepth 100000 in
set_option maxHeartbeats 4000000 in
theorem bounds_longc (B : Nat) (rs : List DReq) (RA : Option Addr) (rn rc : Nat) (sl : List (List DPart)) (A : Option Addr) (n c : Nat) (idle price : Int) (ch : List Int) (CA : Option Addr) (m cc : Nat) (ps : List Int) (PA : Option Addr) (pn pc : Nat) (w : World) (hU : UnitIn w) (hQ : TabS 1 qWords w) (hW : TabS 0 uWords w) (hrr : ReqsIn B w RA rs) (hr : SlotsIn B w A sl) (_hc : IntsIn B w CA ch) (_hm : ch.length = m) (_hp : IntsIn B w PA ps) (hpn : ps.length = pn) (hB : B ≤ w.heap.size) (hrn : rs.length = rn) (hn : sl.length = n) (_h6 : Six sl) (hf : FewP rs sl) (h8 : pn ≤ 8) (h9 : 8 < m) :
    Calls Tryz.prog 4 #[.agg #[.slice RA rn rc], .agg #[.slice A n c, .int .i64 idle, .int .i64 price], .agg #[.slice CA m cc, .slice PA pn pc]] w fun e w' => e = .returned (.bool true) ∧ Below w.heap.size w w' := by
  have HAw := Lib.hid (awake_any (((w.alloc (.cells #[.slice RA rn rc] 24)).alloc (.cells #[.slice A n c, .int .i64 idle, .int .i64 price] 27)).alloc (.cells #[.slice CA m cc, .slice PA pn pc] 46)) (hU.below (pa (pa (pa pr)))) (hQ.below (pa (pa (pa pr)))) (hW.below (pa (pa (pa pr)))))
  have HFe := Lib.hid (fun W (hW : Below w.heap.size w W) => (show Calls Tryz.prog 8 #[.agg #[.slice RA rn rc], .agg #[.slice A n c, .int .i64 idle, .int .i64 price]] W fun e w' => e = .returned (.bool true) ∧ Below W.heap.size W w' from (few_any B rs RA rn rc sl A n c idle price W (hrr.below (hW.mono hB)) (hr.below (hW.mono hB)) (Nat.le_trans hB hW.size) hrn hn).mono fun e w' h => by
    obtain ⟨⟨f, rfl, hfi⟩, hb⟩ := h
    cases f
    · exact absurd (hfi.2 hf) (by decide)
    · exact ⟨rfl, hb⟩))
  have HB0 := Lib.hid (show Below w.heap.size w (((w.alloc (.cells #[.slice RA rn rc] 24)).alloc (.cells #[.slice A n c, .int .i64 idle, .int .i64 price] 27)).alloc (.cells #[.slice CA m cc, .slice PA pn pc] 46)) from pa (pa (pa pr)))
  have R0 := Lib.hid (show Blk (((w.alloc (.cells #[.slice RA rn rc] 24)).alloc (.cells #[.slice A n c, .int .i64 idle, .int .i64 price] 27)).alloc (.cells #[.slice CA m cc, .slice PA pn pc] 46)) w.heap.size 24 #[.slice RA rn rc] from ((Blk.newAt rfl).alloc).alloc)
  have K0 := Lib.hid (show Blk (((w.alloc (.cells #[.slice RA rn rc] 24)).alloc (.cells #[.slice A n c, .int .i64 idle, .int .i64 price] 27)).alloc (.cells #[.slice CA m cc, .slice PA pn pc] 46)) (w.heap.size + 1) 27 #[.slice A n c, .int .i64 idle, .int .i64 price] from (Blk.newAt (by simp)).alloc)
  have S0 := Lib.hid (show Blk (((w.alloc (.cells #[.slice RA rn rc] 24)).alloc (.cells #[.slice A n c, .int .i64 idle, .int .i64 price] 27)).alloc (.cells #[.slice CA m cc, .slice PA pn pc] 46)) (w.heap.size + 1 + 1) 46 #[.slice CA m cc, .slice PA pn pc] from Blk.newAt (by simp))
  have z8 : ¬ (8 : Int) < (pn : Int) := by omega
  have z9 : (8 : Int) < (m : Int) := by omega
  clear hU hQ hW hrr hr hn hrn _hc _hm _hp hpn _h6
  go_enter Tryz.func4, Tryz.ntmps4
  go_wp2_with (first
    | (go_at_call 7; refine HAw.out.mono ?_; rintro e w1 ⟨rfl, hb⟩; have HB1 := Lib.hid (pt HB0.out hb); have R1 := Lib.hid (R0.out.past hb); have K1 := Lib.hid (K0.out.past hb); have S1 := Lib.hid (S0.out.past hb); clear hb; have x0 := R1.out.cellAt 0 rfl; have y0 := K1.out.cellAt 0 rfl; have y1 := K1.out.cellAt 1 rfl; have y2 := K1.out.cellAt 2 rfl; have s0 := S1.out.cellAt 0 rfl; have s1 := S1.out.cellAt 1 rfl; have xl := R1.out.lt; have yl := K1.out.lt; have sl_ := S1.out.lt)
    | (go_at_call 8; refine (HFe.out _ HB1.out).mono ?_; rintro e w2 ⟨rfl, hb⟩; have HB2 := Lib.hid (pt HB1.out hb); have R2 := Lib.hid (R1.out.past hb); have K2 := Lib.hid (K1.out.past hb); have S2 := Lib.hid (S1.out.past hb); clear x0 y0 y1 y2 s0 s1 xl yl sl_; clear hb; have x0 := R2.out.cellAt 0 rfl; have y0 := K2.out.cellAt 0 rfl; have y1 := K2.out.cellAt 1 rfl; have y2 := K2.out.cellAt 2 rfl; have s0 := S2.out.cellAt 0 rfl; have s1 := S2.out.cellAt 1 rfl; have xl := R2.out.lt; have yl := K2.out.lt; have sl_ := S2.out.lt))
  go_ret
  exact ⟨rfl, HB2.out⟩

set_option maxRecDepth 100000 in
set_option maxHeartbeats 16000000 in
theorem bounds_a (B : Nat) (rs : List DReq) (RA : Option Addr) (rn rc : Nat) (sl : List (List DPart)) (A : Option Addr) (n c : Nat) (idle price : Int) (ch : List Int) (CA : Option Addr) (m cc : Nat) (ps : List Int) (PA : Option Addr) (pn pc : Nat) (w : World) (hU : UnitIn w) (hQ : TabS 1 qWords w) (hW : TabS 0 uWords w) (hrr : ReqsIn B w RA rs) (hr : SlotsIn B w A sl) (hc : IntsIn B w CA ch) (hm : ch.length = m) (hp : IntsIn B w PA ps) (hpn : ps.length = pn) (hB : B ≤ w.heap.size) (hrn : rs.length = rn) (hn : sl.length = n) (h6 : Six sl) (hf : FewP rs sl) (h8 : pn ≤ 8) (h9 : m ≤ 8) (h0 : openE rs idle price sl ≠ 0) :
    Calls Tryz.prog 4 #[.agg #[.slice RA rn rc], .agg #[.slice A n c, .int .i64 idle, .int .i64 price], .agg #[.slice CA m cc, .slice PA pn pc]] w fun e w' => e = .returned (.bool true) ∧ Below w.heap.size w w' := by
  obtain ⟨f1, f2, f3, f4⟩ := few_bd2 hf
  have hn7 : n ≤ 7 := by omega
  have hr8 : rn ≤ 8 := by omega
  have HAw := Lib.hid (awake_any (((w.alloc (.cells #[.slice RA rn rc] 24)).alloc (.cells #[.slice A n c, .int .i64 idle, .int .i64 price] 27)).alloc (.cells #[.slice CA m cc, .slice PA pn pc] 46)) (hU.below (pa (pa (pa pr)))) (hQ.below (pa (pa (pa pr)))) (hW.below (pa (pa (pa pr)))))
  have HFe := Lib.hid (fun W (hW : Below w.heap.size w W) => (show Calls Tryz.prog 8 #[.agg #[.slice RA rn rc], .agg #[.slice A n c, .int .i64 idle, .int .i64 price]] W fun e w' => e = .returned (.bool true) ∧ Below W.heap.size W w' from (few_any B rs RA rn rc sl A n c idle price W (hrr.below (hW.mono hB)) (hr.below (hW.mono hB)) (Nat.le_trans hB hW.size) hrn hn).mono fun e w' h => by
    obtain ⟨⟨f, rfl, hfi⟩, hb⟩ := h
    cases f
    · exact absurd (hfi.2 hf) (by decide)
    · exact ⟨rfl, hb⟩))
  have HCk := Lib.hid (fun W (hW : Below w.heap.size w W) => (show Calls Tryz.prog 13 #[.agg #[.slice A n c, .int .i64 idle, .int .i64 price]] W fun e w' => ∃ A2 c2, e = .returned (.agg #[.slice A2 n c2, .int .i64 idle, .int .i64 price]) ∧ SlotsIn w'.heap.size w' A2 sl ∧ Below W.heap.size W w' from (copyStock_any B sl A n c idle price W (hr.below (hW.mono hB)) (Nat.le_trans hB hW.size) hn (by omega) (fun l hl => (f4 l hl).1)).mono fun e w' h => by
    obtain ⟨A2, c2, rfl, h2, _, h3⟩ := h
    rw [hn]
    exact ⟨A2, c2, rfl, h2, h3⟩))
  have HCr := Lib.hid (fun W (hW : Below w.heap.size w W) => (show Calls Tryz.prog 12 #[.agg #[.slice RA rn rc]] W fun e w' => ∃ A2 c2, e = .returned (.agg #[.slice A2 rn c2]) ∧ ReqsIn w'.heap.size w' A2 rs ∧ Below W.heap.size W w' from (copySpec_any B rs RA rn rc W (hrr.below (hW.mono hB)) (Nat.le_trans hB hW.size) hrn (by omega) f2).mono fun e w' h => by
    obtain ⟨A2, c2, rfl, h2, _, h3⟩ := h
    rw [hrn]
    exact ⟨A2, c2, rfl, h2, h3⟩))
  have HCi := Lib.hid (fun W (hW : Below w.heap.size w W) => (copyInts_any B CA m cc ch W (hc.below (hW.mono hB)) hm (Nat.le_trans hB hW.size) (by omega)).mono (fun _ _ h => copy_formC h))
  rw [hm] at HCi
  have HCp := Lib.hid (fun W (hW : Below w.heap.size w W) => (copyInts_any B PA pn pc ps W (hp.below (hW.mono hB)) hpn (Nat.le_trans hB hW.size) (by omega)).mono (fun _ _ h => copy_formC h))
  rw [hpn] at HCp
  have HBo := Lib.hid (fun W (hW : Below w.heap.size w W) => bothErr_any B rs RA rn rc sl A n c idle price W (hrr.below (hW.mono hB)) (hr.below (hW.mono hB)) (Nat.le_trans hB hW.size) hrn hn (by omega) f2 f4)
  have HUn := Lib.hid (fun W (hW' : Below w.heap.size w W) => hU.below hW')
  have HBd := Lib.hid (fun (W : World) A1 c1 A2 c2 A3 c3 (hU : UnitIn W) (h0 : ReqsIn W.heap.size W A1 rs) (h : SlotsIn W.heap.size W A2 sl) (h' : IntsIn W.heap.size W A3 ps) => boundOf_any W.heap.size rs A1 rn c1 sl A2 n c2 idle price ps A3 pn c3 W h0 h h' (Nat.le_refl _) hrn (by omega) f2 hU hn (by omega) f4 hpn (by omega) (openE_ok h6))
  have HGa := Lib.hid (fun (W : World) A1 c1 A2 c2 A3 c3 A4 c4 (hU : UnitIn W) (h0 : ReqsIn W.heap.size W A1 rs) (h : SlotsIn W.heap.size W A2 sl) (h' : IntsIn W.heap.size W A3 ch) (h'' : IntsIn W.heap.size W A4 ps) => gapOf_any W.heap.size rs A1 rn c1 sl A2 n c2 idle price ch A3 m c3 ps A4 pn c4 W h0 h h' h'' (Nat.le_refl _) hrn (by omega) f2 hU hn (by omega) f4 hm hpn (by omega) h6)
  obtain ⟨g1, g2⟩ := gapE_off (ch := ch) (ps := ps) (by rw [offE_bad h0]; exact h0)
  rw [offE_bad h0] at g1
  rw [g1, g2] at HGa
  rw [boundE_bad h0, if_neg h0] at HBd
  have z1 : (openE rs idle price sl != 0) = true := by simpa using h0
  generalize openE rs idle price sl = E at *
  have HB0 := Lib.hid (show Below w.heap.size w (((w.alloc (.cells #[.slice RA rn rc] 24)).alloc (.cells #[.slice A n c, .int .i64 idle, .int .i64 price] 27)).alloc (.cells #[.slice CA m cc, .slice PA pn pc] 46)) from pa (pa (pa pr)))
  have R0 := Lib.hid (show Blk (((w.alloc (.cells #[.slice RA rn rc] 24)).alloc (.cells #[.slice A n c, .int .i64 idle, .int .i64 price] 27)).alloc (.cells #[.slice CA m cc, .slice PA pn pc] 46)) w.heap.size 24 #[.slice RA rn rc] from ((Blk.newAt rfl).alloc).alloc)
  have K0 := Lib.hid (show Blk (((w.alloc (.cells #[.slice RA rn rc] 24)).alloc (.cells #[.slice A n c, .int .i64 idle, .int .i64 price] 27)).alloc (.cells #[.slice CA m cc, .slice PA pn pc] 46)) (w.heap.size + 1) 27 #[.slice A n c, .int .i64 idle, .int .i64 price] from (Blk.newAt (by simp)).alloc)
  have S0 := Lib.hid (show Blk (((w.alloc (.cells #[.slice RA rn rc] 24)).alloc (.cells #[.slice A n c, .int .i64 idle, .int .i64 price] 27)).alloc (.cells #[.slice CA m cc, .slice PA pn pc] 46)) (w.heap.size + 1 + 1) 46 #[.slice CA m cc, .slice PA pn pc] from Blk.newAt (by simp))
  clear hU hQ hW hrr hr hn hrn hc hm hp hpn h6 f1 f2 f3 f4 hf h0 g1 g2
  go_enter Tryz.func4, Tryz.ntmps4
  go_wp2_with (first
    | (go_at_call 7; refine HAw.out.mono ?_; rintro e w1 ⟨rfl, hb⟩; have HB1 := Lib.hid (pt HB0.out hb); have R1 := Lib.hid (R0.out.past hb); have K1 := Lib.hid (K0.out.past hb); have S1 := Lib.hid (S0.out.past hb); clear hb; have x0 := R1.out.cellAt 0 rfl; have y0 := K1.out.cellAt 0 rfl; have y1 := K1.out.cellAt 1 rfl; have y2 := K1.out.cellAt 2 rfl; have s0 := S1.out.cellAt 0 rfl; have s1 := S1.out.cellAt 1 rfl; have xl := R1.out.lt; have yl := K1.out.lt; have sl_ := S1.out.lt)
    | (go_at_call 8; refine (HFe.out _ HB1.out).mono ?_; rintro e w2 ⟨rfl, hb⟩; have HB2 := Lib.hid (pt HB1.out hb); have R2 := Lib.hid (R1.out.past hb); have K2 := Lib.hid (K1.out.past hb); have S2 := Lib.hid (S1.out.past hb); clear x0 y0 y1 y2 s0 s1 xl yl sl_; clear hb; have x0 := R2.out.cellAt 0 rfl; have y0 := K2.out.cellAt 0 rfl; have y1 := K2.out.cellAt 1 rfl; have y2 := K2.out.cellAt 2 rfl; have s0 := S2.out.cellAt 0 rfl; have s1 := S2.out.cellAt 1 rfl; have xl := R2.out.lt; have yl := K2.out.lt; have sl_ := S2.out.lt))
  clear R0 R1 K0 K1 S0 S1 HB0 HB1 HAw HFe
  have HSS := Lib.hid (show ∀ W, Hid (Below w2.heap.size w2 W) → Hid (Below w2.heap.size w2 W) ∧ W.cell? ⟨w.heap.size, 0, none⟩ = some (.slice RA rn rc) ∧ W.cell? ⟨w.heap.size + 1, 0, none⟩ = some (.slice A n c) ∧ W.cell? ⟨w.heap.size + 1, 1, none⟩ = some (.int .i64 idle) ∧ W.cell? ⟨w.heap.size + 1, 2, none⟩ = some (.int .i64 price) ∧ W.cell? ⟨w.heap.size + 1 + 1, 0, none⟩ = some (.slice CA m cc) ∧ W.cell? ⟨w.heap.size + 1 + 1, 1, none⟩ = some (.slice PA pn pc) from fun W hW => ⟨hW, (R2.out.past hW.out).cellAt 0 rfl, (K2.out.past hW.out).cellAt 0 rfl, (K2.out.past hW.out).cellAt 1 rfl, (K2.out.past hW.out).cellAt 2 rfl, (S2.out.past hW.out).cellAt 0 rfl, (S2.out.past hW.out).cellAt 1 rfl⟩)
  clear x0 y0 y1 y2 s0 s1
  go_region_held3 (fun w' => Hid (Below w2.heap.size w2 w') ∧ w'.cell? ⟨w.heap.size, 0, none⟩ = some (.slice RA rn rc) ∧ w'.cell? ⟨w.heap.size + 1, 0, none⟩ = some (.slice A n c) ∧ w'.cell? ⟨w.heap.size + 1, 1, none⟩ = some (.int .i64 idle) ∧ w'.cell? ⟨w.heap.size + 1, 2, none⟩ = some (.int .i64 price) ∧ w'.cell? ⟨w.heap.size + 1 + 1, 0, none⟩ = some (.slice CA m cc) ∧ w'.cell? ⟨w.heap.size + 1 + 1, 1, none⟩ = some (.slice PA pn pc)) ((refine HSS.out _ (Lib.hid ?_); repeat (first | assumption | (with_reducible exact pr) | (with_reducible refine pd ?_) | (with_reducible refine pa ?_) | (with_reducible refine pt ?_ (by assumption)))))
    ((first
      | (go_at_call 12; (with_reducible refine (HCr.out _ (pd HB2.out)).mono ?_); rintro e w3 ⟨A3, c3, rfl, hs3, hb3⟩; have HS3 := Lib.hid hs3)
      | (go_at_call 13; (with_reducible refine (HCk.out _ (pt (pd HB2.out) hb3)).mono ?_); rintro e w4 ⟨A4, c4, rfl, hs4, hb4⟩; have HS4 := Lib.hid hs4)
      | (go_at_call 19; (with_reducible refine (HCp.out _ (pt (pt (pd HB2.out) hb3) hb4)).mono ?_); rintro e w5 ⟨A5, c5, rfl, hi5, hb5⟩; have HI5 := Lib.hid hi5)
      | (go_at_call 18; (with_reducible refine (HBd.out _ A3 c3 A4 c4 A5 c5 (HUn.out _ (pt (pt (pt (pd HB2.out) hb3) hb4) hb5)) ((HS3.out.past (Nat.le_refl _) hb4).past (Nat.le_refl _) hb5) (HS4.out.past (Nat.le_refl _) hb5) HI5.out).mono ?_); rintro e w6 ⟨rfl, hb6⟩)))
  have HB6 := Lib.hid (show Below w.heap.size w w6 from pt (pt (pt (pt (pd HB2.out) hb3) hb4) hb5) hb6)
  have HBl6 := Lib.hid (show Below w2.heap.size w2 w6 from pt (pt (pt (pt (pd pr) hb3) hb4) hb5) hb6)
  have R6 := Lib.hid (R2.out.past HBl6.out)
  have K6 := Lib.hid (K2.out.past HBl6.out)
  have S6 := Lib.hid (S2.out.past HBl6.out)
  clear HSS xl yl sl_ hb3 hb4 hb5 hb6 hs3 hs4 HS3 HS4 hi5 HI5 R2 K2 S2 HB2
  have x0 := R6.out.cellAt 0 rfl; have y0 := K6.out.cellAt 0 rfl; have y1 := K6.out.cellAt 1 rfl; have y2 := K6.out.cellAt 2 rfl; have s0 := S6.out.cellAt 0 rfl; have s1 := S6.out.cellAt 1 rfl; have xl := R6.out.lt; have yl := K6.out.lt; have sl_ := S6.out.lt
  go_wp2
  have HSS := Lib.hid (show ∀ W, Hid (Below w6.heap.size w6 W) → Hid (Below w6.heap.size w6 W) ∧ W.cell? ⟨w.heap.size, 0, none⟩ = some (.slice RA rn rc) ∧ W.cell? ⟨w.heap.size + 1, 0, none⟩ = some (.slice A n c) ∧ W.cell? ⟨w.heap.size + 1, 1, none⟩ = some (.int .i64 idle) ∧ W.cell? ⟨w.heap.size + 1, 2, none⟩ = some (.int .i64 price) ∧ W.cell? ⟨w.heap.size + 1 + 1, 0, none⟩ = some (.slice CA m cc) ∧ W.cell? ⟨w.heap.size + 1 + 1, 1, none⟩ = some (.slice PA pn pc) from fun W hW => ⟨hW, (R6.out.past hW.out).cellAt 0 rfl, (K6.out.past hW.out).cellAt 0 rfl, (K6.out.past hW.out).cellAt 1 rfl, (K6.out.past hW.out).cellAt 2 rfl, (S6.out.past hW.out).cellAt 0 rfl, (S6.out.past hW.out).cellAt 1 rfl⟩)
  clear x0 y0 y1 y2 s0 s1
  go_region_held3 (fun w' => Hid (Below w6.heap.size w6 w') ∧ w'.cell? ⟨w.heap.size, 0, none⟩ = some (.slice RA rn rc) ∧ w'.cell? ⟨w.heap.size + 1, 0, none⟩ = some (.slice A n c) ∧ w'.cell? ⟨w.heap.size + 1, 1, none⟩ = some (.int .i64 idle) ∧ w'.cell? ⟨w.heap.size + 1, 2, none⟩ = some (.int .i64 price) ∧ w'.cell? ⟨w.heap.size + 1 + 1, 0, none⟩ = some (.slice CA m cc) ∧ w'.cell? ⟨w.heap.size + 1 + 1, 1, none⟩ = some (.slice PA pn pc)) ((refine HSS.out _ (Lib.hid ?_); repeat (first | assumption | (with_reducible exact pr) | (with_reducible refine pd ?_) | (with_reducible refine pa ?_) | (with_reducible refine pt ?_ (by assumption)))))
    ((first
      | (go_at_call 12; (with_reducible refine (HCr.out _ (pd HB6.out)).mono ?_); rintro e w7 ⟨A7, c7, rfl, hs7, hb7⟩; have HS7 := Lib.hid hs7)
      | (go_at_call 13; (with_reducible refine (HCk.out _ (pt (pd HB6.out) hb7)).mono ?_); rintro e w8 ⟨A8, c8, rfl, hs8, hb8⟩; have HS8 := Lib.hid hs8)
      | (go_at_call 19; (with_reducible refine (HCi.out _ (pt (pt (pd HB6.out) hb7) hb8)).mono ?_); rintro e w9 ⟨A9, c9, rfl, hi9, hb9⟩; have HI9 := Lib.hid hi9)
      | (go_at_call 19; (with_reducible refine (HCp.out _ (pt (pt (pt (pd HB6.out) hb7) hb8) hb9)).mono ?_); rintro e w10 ⟨A10, c10, rfl, hi10, hb10⟩; have HI10 := Lib.hid hi10)
      | (go_at_call 20; (with_reducible refine (HGa.out _ A7 c7 A8 c8 A9 c9 A10 c10 (HUn.out _ (pt (pt (pt (pt (pd HB6.out) hb7) hb8) hb9) hb10)) (((HS7.out.past (Nat.le_refl _) hb8).past (Nat.le_refl _) hb9).past (Nat.le_refl _) hb10) ((HS8.out.past (Nat.le_refl _) hb9).past (Nat.le_refl _) hb10) ((HI9.out.below hb10).more hb10.size) HI10.out).mono ?_); rintro e w11 ⟨rfl, hb11⟩)))
  have HB11 := Lib.hid (show Below w.heap.size w w11 from pt (pt (pt (pt (pt (pd HB6.out) hb7) hb8) hb9) hb10) hb11)
  have HBl11 := Lib.hid (show Below w6.heap.size w6 w11 from pt (pt (pt (pt (pt (pd pr) hb7) hb8) hb9) hb10) hb11)
  have R11 := Lib.hid (R6.out.past HBl11.out)
  have K11 := Lib.hid (K6.out.past HBl11.out)
  have S11 := Lib.hid (S6.out.past HBl11.out)
  clear HSS xl yl sl_ hb7 hb8 hb9 hb10 hb11 hs7 hs8 HS7 HS8 hi9 HI9 hi10 HI10 R6 K6 S6 HB6
  have x0 := R11.out.cellAt 0 rfl; have y0 := K11.out.cellAt 0 rfl; have y1 := K11.out.cellAt 1 rfl; have y2 := K11.out.cellAt 2 rfl; have s0 := S11.out.cellAt 0 rfl; have s1 := S11.out.cellAt 1 rfl; have xl := R11.out.lt; have yl := K11.out.lt; have sl_ := S11.out.lt
  go_wp2_with (first
    | (go_at_call 9; refine (HBo.out _ HB11.out).mono ?_; rintro e w12 ⟨rfl, hb⟩; have HB12 := Lib.hid (pt HB11.out hb); have R12 := Lib.hid (R11.out.past hb); have K12 := Lib.hid (K11.out.past hb); have S12 := Lib.hid (S11.out.past hb); clear x0 y0 y1 y2 s0 s1 xl yl sl_; clear hb; have x0 := R12.out.cellAt 0 rfl; have y0 := K12.out.cellAt 0 rfl; have y1 := K12.out.cellAt 1 rfl; have y2 := K12.out.cellAt 2 rfl; have s0 := S12.out.cellAt 0 rfl; have s1 := S12.out.cellAt 1 rfl; have xl := R12.out.lt; have yl := K12.out.lt; have sl_ := S12.out.lt))
  go_ret
  exact ⟨rfl, HB12.out⟩

set_option maxRecDepth 100000 in
set_option maxHeartbeats 16000000 in
theorem bounds_b1 (B : Nat) (rs : List DReq) (RA : Option Addr) (rn rc : Nat) (sl : List (List DPart)) (A : Option Addr) (n c : Nat) (idle price : Int) (ch : List Int) (CA : Option Addr) (m cc : Nat) (ps : List Int) (PA : Option Addr) (pn pc : Nat) (w : World) (hU : UnitIn w) (hQ : TabS 1 qWords w) (hW : TabS 0 uWords w) (hrr : ReqsIn B w RA rs) (hr : SlotsIn B w A sl) (hc : IntsIn B w CA ch) (hm : ch.length = m) (hp : IntsIn B w PA ps) (hpn : ps.length = pn) (hB : B ≤ w.heap.size) (hrn : rs.length = rn) (hn : sl.length = n) (h6 : Six sl) (hf : FewP rs sl) (h8 : pn ≤ 8) (h9 : m ≤ 8) (h0 : openE rs idle price sl = 0) (hpe : pricesE rs.length ps ≠ 0) (hce : choiceE sl ch ≠ 0) :
    Calls Tryz.prog 4 #[.agg #[.slice RA rn rc], .agg #[.slice A n c, .int .i64 idle, .int .i64 price], .agg #[.slice CA m cc, .slice PA pn pc]] w fun e w' => e = .returned (.bool true) ∧ Below w.heap.size w w' := by
  obtain ⟨f1, f2, f3, f4⟩ := few_bd2 hf
  have hn7 : n ≤ 7 := by omega
  have hr8 : rn ≤ 8 := by omega
  have HAw := Lib.hid (awake_any (((w.alloc (.cells #[.slice RA rn rc] 24)).alloc (.cells #[.slice A n c, .int .i64 idle, .int .i64 price] 27)).alloc (.cells #[.slice CA m cc, .slice PA pn pc] 46)) (hU.below (pa (pa (pa pr)))) (hQ.below (pa (pa (pa pr)))) (hW.below (pa (pa (pa pr)))))
  have HFe := Lib.hid (fun W (hW : Below w.heap.size w W) => (show Calls Tryz.prog 8 #[.agg #[.slice RA rn rc], .agg #[.slice A n c, .int .i64 idle, .int .i64 price]] W fun e w' => e = .returned (.bool true) ∧ Below W.heap.size W w' from (few_any B rs RA rn rc sl A n c idle price W (hrr.below (hW.mono hB)) (hr.below (hW.mono hB)) (Nat.le_trans hB hW.size) hrn hn).mono fun e w' h => by
    obtain ⟨⟨f, rfl, hfi⟩, hb⟩ := h
    cases f
    · exact absurd (hfi.2 hf) (by decide)
    · exact ⟨rfl, hb⟩))
  have HCk := Lib.hid (fun W (hW : Below w.heap.size w W) => (show Calls Tryz.prog 13 #[.agg #[.slice A n c, .int .i64 idle, .int .i64 price]] W fun e w' => ∃ A2 c2, e = .returned (.agg #[.slice A2 n c2, .int .i64 idle, .int .i64 price]) ∧ SlotsIn w'.heap.size w' A2 sl ∧ Below W.heap.size W w' from (copyStock_any B sl A n c idle price W (hr.below (hW.mono hB)) (Nat.le_trans hB hW.size) hn (by omega) (fun l hl => (f4 l hl).1)).mono fun e w' h => by
    obtain ⟨A2, c2, rfl, h2, _, h3⟩ := h
    rw [hn]
    exact ⟨A2, c2, rfl, h2, h3⟩))
  have HCr := Lib.hid (fun W (hW : Below w.heap.size w W) => (show Calls Tryz.prog 12 #[.agg #[.slice RA rn rc]] W fun e w' => ∃ A2 c2, e = .returned (.agg #[.slice A2 rn c2]) ∧ ReqsIn w'.heap.size w' A2 rs ∧ Below W.heap.size W w' from (copySpec_any B rs RA rn rc W (hrr.below (hW.mono hB)) (Nat.le_trans hB hW.size) hrn (by omega) f2).mono fun e w' h => by
    obtain ⟨A2, c2, rfl, h2, _, h3⟩ := h
    rw [hrn]
    exact ⟨A2, c2, rfl, h2, h3⟩))
  have HCi := Lib.hid (fun W (hW : Below w.heap.size w W) => (copyInts_any B CA m cc ch W (hc.below (hW.mono hB)) hm (Nat.le_trans hB hW.size) (by omega)).mono (fun _ _ h => copy_formC h))
  rw [hm] at HCi
  have HCp := Lib.hid (fun W (hW : Below w.heap.size w W) => (copyInts_any B PA pn pc ps W (hp.below (hW.mono hB)) hpn (Nat.le_trans hB hW.size) (by omega)).mono (fun _ _ h => copy_formC h))
  rw [hpn] at HCp
  have HBo := Lib.hid (fun W (hW : Below w.heap.size w W) => bothErr_any B rs RA rn rc sl A n c idle price W (hrr.below (hW.mono hB)) (hr.below (hW.mono hB)) (Nat.le_trans hB hW.size) hrn hn (by omega) f2 f4)
  have HUn := Lib.hid (fun W (hW' : Below w.heap.size w W) => hU.below hW')
  have HBd := Lib.hid (fun (W : World) A1 c1 A2 c2 A3 c3 (hU : UnitIn W) (h0 : ReqsIn W.heap.size W A1 rs) (h : SlotsIn W.heap.size W A2 sl) (h' : IntsIn W.heap.size W A3 ps) => boundOf_any W.heap.size rs A1 rn c1 sl A2 n c2 idle price ps A3 pn c3 W h0 h h' (Nat.le_refl _) hrn (by omega) f2 hU hn (by omega) f4 hpn (by omega) (openE_ok h6))
  have HGa := Lib.hid (fun (W : World) A1 c1 A2 c2 A3 c3 A4 c4 (hU : UnitIn W) (h0 : ReqsIn W.heap.size W A1 rs) (h : SlotsIn W.heap.size W A2 sl) (h' : IntsIn W.heap.size W A3 ch) (h'' : IntsIn W.heap.size W A4 ps) => gapOf_any W.heap.size rs A1 rn c1 sl A2 n c2 idle price ch A3 m c3 ps A4 pn c4 W h0 h h' h'' (Nat.le_refl _) hrn (by omega) f2 hU hn (by omega) f4 hm hpn (by omega) h6)
  have hok := openE_ok h6 h0
  have hof := offE_good (ch := ch) (ps := ps) h0
  rw [if_pos hce] at hof
  obtain ⟨g1, g2⟩ := gapE_off (ch := ch) (ps := ps) (by rw [hof]; exact hce)
  rw [hof] at g1
  rw [g1, g2] at HGa
  rw [boundE_good h0, if_neg hpe] at HBd
  rw [h0] at HBo
  have HRp := Lib.hid (fun W (hW : Below w.heap.size w W) => refPricesErr_any B RA rn rc ps PA pn pc W (hp.below (hW.mono hB)) (Nat.le_trans hB hW.size) hpn (by omega))
  rw [show pricesE rn ps = pricesE rs.length ps from by rw [← hrn]] at HRp
  have HRc := Lib.hid (fun W (hW : Below w.heap.size w W) => refChoiceErr_any B sl A n c idle price ch CA m cc W (hr.below (hW.mono hB)) (hc.below (hW.mono hB)) (Nat.le_trans hB hW.size) hn hm (by omega) (fun l hl => (f4 l hl).1))
  have z2 : (pricesE rs.length ps != 0) = true := by simpa using hpe
  have z3 : (pricesE rs.length ps == 0) = false := by simpa using hpe
  generalize pricesE rs.length ps = P at *
  have z4 : (choiceE sl ch != 0) = true := by simpa using hce
  have z5 : (choiceE sl ch == 0) = false := by simpa using hce
  generalize choiceE sl ch = C at *
  have HB0 := Lib.hid (show Below w.heap.size w (((w.alloc (.cells #[.slice RA rn rc] 24)).alloc (.cells #[.slice A n c, .int .i64 idle, .int .i64 price] 27)).alloc (.cells #[.slice CA m cc, .slice PA pn pc] 46)) from pa (pa (pa pr)))
  have R0 := Lib.hid (show Blk (((w.alloc (.cells #[.slice RA rn rc] 24)).alloc (.cells #[.slice A n c, .int .i64 idle, .int .i64 price] 27)).alloc (.cells #[.slice CA m cc, .slice PA pn pc] 46)) w.heap.size 24 #[.slice RA rn rc] from ((Blk.newAt rfl).alloc).alloc)
  have K0 := Lib.hid (show Blk (((w.alloc (.cells #[.slice RA rn rc] 24)).alloc (.cells #[.slice A n c, .int .i64 idle, .int .i64 price] 27)).alloc (.cells #[.slice CA m cc, .slice PA pn pc] 46)) (w.heap.size + 1) 27 #[.slice A n c, .int .i64 idle, .int .i64 price] from (Blk.newAt (by simp)).alloc)
  have S0 := Lib.hid (show Blk (((w.alloc (.cells #[.slice RA rn rc] 24)).alloc (.cells #[.slice A n c, .int .i64 idle, .int .i64 price] 27)).alloc (.cells #[.slice CA m cc, .slice PA pn pc] 46)) (w.heap.size + 1 + 1) 46 #[.slice CA m cc, .slice PA pn pc] from Blk.newAt (by simp))
  clear hU hQ hW hrr hr hn hrn hc hm hp hpn h6 f1 f2 f3 f4 hf h0 hpe hce hok hof g1 g2
  go_enter Tryz.func4, Tryz.ntmps4
  go_wp2_with (first
    | (go_at_call 7; refine HAw.out.mono ?_; rintro e w1 ⟨rfl, hb⟩; have HB1 := Lib.hid (pt HB0.out hb); have R1 := Lib.hid (R0.out.past hb); have K1 := Lib.hid (K0.out.past hb); have S1 := Lib.hid (S0.out.past hb); clear hb; have x0 := R1.out.cellAt 0 rfl; have y0 := K1.out.cellAt 0 rfl; have y1 := K1.out.cellAt 1 rfl; have y2 := K1.out.cellAt 2 rfl; have s0 := S1.out.cellAt 0 rfl; have s1 := S1.out.cellAt 1 rfl; have xl := R1.out.lt; have yl := K1.out.lt; have sl_ := S1.out.lt)
    | (go_at_call 8; refine (HFe.out _ HB1.out).mono ?_; rintro e w2 ⟨rfl, hb⟩; have HB2 := Lib.hid (pt HB1.out hb); have R2 := Lib.hid (R1.out.past hb); have K2 := Lib.hid (K1.out.past hb); have S2 := Lib.hid (S1.out.past hb); clear x0 y0 y1 y2 s0 s1 xl yl sl_; clear hb; have x0 := R2.out.cellAt 0 rfl; have y0 := K2.out.cellAt 0 rfl; have y1 := K2.out.cellAt 1 rfl; have y2 := K2.out.cellAt 2 rfl; have s0 := S2.out.cellAt 0 rfl; have s1 := S2.out.cellAt 1 rfl; have xl := R2.out.lt; have yl := K2.out.lt; have sl_ := S2.out.lt))
  clear R0 R1 K0 K1 S0 S1 HB0 HB1 HAw HFe
  have HSS := Lib.hid (show ∀ W, Hid (Below w2.heap.size w2 W) → Hid (Below w2.heap.size w2 W) ∧ W.cell? ⟨w.heap.size, 0, none⟩ = some (.slice RA rn rc) ∧ W.cell? ⟨w.heap.size + 1, 0, none⟩ = some (.slice A n c) ∧ W.cell? ⟨w.heap.size + 1, 1, none⟩ = some (.int .i64 idle) ∧ W.cell? ⟨w.heap.size + 1, 2, none⟩ = some (.int .i64 price) ∧ W.cell? ⟨w.heap.size + 1 + 1, 0, none⟩ = some (.slice CA m cc) ∧ W.cell? ⟨w.heap.size + 1 + 1, 1, none⟩ = some (.slice PA pn pc) from fun W hW => ⟨hW, (R2.out.past hW.out).cellAt 0 rfl, (K2.out.past hW.out).cellAt 0 rfl, (K2.out.past hW.out).cellAt 1 rfl, (K2.out.past hW.out).cellAt 2 rfl, (S2.out.past hW.out).cellAt 0 rfl, (S2.out.past hW.out).cellAt 1 rfl⟩)
  clear x0 y0 y1 y2 s0 s1
  go_region_held3 (fun w' => Hid (Below w2.heap.size w2 w') ∧ w'.cell? ⟨w.heap.size, 0, none⟩ = some (.slice RA rn rc) ∧ w'.cell? ⟨w.heap.size + 1, 0, none⟩ = some (.slice A n c) ∧ w'.cell? ⟨w.heap.size + 1, 1, none⟩ = some (.int .i64 idle) ∧ w'.cell? ⟨w.heap.size + 1, 2, none⟩ = some (.int .i64 price) ∧ w'.cell? ⟨w.heap.size + 1 + 1, 0, none⟩ = some (.slice CA m cc) ∧ w'.cell? ⟨w.heap.size + 1 + 1, 1, none⟩ = some (.slice PA pn pc)) ((refine HSS.out _ (Lib.hid ?_); repeat (first | assumption | (with_reducible exact pr) | (with_reducible refine pd ?_) | (with_reducible refine pa ?_) | (with_reducible refine pt ?_ (by assumption)))))
    ((first
      | (go_at_call 12; (with_reducible refine (HCr.out _ (pd HB2.out)).mono ?_); rintro e w3 ⟨A3, c3, rfl, hs3, hb3⟩; have HS3 := Lib.hid hs3)
      | (go_at_call 13; (with_reducible refine (HCk.out _ (pt (pd HB2.out) hb3)).mono ?_); rintro e w4 ⟨A4, c4, rfl, hs4, hb4⟩; have HS4 := Lib.hid hs4)
      | (go_at_call 19; (with_reducible refine (HCp.out _ (pt (pt (pd HB2.out) hb3) hb4)).mono ?_); rintro e w5 ⟨A5, c5, rfl, hi5, hb5⟩; have HI5 := Lib.hid hi5)
      | (go_at_call 18; (with_reducible refine (HBd.out _ A3 c3 A4 c4 A5 c5 (HUn.out _ (pt (pt (pt (pd HB2.out) hb3) hb4) hb5)) ((HS3.out.past (Nat.le_refl _) hb4).past (Nat.le_refl _) hb5) (HS4.out.past (Nat.le_refl _) hb5) HI5.out).mono ?_); rintro e w6 ⟨rfl, hb6⟩)))
  have HB6 := Lib.hid (show Below w.heap.size w w6 from pt (pt (pt (pt (pd HB2.out) hb3) hb4) hb5) hb6)
  have HBl6 := Lib.hid (show Below w2.heap.size w2 w6 from pt (pt (pt (pt (pd pr) hb3) hb4) hb5) hb6)
  have R6 := Lib.hid (R2.out.past HBl6.out)
  have K6 := Lib.hid (K2.out.past HBl6.out)
  have S6 := Lib.hid (S2.out.past HBl6.out)
  clear HSS xl yl sl_ hb3 hb4 hb5 hb6 hs3 hs4 HS3 HS4 hi5 HI5 R2 K2 S2 HB2
  have x0 := R6.out.cellAt 0 rfl; have y0 := K6.out.cellAt 0 rfl; have y1 := K6.out.cellAt 1 rfl; have y2 := K6.out.cellAt 2 rfl; have s0 := S6.out.cellAt 0 rfl; have s1 := S6.out.cellAt 1 rfl; have xl := R6.out.lt; have yl := K6.out.lt; have sl_ := S6.out.lt
  go_wp2
  have HSS := Lib.hid (show ∀ W, Hid (Below w6.heap.size w6 W) → Hid (Below w6.heap.size w6 W) ∧ W.cell? ⟨w.heap.size, 0, none⟩ = some (.slice RA rn rc) ∧ W.cell? ⟨w.heap.size + 1, 0, none⟩ = some (.slice A n c) ∧ W.cell? ⟨w.heap.size + 1, 1, none⟩ = some (.int .i64 idle) ∧ W.cell? ⟨w.heap.size + 1, 2, none⟩ = some (.int .i64 price) ∧ W.cell? ⟨w.heap.size + 1 + 1, 0, none⟩ = some (.slice CA m cc) ∧ W.cell? ⟨w.heap.size + 1 + 1, 1, none⟩ = some (.slice PA pn pc) from fun W hW => ⟨hW, (R6.out.past hW.out).cellAt 0 rfl, (K6.out.past hW.out).cellAt 0 rfl, (K6.out.past hW.out).cellAt 1 rfl, (K6.out.past hW.out).cellAt 2 rfl, (S6.out.past hW.out).cellAt 0 rfl, (S6.out.past hW.out).cellAt 1 rfl⟩)
  clear x0 y0 y1 y2 s0 s1
  go_region_held3 (fun w' => Hid (Below w6.heap.size w6 w') ∧ w'.cell? ⟨w.heap.size, 0, none⟩ = some (.slice RA rn rc) ∧ w'.cell? ⟨w.heap.size + 1, 0, none⟩ = some (.slice A n c) ∧ w'.cell? ⟨w.heap.size + 1, 1, none⟩ = some (.int .i64 idle) ∧ w'.cell? ⟨w.heap.size + 1, 2, none⟩ = some (.int .i64 price) ∧ w'.cell? ⟨w.heap.size + 1 + 1, 0, none⟩ = some (.slice CA m cc) ∧ w'.cell? ⟨w.heap.size + 1 + 1, 1, none⟩ = some (.slice PA pn pc)) ((refine HSS.out _ (Lib.hid ?_); repeat (first | assumption | (with_reducible exact pr) | (with_reducible refine pd ?_) | (with_reducible refine pa ?_) | (with_reducible refine pt ?_ (by assumption)))))
    ((first
      | (go_at_call 12; (with_reducible refine (HCr.out _ (pd HB6.out)).mono ?_); rintro e w7 ⟨A7, c7, rfl, hs7, hb7⟩; have HS7 := Lib.hid hs7)
      | (go_at_call 13; (with_reducible refine (HCk.out _ (pt (pd HB6.out) hb7)).mono ?_); rintro e w8 ⟨A8, c8, rfl, hs8, hb8⟩; have HS8 := Lib.hid hs8)
      | (go_at_call 19; (with_reducible refine (HCi.out _ (pt (pt (pd HB6.out) hb7) hb8)).mono ?_); rintro e w9 ⟨A9, c9, rfl, hi9, hb9⟩; have HI9 := Lib.hid hi9)
      | (go_at_call 19; (with_reducible refine (HCp.out _ (pt (pt (pt (pd HB6.out) hb7) hb8) hb9)).mono ?_); rintro e w10 ⟨A10, c10, rfl, hi10, hb10⟩; have HI10 := Lib.hid hi10)
      | (go_at_call 20; (with_reducible refine (HGa.out _ A7 c7 A8 c8 A9 c9 A10 c10 (HUn.out _ (pt (pt (pt (pt (pd HB6.out) hb7) hb8) hb9) hb10)) (((HS7.out.past (Nat.le_refl _) hb8).past (Nat.le_refl _) hb9).past (Nat.le_refl _) hb10) ((HS8.out.past (Nat.le_refl _) hb9).past (Nat.le_refl _) hb10) ((HI9.out.below hb10).more hb10.size) HI10.out).mono ?_); rintro e w11 ⟨rfl, hb11⟩)))
  have HB11 := Lib.hid (show Below w.heap.size w w11 from pt (pt (pt (pt (pt (pd HB6.out) hb7) hb8) hb9) hb10) hb11)
  have HBl11 := Lib.hid (show Below w6.heap.size w6 w11 from pt (pt (pt (pt (pt (pd pr) hb7) hb8) hb9) hb10) hb11)
  have R11 := Lib.hid (R6.out.past HBl11.out)
  have K11 := Lib.hid (K6.out.past HBl11.out)
  have S11 := Lib.hid (S6.out.past HBl11.out)
  clear HSS xl yl sl_ hb7 hb8 hb9 hb10 hb11 hs7 hs8 HS7 HS8 hi9 HI9 hi10 HI10 R6 K6 S6 HB6
  have x0 := R11.out.cellAt 0 rfl; have y0 := K11.out.cellAt 0 rfl; have y1 := K11.out.cellAt 1 rfl; have y2 := K11.out.cellAt 2 rfl; have s0 := S11.out.cellAt 0 rfl; have s1 := S11.out.cellAt 1 rfl; have xl := R11.out.lt; have yl := K11.out.lt; have sl_ := S11.out.lt
  go_wp2_with (first
    | (go_at_call 9; refine (HBo.out _ HB11.out).mono ?_; rintro e w12 ⟨rfl, hb⟩; have HB12 := Lib.hid (pt HB11.out hb); have R12 := Lib.hid (R11.out.past hb); have K12 := Lib.hid (K11.out.past hb); have S12 := Lib.hid (S11.out.past hb); clear x0 y0 y1 y2 s0 s1 xl yl sl_; clear hb; have x0 := R12.out.cellAt 0 rfl; have y0 := K12.out.cellAt 0 rfl; have y1 := K12.out.cellAt 1 rfl; have y2 := K12.out.cellAt 2 rfl; have s0 := S12.out.cellAt 0 rfl; have s1 := S12.out.cellAt 1 rfl; have xl := R12.out.lt; have yl := K12.out.lt; have sl_ := S12.out.lt)
    | (go_at_call 21; refine (HRp.out _ HB12.out).mono ?_; rintro e w13 ⟨rfl, hb⟩; have HB13 := Lib.hid (pt HB12.out hb); have R13 := Lib.hid (R12.out.past hb); have K13 := Lib.hid (K12.out.past hb); have S13 := Lib.hid (S12.out.past hb); clear x0 y0 y1 y2 s0 s1 xl yl sl_; clear hb; have x0 := R13.out.cellAt 0 rfl; have y0 := K13.out.cellAt 0 rfl; have y1 := K13.out.cellAt 1 rfl; have y2 := K13.out.cellAt 2 rfl; have s0 := S13.out.cellAt 0 rfl; have s1 := S13.out.cellAt 1 rfl; have xl := R13.out.lt; have yl := K13.out.lt; have sl_ := S13.out.lt)
    | (go_at_call 23; refine (HRc.out _ HB13.out).mono ?_; rintro e w14 ⟨rfl, hb⟩; have HB14 := Lib.hid (pt HB13.out hb); have R14 := Lib.hid (R13.out.past hb); have K14 := Lib.hid (K13.out.past hb); have S14 := Lib.hid (S13.out.past hb); clear x0 y0 y1 y2 s0 s1 xl yl sl_; clear hb; have x0 := R14.out.cellAt 0 rfl; have y0 := K14.out.cellAt 0 rfl; have y1 := K14.out.cellAt 1 rfl; have y2 := K14.out.cellAt 2 rfl; have s0 := S14.out.cellAt 0 rfl; have s1 := S14.out.cellAt 1 rfl; have xl := R14.out.lt; have yl := K14.out.lt; have sl_ := S14.out.lt))
  go_ret
  exact ⟨rfl, HB14.out⟩

set_option maxRecDepth 100000 in
set_option maxHeartbeats 16000000 in
theorem bounds_b2 (B : Nat) (rs : List DReq) (RA : Option Addr) (rn rc : Nat) (sl : List (List DPart)) (A : Option Addr) (n c : Nat) (idle price : Int) (ch : List Int) (CA : Option Addr) (m cc : Nat) (ps : List Int) (PA : Option Addr) (pn pc : Nat) (w : World) (hU : UnitIn w) (hQ : TabS 1 qWords w) (hW : TabS 0 uWords w) (hrr : ReqsIn B w RA rs) (hr : SlotsIn B w A sl) (hc : IntsIn B w CA ch) (hm : ch.length = m) (hp : IntsIn B w PA ps) (hpn : ps.length = pn) (hB : B ≤ w.heap.size) (hrn : rs.length = rn) (hn : sl.length = n) (h6 : Six sl) (hf : FewP rs sl) (h8 : pn ≤ 8) (h9 : m ≤ 8) (h0 : openE rs idle price sl = 0) (hpe : pricesE rs.length ps ≠ 0) (hce : choiceE sl ch = 0) :
    Calls Tryz.prog 4 #[.agg #[.slice RA rn rc], .agg #[.slice A n c, .int .i64 idle, .int .i64 price], .agg #[.slice CA m cc, .slice PA pn pc]] w fun e w' => e = .returned (.bool true) ∧ Below w.heap.size w w' := by
  obtain ⟨f1, f2, f3, f4⟩ := few_bd2 hf
  have hn7 : n ≤ 7 := by omega
  have hr8 : rn ≤ 8 := by omega
  have HAw := Lib.hid (awake_any (((w.alloc (.cells #[.slice RA rn rc] 24)).alloc (.cells #[.slice A n c, .int .i64 idle, .int .i64 price] 27)).alloc (.cells #[.slice CA m cc, .slice PA pn pc] 46)) (hU.below (pa (pa (pa pr)))) (hQ.below (pa (pa (pa pr)))) (hW.below (pa (pa (pa pr)))))
  have HFe := Lib.hid (fun W (hW : Below w.heap.size w W) => (show Calls Tryz.prog 8 #[.agg #[.slice RA rn rc], .agg #[.slice A n c, .int .i64 idle, .int .i64 price]] W fun e w' => e = .returned (.bool true) ∧ Below W.heap.size W w' from (few_any B rs RA rn rc sl A n c idle price W (hrr.below (hW.mono hB)) (hr.below (hW.mono hB)) (Nat.le_trans hB hW.size) hrn hn).mono fun e w' h => by
    obtain ⟨⟨f, rfl, hfi⟩, hb⟩ := h
    cases f
    · exact absurd (hfi.2 hf) (by decide)
    · exact ⟨rfl, hb⟩))
  have HCk := Lib.hid (fun W (hW : Below w.heap.size w W) => (show Calls Tryz.prog 13 #[.agg #[.slice A n c, .int .i64 idle, .int .i64 price]] W fun e w' => ∃ A2 c2, e = .returned (.agg #[.slice A2 n c2, .int .i64 idle, .int .i64 price]) ∧ SlotsIn w'.heap.size w' A2 sl ∧ Below W.heap.size W w' from (copyStock_any B sl A n c idle price W (hr.below (hW.mono hB)) (Nat.le_trans hB hW.size) hn (by omega) (fun l hl => (f4 l hl).1)).mono fun e w' h => by
    obtain ⟨A2, c2, rfl, h2, _, h3⟩ := h
    rw [hn]
    exact ⟨A2, c2, rfl, h2, h3⟩))
  have HCr := Lib.hid (fun W (hW : Below w.heap.size w W) => (show Calls Tryz.prog 12 #[.agg #[.slice RA rn rc]] W fun e w' => ∃ A2 c2, e = .returned (.agg #[.slice A2 rn c2]) ∧ ReqsIn w'.heap.size w' A2 rs ∧ Below W.heap.size W w' from (copySpec_any B rs RA rn rc W (hrr.below (hW.mono hB)) (Nat.le_trans hB hW.size) hrn (by omega) f2).mono fun e w' h => by
    obtain ⟨A2, c2, rfl, h2, _, h3⟩ := h
    rw [hrn]
    exact ⟨A2, c2, rfl, h2, h3⟩))
  have HCi := Lib.hid (fun W (hW : Below w.heap.size w W) => (copyInts_any B CA m cc ch W (hc.below (hW.mono hB)) hm (Nat.le_trans hB hW.size) (by omega)).mono (fun _ _ h => copy_formC h))
  rw [hm] at HCi
  have HCp := Lib.hid (fun W (hW : Below w.heap.size w W) => (copyInts_any B PA pn pc ps W (hp.below (hW.mono hB)) hpn (Nat.le_trans hB hW.size) (by omega)).mono (fun _ _ h => copy_formC h))
  rw [hpn] at HCp
  have HBo := Lib.hid (fun W (hW : Below w.heap.size w W) => bothErr_any B rs RA rn rc sl A n c idle price W (hrr.below (hW.mono hB)) (hr.below (hW.mono hB)) (Nat.le_trans hB hW.size) hrn hn (by omega) f2 f4)
  have HUn := Lib.hid (fun W (hW' : Below w.heap.size w W) => hU.below hW')
  have HBd := Lib.hid (fun (W : World) A1 c1 A2 c2 A3 c3 (hU : UnitIn W) (h0 : ReqsIn W.heap.size W A1 rs) (h : SlotsIn W.heap.size W A2 sl) (h' : IntsIn W.heap.size W A3 ps) => boundOf_any W.heap.size rs A1 rn c1 sl A2 n c2 idle price ps A3 pn c3 W h0 h h' (Nat.le_refl _) hrn (by omega) f2 hU hn (by omega) f4 hpn (by omega) (openE_ok h6))
  have HGa := Lib.hid (fun (W : World) A1 c1 A2 c2 A3 c3 A4 c4 (hU : UnitIn W) (h0 : ReqsIn W.heap.size W A1 rs) (h : SlotsIn W.heap.size W A2 sl) (h' : IntsIn W.heap.size W A3 ch) (h'' : IntsIn W.heap.size W A4 ps) => gapOf_any W.heap.size rs A1 rn c1 sl A2 n c2 idle price ch A3 m c3 ps A4 pn c4 W h0 h h' h'' (Nat.le_refl _) hrn (by omega) f2 hU hn (by omega) f4 hm hpn (by omega) h6)
  have hok := openE_ok h6 h0
  have hof := offE_good (ch := ch) (ps := ps) h0
  rw [if_neg (by simpa using hce)] at hof
  obtain ⟨g1, g2⟩ := gapE_off (ch := ch) (ps := ps) (by rw [hof]; exact hpe)
  rw [hof] at g1
  rw [g1, g2] at HGa
  rw [boundE_good h0, if_neg hpe] at HBd
  rw [h0] at HBo
  have HRp := Lib.hid (fun W (hW : Below w.heap.size w W) => refPricesErr_any B RA rn rc ps PA pn pc W (hp.below (hW.mono hB)) (Nat.le_trans hB hW.size) hpn (by omega))
  rw [show pricesE rn ps = pricesE rs.length ps from by rw [← hrn]] at HRp
  have HRc := Lib.hid (fun W (hW : Below w.heap.size w W) => refChoiceErr_any B sl A n c idle price ch CA m cc W (hr.below (hW.mono hB)) (hc.below (hW.mono hB)) (Nat.le_trans hB hW.size) hn hm (by omega) (fun l hl => (f4 l hl).1))
  rw [hce] at HRc
  have z2 : (pricesE rs.length ps != 0) = true := by simpa using hpe
  have z3 : (pricesE rs.length ps == 0) = false := by simpa using hpe
  generalize pricesE rs.length ps = P at *
  have HB0 := Lib.hid (show Below w.heap.size w (((w.alloc (.cells #[.slice RA rn rc] 24)).alloc (.cells #[.slice A n c, .int .i64 idle, .int .i64 price] 27)).alloc (.cells #[.slice CA m cc, .slice PA pn pc] 46)) from pa (pa (pa pr)))
  have R0 := Lib.hid (show Blk (((w.alloc (.cells #[.slice RA rn rc] 24)).alloc (.cells #[.slice A n c, .int .i64 idle, .int .i64 price] 27)).alloc (.cells #[.slice CA m cc, .slice PA pn pc] 46)) w.heap.size 24 #[.slice RA rn rc] from ((Blk.newAt rfl).alloc).alloc)
  have K0 := Lib.hid (show Blk (((w.alloc (.cells #[.slice RA rn rc] 24)).alloc (.cells #[.slice A n c, .int .i64 idle, .int .i64 price] 27)).alloc (.cells #[.slice CA m cc, .slice PA pn pc] 46)) (w.heap.size + 1) 27 #[.slice A n c, .int .i64 idle, .int .i64 price] from (Blk.newAt (by simp)).alloc)
  have S0 := Lib.hid (show Blk (((w.alloc (.cells #[.slice RA rn rc] 24)).alloc (.cells #[.slice A n c, .int .i64 idle, .int .i64 price] 27)).alloc (.cells #[.slice CA m cc, .slice PA pn pc] 46)) (w.heap.size + 1 + 1) 46 #[.slice CA m cc, .slice PA pn pc] from Blk.newAt (by simp))
  clear hU hQ hW hrr hr hn hrn hc hm hp hpn h6 f1 f2 f3 f4 hf h0 hpe hce hok hof g1 g2
  go_enter Tryz.func4, Tryz.ntmps4
  go_wp2_with (first
    | (go_at_call 7; refine HAw.out.mono ?_; rintro e w1 ⟨rfl, hb⟩; have HB1 := Lib.hid (pt HB0.out hb); have R1 := Lib.hid (R0.out.past hb); have K1 := Lib.hid (K0.out.past hb); have S1 := Lib.hid (S0.out.past hb); clear hb; have x0 := R1.out.cellAt 0 rfl; have y0 := K1.out.cellAt 0 rfl; have y1 := K1.out.cellAt 1 rfl; have y2 := K1.out.cellAt 2 rfl; have s0 := S1.out.cellAt 0 rfl; have s1 := S1.out.cellAt 1 rfl; have xl := R1.out.lt; have yl := K1.out.lt; have sl_ := S1.out.lt)
    | (go_at_call 8; refine (HFe.out _ HB1.out).mono ?_; rintro e w2 ⟨rfl, hb⟩; have HB2 := Lib.hid (pt HB1.out hb); have R2 := Lib.hid (R1.out.past hb); have K2 := Lib.hid (K1.out.past hb); have S2 := Lib.hid (S1.out.past hb); clear x0 y0 y1 y2 s0 s1 xl yl sl_; clear hb; have x0 := R2.out.cellAt 0 rfl; have y0 := K2.out.cellAt 0 rfl; have y1 := K2.out.cellAt 1 rfl; have y2 := K2.out.cellAt 2 rfl; have s0 := S2.out.cellAt 0 rfl; have s1 := S2.out.cellAt 1 rfl; have xl := R2.out.lt; have yl := K2.out.lt; have sl_ := S2.out.lt))
  clear R0 R1 K0 K1 S0 S1 HB0 HB1 HAw HFe
  have HSS := Lib.hid (show ∀ W, Hid (Below w2.heap.size w2 W) → Hid (Below w2.heap.size w2 W) ∧ W.cell? ⟨w.heap.size, 0, none⟩ = some (.slice RA rn rc) ∧ W.cell? ⟨w.heap.size + 1, 0, none⟩ = some (.slice A n c) ∧ W.cell? ⟨w.heap.size + 1, 1, none⟩ = some (.int .i64 idle) ∧ W.cell? ⟨w.heap.size + 1, 2, none⟩ = some (.int .i64 price) ∧ W.cell? ⟨w.heap.size + 1 + 1, 0, none⟩ = some (.slice CA m cc) ∧ W.cell? ⟨w.heap.size + 1 + 1, 1, none⟩ = some (.slice PA pn pc) from fun W hW => ⟨hW, (R2.out.past hW.out).cellAt 0 rfl, (K2.out.past hW.out).cellAt 0 rfl, (K2.out.past hW.out).cellAt 1 rfl, (K2.out.past hW.out).cellAt 2 rfl, (S2.out.past hW.out).cellAt 0 rfl, (S2.out.past hW.out).cellAt 1 rfl⟩)
  clear x0 y0 y1 y2 s0 s1
  go_region_held3 (fun w' => Hid (Below w2.heap.size w2 w') ∧ w'.cell? ⟨w.heap.size, 0, none⟩ = some (.slice RA rn rc) ∧ w'.cell? ⟨w.heap.size + 1, 0, none⟩ = some (.slice A n c) ∧ w'.cell? ⟨w.heap.size + 1, 1, none⟩ = some (.int .i64 idle) ∧ w'.cell? ⟨w.heap.size + 1, 2, none⟩ = some (.int .i64 price) ∧ w'.cell? ⟨w.heap.size + 1 + 1, 0, none⟩ = some (.slice CA m cc) ∧ w'.cell? ⟨w.heap.size + 1 + 1, 1, none⟩ = some (.slice PA pn pc)) ((refine HSS.out _ (Lib.hid ?_); repeat (first | assumption | (with_reducible exact pr) | (with_reducible refine pd ?_) | (with_reducible refine pa ?_) | (with_reducible refine pt ?_ (by assumption)))))
    ((first
      | (go_at_call 12; (with_reducible refine (HCr.out _ (pd HB2.out)).mono ?_); rintro e w3 ⟨A3, c3, rfl, hs3, hb3⟩; have HS3 := Lib.hid hs3)
      | (go_at_call 13; (with_reducible refine (HCk.out _ (pt (pd HB2.out) hb3)).mono ?_); rintro e w4 ⟨A4, c4, rfl, hs4, hb4⟩; have HS4 := Lib.hid hs4)
      | (go_at_call 19; (with_reducible refine (HCp.out _ (pt (pt (pd HB2.out) hb3) hb4)).mono ?_); rintro e w5 ⟨A5, c5, rfl, hi5, hb5⟩; have HI5 := Lib.hid hi5)
      | (go_at_call 18; (with_reducible refine (HBd.out _ A3 c3 A4 c4 A5 c5 (HUn.out _ (pt (pt (pt (pd HB2.out) hb3) hb4) hb5)) ((HS3.out.past (Nat.le_refl _) hb4).past (Nat.le_refl _) hb5) (HS4.out.past (Nat.le_refl _) hb5) HI5.out).mono ?_); rintro e w6 ⟨rfl, hb6⟩)))
  have HB6 := Lib.hid (show Below w.heap.size w w6 from pt (pt (pt (pt (pd HB2.out) hb3) hb4) hb5) hb6)
  have HBl6 := Lib.hid (show Below w2.heap.size w2 w6 from pt (pt (pt (pt (pd pr) hb3) hb4) hb5) hb6)
  have R6 := Lib.hid (R2.out.past HBl6.out)
  have K6 := Lib.hid (K2.out.past HBl6.out)
  have S6 := Lib.hid (S2.out.past HBl6.out)
  clear HSS xl yl sl_ hb3 hb4 hb5 hb6 hs3 hs4 HS3 HS4 hi5 HI5 R2 K2 S2 HB2
  have x0 := R6.out.cellAt 0 rfl; have y0 := K6.out.cellAt 0 rfl; have y1 := K6.out.cellAt 1 rfl; have y2 := K6.out.cellAt 2 rfl; have s0 := S6.out.cellAt 0 rfl; have s1 := S6.out.cellAt 1 rfl; have xl := R6.out.lt; have yl := K6.out.lt; have sl_ := S6.out.lt
  go_wp2
  have HSS := Lib.hid (show ∀ W, Hid (Below w6.heap.size w6 W) → Hid (Below w6.heap.size w6 W) ∧ W.cell? ⟨w.heap.size, 0, none⟩ = some (.slice RA rn rc) ∧ W.cell? ⟨w.heap.size + 1, 0, none⟩ = some (.slice A n c) ∧ W.cell? ⟨w.heap.size + 1, 1, none⟩ = some (.int .i64 idle) ∧ W.cell? ⟨w.heap.size + 1, 2, none⟩ = some (.int .i64 price) ∧ W.cell? ⟨w.heap.size + 1 + 1, 0, none⟩ = some (.slice CA m cc) ∧ W.cell? ⟨w.heap.size + 1 + 1, 1, none⟩ = some (.slice PA pn pc) from fun W hW => ⟨hW, (R6.out.past hW.out).cellAt 0 rfl, (K6.out.past hW.out).cellAt 0 rfl, (K6.out.past hW.out).cellAt 1 rfl, (K6.out.past hW.out).cellAt 2 rfl, (S6.out.past hW.out).cellAt 0 rfl, (S6.out.past hW.out).cellAt 1 rfl⟩)
  clear x0 y0 y1 y2 s0 s1
  go_region_held3 (fun w' => Hid (Below w6.heap.size w6 w') ∧ w'.cell? ⟨w.heap.size, 0, none⟩ = some (.slice RA rn rc) ∧ w'.cell? ⟨w.heap.size + 1, 0, none⟩ = some (.slice A n c) ∧ w'.cell? ⟨w.heap.size + 1, 1, none⟩ = some (.int .i64 idle) ∧ w'.cell? ⟨w.heap.size + 1, 2, none⟩ = some (.int .i64 price) ∧ w'.cell? ⟨w.heap.size + 1 + 1, 0, none⟩ = some (.slice CA m cc) ∧ w'.cell? ⟨w.heap.size + 1 + 1, 1, none⟩ = some (.slice PA pn pc)) ((refine HSS.out _ (Lib.hid ?_); repeat (first | assumption | (with_reducible exact pr) | (with_reducible refine pd ?_) | (with_reducible refine pa ?_) | (with_reducible refine pt ?_ (by assumption)))))
    ((first
      | (go_at_call 12; (with_reducible refine (HCr.out _ (pd HB6.out)).mono ?_); rintro e w7 ⟨A7, c7, rfl, hs7, hb7⟩; have HS7 := Lib.hid hs7)
      | (go_at_call 13; (with_reducible refine (HCk.out _ (pt (pd HB6.out) hb7)).mono ?_); rintro e w8 ⟨A8, c8, rfl, hs8, hb8⟩; have HS8 := Lib.hid hs8)
      | (go_at_call 19; (with_reducible refine (HCi.out _ (pt (pt (pd HB6.out) hb7) hb8)).mono ?_); rintro e w9 ⟨A9, c9, rfl, hi9, hb9⟩; have HI9 := Lib.hid hi9)
      | (go_at_call 19; (with_reducible refine (HCp.out _ (pt (pt (pt (pd HB6.out) hb7) hb8) hb9)).mono ?_); rintro e w10 ⟨A10, c10, rfl, hi10, hb10⟩; have HI10 := Lib.hid hi10)
      | (go_at_call 20; (with_reducible refine (HGa.out _ A7 c7 A8 c8 A9 c9 A10 c10 (HUn.out _ (pt (pt (pt (pt (pd HB6.out) hb7) hb8) hb9) hb10)) (((HS7.out.past (Nat.le_refl _) hb8).past (Nat.le_refl _) hb9).past (Nat.le_refl _) hb10) ((HS8.out.past (Nat.le_refl _) hb9).past (Nat.le_refl _) hb10) ((HI9.out.below hb10).more hb10.size) HI10.out).mono ?_); rintro e w11 ⟨rfl, hb11⟩)))
  have HB11 := Lib.hid (show Below w.heap.size w w11 from pt (pt (pt (pt (pt (pd HB6.out) hb7) hb8) hb9) hb10) hb11)
  have HBl11 := Lib.hid (show Below w6.heap.size w6 w11 from pt (pt (pt (pt (pt (pd pr) hb7) hb8) hb9) hb10) hb11)
  have R11 := Lib.hid (R6.out.past HBl11.out)
  have K11 := Lib.hid (K6.out.past HBl11.out)
  have S11 := Lib.hid (S6.out.past HBl11.out)
  clear HSS xl yl sl_ hb7 hb8 hb9 hb10 hb11 hs7 hs8 HS7 HS8 hi9 HI9 hi10 HI10 R6 K6 S6 HB6
  have x0 := R11.out.cellAt 0 rfl; have y0 := K11.out.cellAt 0 rfl; have y1 := K11.out.cellAt 1 rfl; have y2 := K11.out.cellAt 2 rfl; have s0 := S11.out.cellAt 0 rfl; have s1 := S11.out.cellAt 1 rfl; have xl := R11.out.lt; have yl := K11.out.lt; have sl_ := S11.out.lt
  go_wp2_with (first
    | (go_at_call 9; refine (HBo.out _ HB11.out).mono ?_; rintro e w12 ⟨rfl, hb⟩; have HB12 := Lib.hid (pt HB11.out hb); have R12 := Lib.hid (R11.out.past hb); have K12 := Lib.hid (K11.out.past hb); have S12 := Lib.hid (S11.out.past hb); clear x0 y0 y1 y2 s0 s1 xl yl sl_; clear hb; have x0 := R12.out.cellAt 0 rfl; have y0 := K12.out.cellAt 0 rfl; have y1 := K12.out.cellAt 1 rfl; have y2 := K12.out.cellAt 2 rfl; have s0 := S12.out.cellAt 0 rfl; have s1 := S12.out.cellAt 1 rfl; have xl := R12.out.lt; have yl := K12.out.lt; have sl_ := S12.out.lt)
    | (go_at_call 21; refine (HRp.out _ HB12.out).mono ?_; rintro e w13 ⟨rfl, hb⟩; have HB13 := Lib.hid (pt HB12.out hb); have R13 := Lib.hid (R12.out.past hb); have K13 := Lib.hid (K12.out.past hb); have S13 := Lib.hid (S12.out.past hb); clear x0 y0 y1 y2 s0 s1 xl yl sl_; clear hb; have x0 := R13.out.cellAt 0 rfl; have y0 := K13.out.cellAt 0 rfl; have y1 := K13.out.cellAt 1 rfl; have y2 := K13.out.cellAt 2 rfl; have s0 := S13.out.cellAt 0 rfl; have s1 := S13.out.cellAt 1 rfl; have xl := R13.out.lt; have yl := K13.out.lt; have sl_ := S13.out.lt)
    | (go_at_call 23; refine (HRc.out _ HB13.out).mono ?_; rintro e w14 ⟨rfl, hb⟩; have HB14 := Lib.hid (pt HB13.out hb); have R14 := Lib.hid (R13.out.past hb); have K14 := Lib.hid (K13.out.past hb); have S14 := Lib.hid (S13.out.past hb); clear x0 y0 y1 y2 s0 s1 xl yl sl_; clear hb; have x0 := R14.out.cellAt 0 rfl; have y0 := K14.out.cellAt 0 rfl; have y1 := K14.out.cellAt 1 rfl; have y2 := K14.out.cellAt 2 rfl; have s0 := S14.out.cellAt 0 rfl; have s1 := S14.out.cellAt 1 rfl; have xl := R14.out.lt; have yl := K14.out.lt; have sl_ := S14.out.lt))
  go_ret
  exact ⟨rfl, HB14.out⟩

set_option maxRecDepth 100000 in
set_option maxHeartbeats 16000000 in
theorem bounds_b3 (B : Nat) (rs : List DReq) (RA : Option Addr) (rn rc : Nat) (sl : List (List DPart)) (A : Option Addr) (n c : Nat) (idle price : Int) (ch : List Int) (CA : Option Addr) (m cc : Nat) (ps : List Int) (PA : Option Addr) (pn pc : Nat) (w : World) (hU : UnitIn w) (hQ : TabS 1 qWords w) (hW : TabS 0 uWords w) (hrr : ReqsIn B w RA rs) (hr : SlotsIn B w A sl) (hc : IntsIn B w CA ch) (hm : ch.length = m) (hp : IntsIn B w PA ps) (hpn : ps.length = pn) (hB : B ≤ w.heap.size) (hrn : rs.length = rn) (hn : sl.length = n) (h6 : Six sl) (hf : FewP rs sl) (h8 : pn ≤ 8) (h9 : m ≤ 8) (h0 : openE rs idle price sl = 0) (hpe : pricesE rs.length ps = 0) (hce : choiceE sl ch ≠ 0) :
    Calls Tryz.prog 4 #[.agg #[.slice RA rn rc], .agg #[.slice A n c, .int .i64 idle, .int .i64 price], .agg #[.slice CA m cc, .slice PA pn pc]] w fun e w' => e = .returned (.bool true) ∧ Below w.heap.size w w' := by
  obtain ⟨f1, f2, f3, f4⟩ := few_bd2 hf
  have hn7 : n ≤ 7 := by omega
  have hr8 : rn ≤ 8 := by omega
  have HAw := Lib.hid (awake_any (((w.alloc (.cells #[.slice RA rn rc] 24)).alloc (.cells #[.slice A n c, .int .i64 idle, .int .i64 price] 27)).alloc (.cells #[.slice CA m cc, .slice PA pn pc] 46)) (hU.below (pa (pa (pa pr)))) (hQ.below (pa (pa (pa pr)))) (hW.below (pa (pa (pa pr)))))
  have HFe := Lib.hid (fun W (hW : Below w.heap.size w W) => (show Calls Tryz.prog 8 #[.agg #[.slice RA rn rc], .agg #[.slice A n c, .int .i64 idle, .int .i64 price]] W fun e w' => e = .returned (.bool true) ∧ Below W.heap.size W w' from (few_any B rs RA rn rc sl A n c idle price W (hrr.below (hW.mono hB)) (hr.below (hW.mono hB)) (Nat.le_trans hB hW.size) hrn hn).mono fun e w' h => by
    obtain ⟨⟨f, rfl, hfi⟩, hb⟩ := h
    cases f
    · exact absurd (hfi.2 hf) (by decide)
    · exact ⟨rfl, hb⟩))
  have HCk := Lib.hid (fun W (hW : Below w.heap.size w W) => (show Calls Tryz.prog 13 #[.agg #[.slice A n c, .int .i64 idle, .int .i64 price]] W fun e w' => ∃ A2 c2, e = .returned (.agg #[.slice A2 n c2, .int .i64 idle, .int .i64 price]) ∧ SlotsIn w'.heap.size w' A2 sl ∧ Below W.heap.size W w' from (copyStock_any B sl A n c idle price W (hr.below (hW.mono hB)) (Nat.le_trans hB hW.size) hn (by omega) (fun l hl => (f4 l hl).1)).mono fun e w' h => by
    obtain ⟨A2, c2, rfl, h2, _, h3⟩ := h
    rw [hn]
    exact ⟨A2, c2, rfl, h2, h3⟩))
  have HCr := Lib.hid (fun W (hW : Below w.heap.size w W) => (show Calls Tryz.prog 12 #[.agg #[.slice RA rn rc]] W fun e w' => ∃ A2 c2, e = .returned (.agg #[.slice A2 rn c2]) ∧ ReqsIn w'.heap.size w' A2 rs ∧ Below W.heap.size W w' from (copySpec_any B rs RA rn rc W (hrr.below (hW.mono hB)) (Nat.le_trans hB hW.size) hrn (by omega) f2).mono fun e w' h => by
    obtain ⟨A2, c2, rfl, h2, _, h3⟩ := h
    rw [hrn]
    exact ⟨A2, c2, rfl, h2, h3⟩))
  have HCi := Lib.hid (fun W (hW : Below w.heap.size w W) => (copyInts_any B CA m cc ch W (hc.below (hW.mono hB)) hm (Nat.le_trans hB hW.size) (by omega)).mono (fun _ _ h => copy_formC h))
  rw [hm] at HCi
  have HCp := Lib.hid (fun W (hW : Below w.heap.size w W) => (copyInts_any B PA pn pc ps W (hp.below (hW.mono hB)) hpn (Nat.le_trans hB hW.size) (by omega)).mono (fun _ _ h => copy_formC h))
  rw [hpn] at HCp
  have HBo := Lib.hid (fun W (hW : Below w.heap.size w W) => bothErr_any B rs RA rn rc sl A n c idle price W (hrr.below (hW.mono hB)) (hr.below (hW.mono hB)) (Nat.le_trans hB hW.size) hrn hn (by omega) f2 f4)
  have HUn := Lib.hid (fun W (hW' : Below w.heap.size w W) => hU.below hW')
  have HBd := Lib.hid (fun (W : World) A1 c1 A2 c2 A3 c3 (hU : UnitIn W) (h0 : ReqsIn W.heap.size W A1 rs) (h : SlotsIn W.heap.size W A2 sl) (h' : IntsIn W.heap.size W A3 ps) => boundOf_any W.heap.size rs A1 rn c1 sl A2 n c2 idle price ps A3 pn c3 W h0 h h' (Nat.le_refl _) hrn (by omega) f2 hU hn (by omega) f4 hpn (by omega) (openE_ok h6))
  have HGa := Lib.hid (fun (W : World) A1 c1 A2 c2 A3 c3 A4 c4 (hU : UnitIn W) (h0 : ReqsIn W.heap.size W A1 rs) (h : SlotsIn W.heap.size W A2 sl) (h' : IntsIn W.heap.size W A3 ch) (h'' : IntsIn W.heap.size W A4 ps) => gapOf_any W.heap.size rs A1 rn c1 sl A2 n c2 idle price ch A3 m c3 ps A4 pn c4 W h0 h h' h'' (Nat.le_refl _) hrn (by omega) f2 hU hn (by omega) f4 hm hpn (by omega) h6)
  have hok := openE_ok h6 h0
  have hof := offE_good (ch := ch) (ps := ps) h0
  rw [if_pos hce] at hof
  obtain ⟨g1, g2⟩ := gapE_off (ch := ch) (ps := ps) (by rw [hof]; exact hce)
  rw [hof] at g1
  rw [g1, g2] at HGa
  rw [boundE_good h0, hpe, if_pos rfl] at HBd
  rw [h0] at HBo
  have HRp := Lib.hid (fun W (hW : Below w.heap.size w W) => refPricesErr_any B RA rn rc ps PA pn pc W (hp.below (hW.mono hB)) (Nat.le_trans hB hW.size) hpn (by omega))
  rw [show pricesE rn ps = 0 from by rw [← hrn]; exact hpe] at HRp
  have HRc := Lib.hid (fun W (hW : Below w.heap.size w W) => refChoiceErr_any B sl A n c idle price ch CA m cc W (hr.below (hW.mono hB)) (hc.below (hW.mono hB)) (Nat.le_trans hB hW.size) hn hm (by omega) (fun l hl => (f4 l hl).1))
  have hpo := prices_ok hpe
  have hpr : rn = pn := by rw [← hpn, hpo.1, hrn]
  subst hpr
  have HRb := Lib.hid (fun W (hW : Below w.heap.size w W) => refBoundOf_any B rs RA rn rc sl A n c idle price ps PA pc W (hrr.below (hW.mono hB)) (hr.below (hW.mono hB)) (hp.below (hW.mono hB)) (Nat.le_trans hB hW.size) hrn (by rw [← hrn]; exact hok.n) hn hpn hok.s hok.r hpo.2 hok.i hok.p)
  generalize boundV idle price rs ps sl = bv at *
  have z4 : (choiceE sl ch != 0) = true := by simpa using hce
  have z5 : (choiceE sl ch == 0) = false := by simpa using hce
  generalize choiceE sl ch = C at *
  have HB0 := Lib.hid (show Below w.heap.size w (((w.alloc (.cells #[.slice RA rn rc] 24)).alloc (.cells #[.slice A n c, .int .i64 idle, .int .i64 price] 27)).alloc (.cells #[.slice CA m cc, .slice PA rn pc] 46)) from pa (pa (pa pr)))
  have R0 := Lib.hid (show Blk (((w.alloc (.cells #[.slice RA rn rc] 24)).alloc (.cells #[.slice A n c, .int .i64 idle, .int .i64 price] 27)).alloc (.cells #[.slice CA m cc, .slice PA rn pc] 46)) w.heap.size 24 #[.slice RA rn rc] from ((Blk.newAt rfl).alloc).alloc)
  have K0 := Lib.hid (show Blk (((w.alloc (.cells #[.slice RA rn rc] 24)).alloc (.cells #[.slice A n c, .int .i64 idle, .int .i64 price] 27)).alloc (.cells #[.slice CA m cc, .slice PA rn pc] 46)) (w.heap.size + 1) 27 #[.slice A n c, .int .i64 idle, .int .i64 price] from (Blk.newAt (by simp)).alloc)
  have S0 := Lib.hid (show Blk (((w.alloc (.cells #[.slice RA rn rc] 24)).alloc (.cells #[.slice A n c, .int .i64 idle, .int .i64 price] 27)).alloc (.cells #[.slice CA m cc, .slice PA rn pc] 46)) (w.heap.size + 1 + 1) 46 #[.slice CA m cc, .slice PA rn pc] from Blk.newAt (by simp))
  clear hU hQ hW hrr hr hn hrn hc hm hp hpn h6 f1 f2 f3 f4 hf h0 hpe hce hok hof g1 g2 hpo
  go_enter Tryz.func4, Tryz.ntmps4
  go_wp2_with (first
    | (go_at_call 7; refine HAw.out.mono ?_; rintro e w1 ⟨rfl, hb⟩; have HB1 := Lib.hid (pt HB0.out hb); have R1 := Lib.hid (R0.out.past hb); have K1 := Lib.hid (K0.out.past hb); have S1 := Lib.hid (S0.out.past hb); clear hb; have x0 := R1.out.cellAt 0 rfl; have y0 := K1.out.cellAt 0 rfl; have y1 := K1.out.cellAt 1 rfl; have y2 := K1.out.cellAt 2 rfl; have s0 := S1.out.cellAt 0 rfl; have s1 := S1.out.cellAt 1 rfl; have xl := R1.out.lt; have yl := K1.out.lt; have sl_ := S1.out.lt)
    | (go_at_call 8; refine (HFe.out _ HB1.out).mono ?_; rintro e w2 ⟨rfl, hb⟩; have HB2 := Lib.hid (pt HB1.out hb); have R2 := Lib.hid (R1.out.past hb); have K2 := Lib.hid (K1.out.past hb); have S2 := Lib.hid (S1.out.past hb); clear x0 y0 y1 y2 s0 s1 xl yl sl_; clear hb; have x0 := R2.out.cellAt 0 rfl; have y0 := K2.out.cellAt 0 rfl; have y1 := K2.out.cellAt 1 rfl; have y2 := K2.out.cellAt 2 rfl; have s0 := S2.out.cellAt 0 rfl; have s1 := S2.out.cellAt 1 rfl; have xl := R2.out.lt; have yl := K2.out.lt; have sl_ := S2.out.lt))
  clear R0 R1 K0 K1 S0 S1 HB0 HB1 HAw HFe
  have HSS := Lib.hid (show ∀ W, Hid (Below w2.heap.size w2 W) → Hid (Below w2.heap.size w2 W) ∧ W.cell? ⟨w.heap.size, 0, none⟩ = some (.slice RA rn rc) ∧ W.cell? ⟨w.heap.size + 1, 0, none⟩ = some (.slice A n c) ∧ W.cell? ⟨w.heap.size + 1, 1, none⟩ = some (.int .i64 idle) ∧ W.cell? ⟨w.heap.size + 1, 2, none⟩ = some (.int .i64 price) ∧ W.cell? ⟨w.heap.size + 1 + 1, 0, none⟩ = some (.slice CA m cc) ∧ W.cell? ⟨w.heap.size + 1 + 1, 1, none⟩ = some (.slice PA rn pc) from fun W hW => ⟨hW, (R2.out.past hW.out).cellAt 0 rfl, (K2.out.past hW.out).cellAt 0 rfl, (K2.out.past hW.out).cellAt 1 rfl, (K2.out.past hW.out).cellAt 2 rfl, (S2.out.past hW.out).cellAt 0 rfl, (S2.out.past hW.out).cellAt 1 rfl⟩)
  clear x0 y0 y1 y2 s0 s1
  go_region_held3 (fun w' => Hid (Below w2.heap.size w2 w') ∧ w'.cell? ⟨w.heap.size, 0, none⟩ = some (.slice RA rn rc) ∧ w'.cell? ⟨w.heap.size + 1, 0, none⟩ = some (.slice A n c) ∧ w'.cell? ⟨w.heap.size + 1, 1, none⟩ = some (.int .i64 idle) ∧ w'.cell? ⟨w.heap.size + 1, 2, none⟩ = some (.int .i64 price) ∧ w'.cell? ⟨w.heap.size + 1 + 1, 0, none⟩ = some (.slice CA m cc) ∧ w'.cell? ⟨w.heap.size + 1 + 1, 1, none⟩ = some (.slice PA rn pc)) ((refine HSS.out _ (Lib.hid ?_); repeat (first | assumption | (with_reducible exact pr) | (with_reducible refine pd ?_) | (with_reducible refine pa ?_) | (with_reducible refine pt ?_ (by assumption)))))
    ((first
      | (go_at_call 12; (with_reducible refine (HCr.out _ (pd HB2.out)).mono ?_); rintro e w3 ⟨A3, c3, rfl, hs3, hb3⟩; have HS3 := Lib.hid hs3)
      | (go_at_call 13; (with_reducible refine (HCk.out _ (pt (pd HB2.out) hb3)).mono ?_); rintro e w4 ⟨A4, c4, rfl, hs4, hb4⟩; have HS4 := Lib.hid hs4)
      | (go_at_call 19; (with_reducible refine (HCp.out _ (pt (pt (pd HB2.out) hb3) hb4)).mono ?_); rintro e w5 ⟨A5, c5, rfl, hi5, hb5⟩; have HI5 := Lib.hid hi5)
      | (go_at_call 18; (with_reducible refine (HBd.out _ A3 c3 A4 c4 A5 c5 (HUn.out _ (pt (pt (pt (pd HB2.out) hb3) hb4) hb5)) ((HS3.out.past (Nat.le_refl _) hb4).past (Nat.le_refl _) hb5) (HS4.out.past (Nat.le_refl _) hb5) HI5.out).mono ?_); rintro e w6 ⟨rfl, hb6⟩)))
  have HB6 := Lib.hid (show Below w.heap.size w w6 from pt (pt (pt (pt (pd HB2.out) hb3) hb4) hb5) hb6)
  have HBl6 := Lib.hid (show Below w2.heap.size w2 w6 from pt (pt (pt (pt (pd pr) hb3) hb4) hb5) hb6)
  have R6 := Lib.hid (R2.out.past HBl6.out)
  have K6 := Lib.hid (K2.out.past HBl6.out)
  have S6 := Lib.hid (S2.out.past HBl6.out)
  clear HSS xl yl sl_ hb3 hb4 hb5 hb6 hs3 hs4 HS3 HS4 hi5 HI5 R2 K2 S2 HB2
  have x0 := R6.out.cellAt 0 rfl; have y0 := K6.out.cellAt 0 rfl; have y1 := K6.out.cellAt 1 rfl; have y2 := K6.out.cellAt 2 rfl; have s0 := S6.out.cellAt 0 rfl; have s1 := S6.out.cellAt 1 rfl; have xl := R6.out.lt; have yl := K6.out.lt; have sl_ := S6.out.lt
  go_wp2
  have HSS := Lib.hid (show ∀ W, Hid (Below w6.heap.size w6 W) → Hid (Below w6.heap.size w6 W) ∧ W.cell? ⟨w.heap.size, 0, none⟩ = some (.slice RA rn rc) ∧ W.cell? ⟨w.heap.size + 1, 0, none⟩ = some (.slice A n c) ∧ W.cell? ⟨w.heap.size + 1, 1, none⟩ = some (.int .i64 idle) ∧ W.cell? ⟨w.heap.size + 1, 2, none⟩ = some (.int .i64 price) ∧ W.cell? ⟨w.heap.size + 1 + 1, 0, none⟩ = some (.slice CA m cc) ∧ W.cell? ⟨w.heap.size + 1 + 1, 1, none⟩ = some (.slice PA rn pc) from fun W hW => ⟨hW, (R6.out.past hW.out).cellAt 0 rfl, (K6.out.past hW.out).cellAt 0 rfl, (K6.out.past hW.out).cellAt 1 rfl, (K6.out.past hW.out).cellAt 2 rfl, (S6.out.past hW.out).cellAt 0 rfl, (S6.out.past hW.out).cellAt 1 rfl⟩)
  clear x0 y0 y1 y2 s0 s1
  go_region_held3 (fun w' => Hid (Below w6.heap.size w6 w') ∧ w'.cell? ⟨w.heap.size, 0, none⟩ = some (.slice RA rn rc) ∧ w'.cell? ⟨w.heap.size + 1, 0, none⟩ = some (.slice A n c) ∧ w'.cell? ⟨w.heap.size + 1, 1, none⟩ = some (.int .i64 idle) ∧ w'.cell? ⟨w.heap.size + 1, 2, none⟩ = some (.int .i64 price) ∧ w'.cell? ⟨w.heap.size + 1 + 1, 0, none⟩ = some (.slice CA m cc) ∧ w'.cell? ⟨w.heap.size + 1 + 1, 1, none⟩ = some (.slice PA rn pc)) ((refine HSS.out _ (Lib.hid ?_); repeat (first | assumption | (with_reducible exact pr) | (with_reducible refine pd ?_) | (with_reducible refine pa ?_) | (with_reducible refine pt ?_ (by assumption)))))
    ((first
      | (go_at_call 12; (with_reducible refine (HCr.out _ (pd HB6.out)).mono ?_); rintro e w7 ⟨A7, c7, rfl, hs7, hb7⟩; have HS7 := Lib.hid hs7)
      | (go_at_call 13; (with_reducible refine (HCk.out _ (pt (pd HB6.out) hb7)).mono ?_); rintro e w8 ⟨A8, c8, rfl, hs8, hb8⟩; have HS8 := Lib.hid hs8)
      | (go_at_call 19; (with_reducible refine (HCi.out _ (pt (pt (pd HB6.out) hb7) hb8)).mono ?_); rintro e w9 ⟨A9, c9, rfl, hi9, hb9⟩; have HI9 := Lib.hid hi9)
      | (go_at_call 19; (with_reducible refine (HCp.out _ (pt (pt (pt (pd HB6.out) hb7) hb8) hb9)).mono ?_); rintro e w10 ⟨A10, c10, rfl, hi10, hb10⟩; have HI10 := Lib.hid hi10)
      | (go_at_call 20; (with_reducible refine (HGa.out _ A7 c7 A8 c8 A9 c9 A10 c10 (HUn.out _ (pt (pt (pt (pt (pd HB6.out) hb7) hb8) hb9) hb10)) (((HS7.out.past (Nat.le_refl _) hb8).past (Nat.le_refl _) hb9).past (Nat.le_refl _) hb10) ((HS8.out.past (Nat.le_refl _) hb9).past (Nat.le_refl _) hb10) ((HI9.out.below hb10).more hb10.size) HI10.out).mono ?_); rintro e w11 ⟨rfl, hb11⟩)))
  have HB11 := Lib.hid (show Below w.heap.size w w11 from pt (pt (pt (pt (pt (pd HB6.out) hb7) hb8) hb9) hb10) hb11)
  have HBl11 := Lib.hid (show Below w6.heap.size w6 w11 from pt (pt (pt (pt (pt (pd pr) hb7) hb8) hb9) hb10) hb11)
  have R11 := Lib.hid (R6.out.past HBl11.out)
  have K11 := Lib.hid (K6.out.past HBl11.out)
  have S11 := Lib.hid (S6.out.past HBl11.out)
  clear HSS xl yl sl_ hb7 hb8 hb9 hb10 hb11 hs7 hs8 HS7 HS8 hi9 HI9 hi10 HI10 R6 K6 S6 HB6
  have x0 := R11.out.cellAt 0 rfl; have y0 := K11.out.cellAt 0 rfl; have y1 := K11.out.cellAt 1 rfl; have y2 := K11.out.cellAt 2 rfl; have s0 := S11.out.cellAt 0 rfl; have s1 := S11.out.cellAt 1 rfl; have xl := R11.out.lt; have yl := K11.out.lt; have sl_ := S11.out.lt
  go_wp2_with (first
    | (go_at_call 9; refine (HBo.out _ HB11.out).mono ?_; rintro e w12 ⟨rfl, hb⟩; have HB12 := Lib.hid (pt HB11.out hb); have R12 := Lib.hid (R11.out.past hb); have K12 := Lib.hid (K11.out.past hb); have S12 := Lib.hid (S11.out.past hb); clear x0 y0 y1 y2 s0 s1 xl yl sl_; clear hb; have x0 := R12.out.cellAt 0 rfl; have y0 := K12.out.cellAt 0 rfl; have y1 := K12.out.cellAt 1 rfl; have y2 := K12.out.cellAt 2 rfl; have s0 := S12.out.cellAt 0 rfl; have s1 := S12.out.cellAt 1 rfl; have xl := R12.out.lt; have yl := K12.out.lt; have sl_ := S12.out.lt)
    | (go_at_call 21; refine (HRp.out _ HB12.out).mono ?_; rintro e w13 ⟨rfl, hb⟩; have HB13 := Lib.hid (pt HB12.out hb); have R13 := Lib.hid (R12.out.past hb); have K13 := Lib.hid (K12.out.past hb); have S13 := Lib.hid (S12.out.past hb); clear x0 y0 y1 y2 s0 s1 xl yl sl_; clear hb; have x0 := R13.out.cellAt 0 rfl; have y0 := K13.out.cellAt 0 rfl; have y1 := K13.out.cellAt 1 rfl; have y2 := K13.out.cellAt 2 rfl; have s0 := S13.out.cellAt 0 rfl; have s1 := S13.out.cellAt 1 rfl; have xl := R13.out.lt; have yl := K13.out.lt; have sl_ := S13.out.lt)
    | (go_at_call 22; refine (HRb.out _ HB13.out).mono ?_; rintro e w14 ⟨rfl, hb⟩; have HB14 := Lib.hid (pt HB13.out hb); have R14 := Lib.hid (R13.out.past hb); have K14 := Lib.hid (K13.out.past hb); have S14 := Lib.hid (S13.out.past hb); clear x0 y0 y1 y2 s0 s1 xl yl sl_; clear hb; have x0 := R14.out.cellAt 0 rfl; have y0 := K14.out.cellAt 0 rfl; have y1 := K14.out.cellAt 1 rfl; have y2 := K14.out.cellAt 2 rfl; have s0 := S14.out.cellAt 0 rfl; have s1 := S14.out.cellAt 1 rfl; have xl := R14.out.lt; have yl := K14.out.lt; have sl_ := S14.out.lt)
    | (go_at_call 23; refine (HRc.out _ HB14.out).mono ?_; rintro e w15 ⟨rfl, hb⟩; have HB15 := Lib.hid (pt HB14.out hb); have R15 := Lib.hid (R14.out.past hb); have K15 := Lib.hid (K14.out.past hb); have S15 := Lib.hid (S14.out.past hb); clear x0 y0 y1 y2 s0 s1 xl yl sl_; clear hb; have x0 := R15.out.cellAt 0 rfl; have y0 := K15.out.cellAt 0 rfl; have y1 := K15.out.cellAt 1 rfl; have y2 := K15.out.cellAt 2 rfl; have s0 := S15.out.cellAt 0 rfl; have s1 := S15.out.cellAt 1 rfl; have xl := R15.out.lt; have yl := K15.out.lt; have sl_ := S15.out.lt))
  go_ret
  exact ⟨rfl, HB15.out⟩

set_option maxRecDepth 100000 in
set_option maxHeartbeats 16000000 in
theorem bounds_b4 (B : Nat) (rs : List DReq) (RA : Option Addr) (rn rc : Nat) (sl : List (List DPart)) (A : Option Addr) (n c : Nat) (idle price : Int) (ch : List Int) (CA : Option Addr) (m cc : Nat) (ps : List Int) (PA : Option Addr) (pn pc : Nat) (w : World) (hU : UnitIn w) (hQ : TabS 1 qWords w) (hW : TabS 0 uWords w) (hrr : ReqsIn B w RA rs) (hr : SlotsIn B w A sl) (hc : IntsIn B w CA ch) (hm : ch.length = m) (hp : IntsIn B w PA ps) (hpn : ps.length = pn) (hB : B ≤ w.heap.size) (hrn : rs.length = rn) (hn : sl.length = n) (h6 : Six sl) (hf : FewP rs sl) (h8 : pn ≤ 8) (h9 : m ≤ 8) (h0 : openE rs idle price sl = 0) (hpe : pricesE rs.length ps = 0) (hce : choiceE sl ch = 0) (hmv : meetsV rs sl ch ≠ 2) :
    Calls Tryz.prog 4 #[.agg #[.slice RA rn rc], .agg #[.slice A n c, .int .i64 idle, .int .i64 price], .agg #[.slice CA m cc, .slice PA pn pc]] w fun e w' => e = .returned (.bool true) ∧ Below w.heap.size w w' := by
  obtain ⟨f1, f2, f3, f4⟩ := few_bd2 hf
  have hn7 : n ≤ 7 := by omega
  have hr8 : rn ≤ 8 := by omega
  have HAw := Lib.hid (awake_any (((w.alloc (.cells #[.slice RA rn rc] 24)).alloc (.cells #[.slice A n c, .int .i64 idle, .int .i64 price] 27)).alloc (.cells #[.slice CA m cc, .slice PA pn pc] 46)) (hU.below (pa (pa (pa pr)))) (hQ.below (pa (pa (pa pr)))) (hW.below (pa (pa (pa pr)))))
  have HFe := Lib.hid (fun W (hW : Below w.heap.size w W) => (show Calls Tryz.prog 8 #[.agg #[.slice RA rn rc], .agg #[.slice A n c, .int .i64 idle, .int .i64 price]] W fun e w' => e = .returned (.bool true) ∧ Below W.heap.size W w' from (few_any B rs RA rn rc sl A n c idle price W (hrr.below (hW.mono hB)) (hr.below (hW.mono hB)) (Nat.le_trans hB hW.size) hrn hn).mono fun e w' h => by
    obtain ⟨⟨f, rfl, hfi⟩, hb⟩ := h
    cases f
    · exact absurd (hfi.2 hf) (by decide)
    · exact ⟨rfl, hb⟩))
  have HCk := Lib.hid (fun W (hW : Below w.heap.size w W) => (show Calls Tryz.prog 13 #[.agg #[.slice A n c, .int .i64 idle, .int .i64 price]] W fun e w' => ∃ A2 c2, e = .returned (.agg #[.slice A2 n c2, .int .i64 idle, .int .i64 price]) ∧ SlotsIn w'.heap.size w' A2 sl ∧ Below W.heap.size W w' from (copyStock_any B sl A n c idle price W (hr.below (hW.mono hB)) (Nat.le_trans hB hW.size) hn (by omega) (fun l hl => (f4 l hl).1)).mono fun e w' h => by
    obtain ⟨A2, c2, rfl, h2, _, h3⟩ := h
    rw [hn]
    exact ⟨A2, c2, rfl, h2, h3⟩))
  have HCr := Lib.hid (fun W (hW : Below w.heap.size w W) => (show Calls Tryz.prog 12 #[.agg #[.slice RA rn rc]] W fun e w' => ∃ A2 c2, e = .returned (.agg #[.slice A2 rn c2]) ∧ ReqsIn w'.heap.size w' A2 rs ∧ Below W.heap.size W w' from (copySpec_any B rs RA rn rc W (hrr.below (hW.mono hB)) (Nat.le_trans hB hW.size) hrn (by omega) f2).mono fun e w' h => by
    obtain ⟨A2, c2, rfl, h2, _, h3⟩ := h
    rw [hrn]
    exact ⟨A2, c2, rfl, h2, h3⟩))
  have HCi := Lib.hid (fun W (hW : Below w.heap.size w W) => (copyInts_any B CA m cc ch W (hc.below (hW.mono hB)) hm (Nat.le_trans hB hW.size) (by omega)).mono (fun _ _ h => copy_formC h))
  rw [hm] at HCi
  have HCp := Lib.hid (fun W (hW : Below w.heap.size w W) => (copyInts_any B PA pn pc ps W (hp.below (hW.mono hB)) hpn (Nat.le_trans hB hW.size) (by omega)).mono (fun _ _ h => copy_formC h))
  rw [hpn] at HCp
  have HBo := Lib.hid (fun W (hW : Below w.heap.size w W) => bothErr_any B rs RA rn rc sl A n c idle price W (hrr.below (hW.mono hB)) (hr.below (hW.mono hB)) (Nat.le_trans hB hW.size) hrn hn (by omega) f2 f4)
  have HUn := Lib.hid (fun W (hW' : Below w.heap.size w W) => hU.below hW')
  have HBd := Lib.hid (fun (W : World) A1 c1 A2 c2 A3 c3 (hU : UnitIn W) (h0 : ReqsIn W.heap.size W A1 rs) (h : SlotsIn W.heap.size W A2 sl) (h' : IntsIn W.heap.size W A3 ps) => boundOf_any W.heap.size rs A1 rn c1 sl A2 n c2 idle price ps A3 pn c3 W h0 h h' (Nat.le_refl _) hrn (by omega) f2 hU hn (by omega) f4 hpn (by omega) (openE_ok h6))
  have HGa := Lib.hid (fun (W : World) A1 c1 A2 c2 A3 c3 A4 c4 (hU : UnitIn W) (h0 : ReqsIn W.heap.size W A1 rs) (h : SlotsIn W.heap.size W A2 sl) (h' : IntsIn W.heap.size W A3 ch) (h'' : IntsIn W.heap.size W A4 ps) => gapOf_any W.heap.size rs A1 rn c1 sl A2 n c2 idle price ch A3 m c3 ps A4 pn c4 W h0 h h' h'' (Nat.le_refl _) hrn (by omega) f2 hU hn (by omega) f4 hm hpn (by omega) h6)
  have hok := openE_ok h6 h0
  have hof := offE_good (ch := ch) (ps := ps) h0
  rw [if_neg (by simpa using hce), hpe] at hof
  obtain ⟨g1, g2⟩ := gapE_no (ch := ch) (ps := ps) hof hmv
  rw [g1, g2] at HGa
  rw [boundE_good h0, hpe, if_pos rfl] at HBd
  rw [h0] at HBo
  have HRp := Lib.hid (fun W (hW : Below w.heap.size w W) => refPricesErr_any B RA rn rc ps PA pn pc W (hp.below (hW.mono hB)) (Nat.le_trans hB hW.size) hpn (by omega))
  rw [show pricesE rn ps = 0 from by rw [← hrn]; exact hpe] at HRp
  have HRc := Lib.hid (fun W (hW : Below w.heap.size w W) => refChoiceErr_any B sl A n c idle price ch CA m cc W (hr.below (hW.mono hB)) (hc.below (hW.mono hB)) (Nat.le_trans hB hW.size) hn hm (by omega) (fun l hl => (f4 l hl).1))
  rw [hce] at HRc
  have hpo := prices_ok hpe
  have hpr : rn = pn := by rw [← hpn, hpo.1, hrn]
  subst hpr
  have HRb := Lib.hid (fun W (hW : Below w.heap.size w W) => refBoundOf_any B rs RA rn rc sl A n c idle price ps PA pc W (hrr.below (hW.mono hB)) (hr.below (hW.mono hB)) (hp.below (hW.mono hB)) (Nat.le_trans hB hW.size) hrn (by rw [← hrn]; exact hok.n) hn hpn hok.s hok.r hpo.2 hok.i hok.p)
  have hch := choiceE_ok hce
  have hnm : n = m := by rw [← hm, ← hn]; exact hch.1.symm
  subst hnm
  have HRm := Lib.hid (fun W (hW : Below w.heap.size w W) => refMeets_any B rs RA rn rc sl A n c idle price ch CA cc W (hrr.below (hW.mono hB)) (hr.below (hW.mono hB)) (hc.below (hW.mono hB)) (Nat.le_trans hB hW.size) hrn (by omega) hn hok.s hch hok.r)
  generalize boundV idle price rs ps sl = bv at *
  have zm : (meetsV rs sl ch != 2) = true := by simpa using hmv
  generalize meetsV rs sl ch = mv at *
  have HB0 := Lib.hid (show Below w.heap.size w (((w.alloc (.cells #[.slice RA rn rc] 24)).alloc (.cells #[.slice A n c, .int .i64 idle, .int .i64 price] 27)).alloc (.cells #[.slice CA n cc, .slice PA rn pc] 46)) from pa (pa (pa pr)))
  have R0 := Lib.hid (show Blk (((w.alloc (.cells #[.slice RA rn rc] 24)).alloc (.cells #[.slice A n c, .int .i64 idle, .int .i64 price] 27)).alloc (.cells #[.slice CA n cc, .slice PA rn pc] 46)) w.heap.size 24 #[.slice RA rn rc] from ((Blk.newAt rfl).alloc).alloc)
  have K0 := Lib.hid (show Blk (((w.alloc (.cells #[.slice RA rn rc] 24)).alloc (.cells #[.slice A n c, .int .i64 idle, .int .i64 price] 27)).alloc (.cells #[.slice CA n cc, .slice PA rn pc] 46)) (w.heap.size + 1) 27 #[.slice A n c, .int .i64 idle, .int .i64 price] from (Blk.newAt (by simp)).alloc)
  have S0 := Lib.hid (show Blk (((w.alloc (.cells #[.slice RA rn rc] 24)).alloc (.cells #[.slice A n c, .int .i64 idle, .int .i64 price] 27)).alloc (.cells #[.slice CA n cc, .slice PA rn pc] 46)) (w.heap.size + 1 + 1) 46 #[.slice CA n cc, .slice PA rn pc] from Blk.newAt (by simp))
  clear hU hQ hW hrr hr hn hrn hc hm hp hpn h6 f1 f2 f3 f4 hf h0 hpe hce hok hof g1 g2 hpo hch hmv
  go_enter Tryz.func4, Tryz.ntmps4
  go_wp2_with (first
    | (go_at_call 7; refine HAw.out.mono ?_; rintro e w1 ⟨rfl, hb⟩; have HB1 := Lib.hid (pt HB0.out hb); have R1 := Lib.hid (R0.out.past hb); have K1 := Lib.hid (K0.out.past hb); have S1 := Lib.hid (S0.out.past hb); clear hb; have x0 := R1.out.cellAt 0 rfl; have y0 := K1.out.cellAt 0 rfl; have y1 := K1.out.cellAt 1 rfl; have y2 := K1.out.cellAt 2 rfl; have s0 := S1.out.cellAt 0 rfl; have s1 := S1.out.cellAt 1 rfl; have xl := R1.out.lt; have yl := K1.out.lt; have sl_ := S1.out.lt)
    | (go_at_call 8; refine (HFe.out _ HB1.out).mono ?_; rintro e w2 ⟨rfl, hb⟩; have HB2 := Lib.hid (pt HB1.out hb); have R2 := Lib.hid (R1.out.past hb); have K2 := Lib.hid (K1.out.past hb); have S2 := Lib.hid (S1.out.past hb); clear x0 y0 y1 y2 s0 s1 xl yl sl_; clear hb; have x0 := R2.out.cellAt 0 rfl; have y0 := K2.out.cellAt 0 rfl; have y1 := K2.out.cellAt 1 rfl; have y2 := K2.out.cellAt 2 rfl; have s0 := S2.out.cellAt 0 rfl; have s1 := S2.out.cellAt 1 rfl; have xl := R2.out.lt; have yl := K2.out.lt; have sl_ := S2.out.lt))
  clear R0 R1 K0 K1 S0 S1 HB0 HB1 HAw HFe
  have HSS := Lib.hid (show ∀ W, Hid (Below w2.heap.size w2 W) → Hid (Below w2.heap.size w2 W) ∧ W.cell? ⟨w.heap.size, 0, none⟩ = some (.slice RA rn rc) ∧ W.cell? ⟨w.heap.size + 1, 0, none⟩ = some (.slice A n c) ∧ W.cell? ⟨w.heap.size + 1, 1, none⟩ = some (.int .i64 idle) ∧ W.cell? ⟨w.heap.size + 1, 2, none⟩ = some (.int .i64 price) ∧ W.cell? ⟨w.heap.size + 1 + 1, 0, none⟩ = some (.slice CA n cc) ∧ W.cell? ⟨w.heap.size + 1 + 1, 1, none⟩ = some (.slice PA rn pc) from fun W hW => ⟨hW, (R2.out.past hW.out).cellAt 0 rfl, (K2.out.past hW.out).cellAt 0 rfl, (K2.out.past hW.out).cellAt 1 rfl, (K2.out.past hW.out).cellAt 2 rfl, (S2.out.past hW.out).cellAt 0 rfl, (S2.out.past hW.out).cellAt 1 rfl⟩)
  clear x0 y0 y1 y2 s0 s1
  go_region_held3 (fun w' => Hid (Below w2.heap.size w2 w') ∧ w'.cell? ⟨w.heap.size, 0, none⟩ = some (.slice RA rn rc) ∧ w'.cell? ⟨w.heap.size + 1, 0, none⟩ = some (.slice A n c) ∧ w'.cell? ⟨w.heap.size + 1, 1, none⟩ = some (.int .i64 idle) ∧ w'.cell? ⟨w.heap.size + 1, 2, none⟩ = some (.int .i64 price) ∧ w'.cell? ⟨w.heap.size + 1 + 1, 0, none⟩ = some (.slice CA n cc) ∧ w'.cell? ⟨w.heap.size + 1 + 1, 1, none⟩ = some (.slice PA rn pc)) ((refine HSS.out _ (Lib.hid ?_); repeat (first | assumption | (with_reducible exact pr) | (with_reducible refine pd ?_) | (with_reducible refine pa ?_) | (with_reducible refine pt ?_ (by assumption)))))
    ((first
      | (go_at_call 12; (with_reducible refine (HCr.out _ (pd HB2.out)).mono ?_); rintro e w3 ⟨A3, c3, rfl, hs3, hb3⟩; have HS3 := Lib.hid hs3)
      | (go_at_call 13; (with_reducible refine (HCk.out _ (pt (pd HB2.out) hb3)).mono ?_); rintro e w4 ⟨A4, c4, rfl, hs4, hb4⟩; have HS4 := Lib.hid hs4)
      | (go_at_call 19; (with_reducible refine (HCp.out _ (pt (pt (pd HB2.out) hb3) hb4)).mono ?_); rintro e w5 ⟨A5, c5, rfl, hi5, hb5⟩; have HI5 := Lib.hid hi5)
      | (go_at_call 18; (with_reducible refine (HBd.out _ A3 c3 A4 c4 A5 c5 (HUn.out _ (pt (pt (pt (pd HB2.out) hb3) hb4) hb5)) ((HS3.out.past (Nat.le_refl _) hb4).past (Nat.le_refl _) hb5) (HS4.out.past (Nat.le_refl _) hb5) HI5.out).mono ?_); rintro e w6 ⟨rfl, hb6⟩)))
  have HB6 := Lib.hid (show Below w.heap.size w w6 from pt (pt (pt (pt (pd HB2.out) hb3) hb4) hb5) hb6)
  have HBl6 := Lib.hid (show Below w2.heap.size w2 w6 from pt (pt (pt (pt (pd pr) hb3) hb4) hb5) hb6)
  have R6 := Lib.hid (R2.out.past HBl6.out)
  have K6 := Lib.hid (K2.out.past HBl6.out)
  have S6 := Lib.hid (S2.out.past HBl6.out)
  clear HSS xl yl sl_ hb3 hb4 hb5 hb6 hs3 hs4 HS3 HS4 hi5 HI5 R2 K2 S2 HB2
  have x0 := R6.out.cellAt 0 rfl; have y0 := K6.out.cellAt 0 rfl; have y1 := K6.out.cellAt 1 rfl; have y2 := K6.out.cellAt 2 rfl; have s0 := S6.out.cellAt 0 rfl; have s1 := S6.out.cellAt 1 rfl; have xl := R6.out.lt; have yl := K6.out.lt; have sl_ := S6.out.lt
  go_wp2
  have HSS := Lib.hid (show ∀ W, Hid (Below w6.heap.size w6 W) → Hid (Below w6.heap.size w6 W) ∧ W.cell? ⟨w.heap.size, 0, none⟩ = some (.slice RA rn rc) ∧ W.cell? ⟨w.heap.size + 1, 0, none⟩ = some (.slice A n c) ∧ W.cell? ⟨w.heap.size + 1, 1, none⟩ = some (.int .i64 idle) ∧ W.cell? ⟨w.heap.size + 1, 2, none⟩ = some (.int .i64 price) ∧ W.cell? ⟨w.heap.size + 1 + 1, 0, none⟩ = some (.slice CA n cc) ∧ W.cell? ⟨w.heap.size + 1 + 1, 1, none⟩ = some (.slice PA rn pc) from fun W hW => ⟨hW, (R6.out.past hW.out).cellAt 0 rfl, (K6.out.past hW.out).cellAt 0 rfl, (K6.out.past hW.out).cellAt 1 rfl, (K6.out.past hW.out).cellAt 2 rfl, (S6.out.past hW.out).cellAt 0 rfl, (S6.out.past hW.out).cellAt 1 rfl⟩)
  clear x0 y0 y1 y2 s0 s1
  go_region_held3 (fun w' => Hid (Below w6.heap.size w6 w') ∧ w'.cell? ⟨w.heap.size, 0, none⟩ = some (.slice RA rn rc) ∧ w'.cell? ⟨w.heap.size + 1, 0, none⟩ = some (.slice A n c) ∧ w'.cell? ⟨w.heap.size + 1, 1, none⟩ = some (.int .i64 idle) ∧ w'.cell? ⟨w.heap.size + 1, 2, none⟩ = some (.int .i64 price) ∧ w'.cell? ⟨w.heap.size + 1 + 1, 0, none⟩ = some (.slice CA n cc) ∧ w'.cell? ⟨w.heap.size + 1 + 1, 1, none⟩ = some (.slice PA rn pc)) ((refine HSS.out _ (Lib.hid ?_); repeat (first | assumption | (with_reducible exact pr) | (with_reducible refine pd ?_) | (with_reducible refine pa ?_) | (with_reducible refine pt ?_ (by assumption)))))
    ((first
      | (go_at_call 12; (with_reducible refine (HCr.out _ (pd HB6.out)).mono ?_); rintro e w7 ⟨A7, c7, rfl, hs7, hb7⟩; have HS7 := Lib.hid hs7)
      | (go_at_call 13; (with_reducible refine (HCk.out _ (pt (pd HB6.out) hb7)).mono ?_); rintro e w8 ⟨A8, c8, rfl, hs8, hb8⟩; have HS8 := Lib.hid hs8)
      | (go_at_call 19; (with_reducible refine (HCi.out _ (pt (pt (pd HB6.out) hb7) hb8)).mono ?_); rintro e w9 ⟨A9, c9, rfl, hi9, hb9⟩; have HI9 := Lib.hid hi9)
      | (go_at_call 19; (with_reducible refine (HCp.out _ (pt (pt (pt (pd HB6.out) hb7) hb8) hb9)).mono ?_); rintro e w10 ⟨A10, c10, rfl, hi10, hb10⟩; have HI10 := Lib.hid hi10)
      | (go_at_call 20; (with_reducible refine (HGa.out _ A7 c7 A8 c8 A9 c9 A10 c10 (HUn.out _ (pt (pt (pt (pt (pd HB6.out) hb7) hb8) hb9) hb10)) (((HS7.out.past (Nat.le_refl _) hb8).past (Nat.le_refl _) hb9).past (Nat.le_refl _) hb10) ((HS8.out.past (Nat.le_refl _) hb9).past (Nat.le_refl _) hb10) ((HI9.out.below hb10).more hb10.size) HI10.out).mono ?_); rintro e w11 ⟨rfl, hb11⟩)))
  have HB11 := Lib.hid (show Below w.heap.size w w11 from pt (pt (pt (pt (pt (pd HB6.out) hb7) hb8) hb9) hb10) hb11)
  have HBl11 := Lib.hid (show Below w6.heap.size w6 w11 from pt (pt (pt (pt (pt (pd pr) hb7) hb8) hb9) hb10) hb11)
  have R11 := Lib.hid (R6.out.past HBl11.out)
  have K11 := Lib.hid (K6.out.past HBl11.out)
  have S11 := Lib.hid (S6.out.past HBl11.out)
  clear HSS xl yl sl_ hb7 hb8 hb9 hb10 hb11 hs7 hs8 HS7 HS8 hi9 HI9 hi10 HI10 R6 K6 S6 HB6
  have x0 := R11.out.cellAt 0 rfl; have y0 := K11.out.cellAt 0 rfl; have y1 := K11.out.cellAt 1 rfl; have y2 := K11.out.cellAt 2 rfl; have s0 := S11.out.cellAt 0 rfl; have s1 := S11.out.cellAt 1 rfl; have xl := R11.out.lt; have yl := K11.out.lt; have sl_ := S11.out.lt
  go_wp2_with (first
    | (go_at_call 9; refine (HBo.out _ HB11.out).mono ?_; rintro e w12 ⟨rfl, hb⟩; have HB12 := Lib.hid (pt HB11.out hb); have R12 := Lib.hid (R11.out.past hb); have K12 := Lib.hid (K11.out.past hb); have S12 := Lib.hid (S11.out.past hb); clear x0 y0 y1 y2 s0 s1 xl yl sl_; clear hb; have x0 := R12.out.cellAt 0 rfl; have y0 := K12.out.cellAt 0 rfl; have y1 := K12.out.cellAt 1 rfl; have y2 := K12.out.cellAt 2 rfl; have s0 := S12.out.cellAt 0 rfl; have s1 := S12.out.cellAt 1 rfl; have xl := R12.out.lt; have yl := K12.out.lt; have sl_ := S12.out.lt)
    | (go_at_call 21; refine (HRp.out _ HB12.out).mono ?_; rintro e w13 ⟨rfl, hb⟩; have HB13 := Lib.hid (pt HB12.out hb); have R13 := Lib.hid (R12.out.past hb); have K13 := Lib.hid (K12.out.past hb); have S13 := Lib.hid (S12.out.past hb); clear x0 y0 y1 y2 s0 s1 xl yl sl_; clear hb; have x0 := R13.out.cellAt 0 rfl; have y0 := K13.out.cellAt 0 rfl; have y1 := K13.out.cellAt 1 rfl; have y2 := K13.out.cellAt 2 rfl; have s0 := S13.out.cellAt 0 rfl; have s1 := S13.out.cellAt 1 rfl; have xl := R13.out.lt; have yl := K13.out.lt; have sl_ := S13.out.lt)
    | (go_at_call 22; refine (HRb.out _ HB13.out).mono ?_; rintro e w14 ⟨rfl, hb⟩; have HB14 := Lib.hid (pt HB13.out hb); have R14 := Lib.hid (R13.out.past hb); have K14 := Lib.hid (K13.out.past hb); have S14 := Lib.hid (S13.out.past hb); clear x0 y0 y1 y2 s0 s1 xl yl sl_; clear hb; have x0 := R14.out.cellAt 0 rfl; have y0 := K14.out.cellAt 0 rfl; have y1 := K14.out.cellAt 1 rfl; have y2 := K14.out.cellAt 2 rfl; have s0 := S14.out.cellAt 0 rfl; have s1 := S14.out.cellAt 1 rfl; have xl := R14.out.lt; have yl := K14.out.lt; have sl_ := S14.out.lt)
    | (go_at_call 23; refine (HRc.out _ HB14.out).mono ?_; rintro e w15 ⟨rfl, hb⟩; have HB15 := Lib.hid (pt HB14.out hb); have R15 := Lib.hid (R14.out.past hb); have K15 := Lib.hid (K14.out.past hb); have S15 := Lib.hid (S14.out.past hb); clear x0 y0 y1 y2 s0 s1 xl yl sl_; clear hb; have x0 := R15.out.cellAt 0 rfl; have y0 := K15.out.cellAt 0 rfl; have y1 := K15.out.cellAt 1 rfl; have y2 := K15.out.cellAt 2 rfl; have s0 := S15.out.cellAt 0 rfl; have s1 := S15.out.cellAt 1 rfl; have xl := R15.out.lt; have yl := K15.out.lt; have sl_ := S15.out.lt)
    | (go_at_call 24; refine (HRm.out _ HB15.out).mono ?_; rintro e w16 ⟨rfl, hb⟩; have HB16 := Lib.hid (pt HB15.out hb); have R16 := Lib.hid (R15.out.past hb); have K16 := Lib.hid (K15.out.past hb); have S16 := Lib.hid (S15.out.past hb); clear x0 y0 y1 y2 s0 s1 xl yl sl_; clear hb; have x0 := R16.out.cellAt 0 rfl; have y0 := K16.out.cellAt 0 rfl; have y1 := K16.out.cellAt 1 rfl; have y2 := K16.out.cellAt 2 rfl; have s0 := S16.out.cellAt 0 rfl; have s1 := S16.out.cellAt 1 rfl; have xl := R16.out.lt; have yl := K16.out.lt; have sl_ := S16.out.lt))
  go_ret
  exact ⟨rfl, HB16.out⟩

set_option maxRecDepth 100000 in
set_option maxHeartbeats 16000000 in
theorem bounds_b5 (B : Nat) (rs : List DReq) (RA : Option Addr) (rn rc : Nat) (sl : List (List DPart)) (A : Option Addr) (n c : Nat) (idle price : Int) (ch : List Int) (CA : Option Addr) (m cc : Nat) (ps : List Int) (PA : Option Addr) (pn pc : Nat) (w : World) (hU : UnitIn w) (hQ : TabS 1 qWords w) (hW : TabS 0 uWords w) (hrr : ReqsIn B w RA rs) (hr : SlotsIn B w A sl) (hc : IntsIn B w CA ch) (hm : ch.length = m) (hp : IntsIn B w PA ps) (hpn : ps.length = pn) (hB : B ≤ w.heap.size) (hrn : rs.length = rn) (hn : sl.length = n) (h6 : Six sl) (hf : FewP rs sl) (h8 : pn ≤ 8) (h9 : m ≤ 8) (h0 : openE rs idle price sl = 0) (hpe : pricesE rs.length ps = 0) (hce : choiceE sl ch = 0) (hmv : meetsV rs sl ch = 2) :
    Calls Tryz.prog 4 #[.agg #[.slice RA rn rc], .agg #[.slice A n c, .int .i64 idle, .int .i64 price], .agg #[.slice CA m cc, .slice PA pn pc]] w fun e w' => e = .returned (.bool true) ∧ Below w.heap.size w w' := by
  obtain ⟨f1, f2, f3, f4⟩ := few_bd2 hf
  have hn7 : n ≤ 7 := by omega
  have hr8 : rn ≤ 8 := by omega
  have HAw := Lib.hid (awake_any (((w.alloc (.cells #[.slice RA rn rc] 24)).alloc (.cells #[.slice A n c, .int .i64 idle, .int .i64 price] 27)).alloc (.cells #[.slice CA m cc, .slice PA pn pc] 46)) (hU.below (pa (pa (pa pr)))) (hQ.below (pa (pa (pa pr)))) (hW.below (pa (pa (pa pr)))))
  have HFe := Lib.hid (fun W (hW : Below w.heap.size w W) => (show Calls Tryz.prog 8 #[.agg #[.slice RA rn rc], .agg #[.slice A n c, .int .i64 idle, .int .i64 price]] W fun e w' => e = .returned (.bool true) ∧ Below W.heap.size W w' from (few_any B rs RA rn rc sl A n c idle price W (hrr.below (hW.mono hB)) (hr.below (hW.mono hB)) (Nat.le_trans hB hW.size) hrn hn).mono fun e w' h => by
    obtain ⟨⟨f, rfl, hfi⟩, hb⟩ := h
    cases f
    · exact absurd (hfi.2 hf) (by decide)
    · exact ⟨rfl, hb⟩))
  have HCk := Lib.hid (fun W (hW : Below w.heap.size w W) => (show Calls Tryz.prog 13 #[.agg #[.slice A n c, .int .i64 idle, .int .i64 price]] W fun e w' => ∃ A2 c2, e = .returned (.agg #[.slice A2 n c2, .int .i64 idle, .int .i64 price]) ∧ SlotsIn w'.heap.size w' A2 sl ∧ Below W.heap.size W w' from (copyStock_any B sl A n c idle price W (hr.below (hW.mono hB)) (Nat.le_trans hB hW.size) hn (by omega) (fun l hl => (f4 l hl).1)).mono fun e w' h => by
    obtain ⟨A2, c2, rfl, h2, _, h3⟩ := h
    rw [hn]
    exact ⟨A2, c2, rfl, h2, h3⟩))
  have HCr := Lib.hid (fun W (hW : Below w.heap.size w W) => (show Calls Tryz.prog 12 #[.agg #[.slice RA rn rc]] W fun e w' => ∃ A2 c2, e = .returned (.agg #[.slice A2 rn c2]) ∧ ReqsIn w'.heap.size w' A2 rs ∧ Below W.heap.size W w' from (copySpec_any B rs RA rn rc W (hrr.below (hW.mono hB)) (Nat.le_trans hB hW.size) hrn (by omega) f2).mono fun e w' h => by
    obtain ⟨A2, c2, rfl, h2, _, h3⟩ := h
    rw [hrn]
    exact ⟨A2, c2, rfl, h2, h3⟩))
  have HCi := Lib.hid (fun W (hW : Below w.heap.size w W) => (copyInts_any B CA m cc ch W (hc.below (hW.mono hB)) hm (Nat.le_trans hB hW.size) (by omega)).mono (fun _ _ h => copy_formC h))
  rw [hm] at HCi
  have HCp := Lib.hid (fun W (hW : Below w.heap.size w W) => (copyInts_any B PA pn pc ps W (hp.below (hW.mono hB)) hpn (Nat.le_trans hB hW.size) (by omega)).mono (fun _ _ h => copy_formC h))
  rw [hpn] at HCp
  have HBo := Lib.hid (fun W (hW : Below w.heap.size w W) => bothErr_any B rs RA rn rc sl A n c idle price W (hrr.below (hW.mono hB)) (hr.below (hW.mono hB)) (Nat.le_trans hB hW.size) hrn hn (by omega) f2 f4)
  have HUn := Lib.hid (fun W (hW' : Below w.heap.size w W) => hU.below hW')
  have HBd := Lib.hid (fun (W : World) A1 c1 A2 c2 A3 c3 (hU : UnitIn W) (h0 : ReqsIn W.heap.size W A1 rs) (h : SlotsIn W.heap.size W A2 sl) (h' : IntsIn W.heap.size W A3 ps) => boundOf_any W.heap.size rs A1 rn c1 sl A2 n c2 idle price ps A3 pn c3 W h0 h h' (Nat.le_refl _) hrn (by omega) f2 hU hn (by omega) f4 hpn (by omega) (openE_ok h6))
  have HGa := Lib.hid (fun (W : World) A1 c1 A2 c2 A3 c3 A4 c4 (hU : UnitIn W) (h0 : ReqsIn W.heap.size W A1 rs) (h : SlotsIn W.heap.size W A2 sl) (h' : IntsIn W.heap.size W A3 ch) (h'' : IntsIn W.heap.size W A4 ps) => gapOf_any W.heap.size rs A1 rn c1 sl A2 n c2 idle price ch A3 m c3 ps A4 pn c4 W h0 h h' h'' (Nat.le_refl _) hrn (by omega) f2 hU hn (by omega) f4 hm hpn (by omega) h6)
  have hok := openE_ok h6 h0
  have hof := offE_good (ch := ch) (ps := ps) h0
  rw [if_neg (by simpa using hce), hpe] at hof
  obtain ⟨g1, g2⟩ := gapE_yes (ch := ch) (ps := ps) hof hmv
  rw [g1, g2] at HGa
  rw [boundE_good h0, hpe, if_pos rfl] at HBd
  rw [h0] at HBo
  have HRp := Lib.hid (fun W (hW : Below w.heap.size w W) => refPricesErr_any B RA rn rc ps PA pn pc W (hp.below (hW.mono hB)) (Nat.le_trans hB hW.size) hpn (by omega))
  rw [show pricesE rn ps = 0 from by rw [← hrn]; exact hpe] at HRp
  have HRc := Lib.hid (fun W (hW : Below w.heap.size w W) => refChoiceErr_any B sl A n c idle price ch CA m cc W (hr.below (hW.mono hB)) (hc.below (hW.mono hB)) (Nat.le_trans hB hW.size) hn hm (by omega) (fun l hl => (f4 l hl).1))
  rw [hce] at HRc
  have hpo := prices_ok hpe
  have hpr : rn = pn := by rw [← hpn, hpo.1, hrn]
  subst hpr
  have HRb := Lib.hid (fun W (hW : Below w.heap.size w W) => refBoundOf_any B rs RA rn rc sl A n c idle price ps PA pc W (hrr.below (hW.mono hB)) (hr.below (hW.mono hB)) (hp.below (hW.mono hB)) (Nat.le_trans hB hW.size) hrn (by rw [← hrn]; exact hok.n) hn hpn hok.s hok.r hpo.2 hok.i hok.p)
  have hch := choiceE_ok hce
  have hnm : n = m := by rw [← hm, ← hn]; exact hch.1.symm
  subst hnm
  have HRm := Lib.hid (fun W (hW : Below w.heap.size w W) => refMeets_any B rs RA rn rc sl A n c idle price ch CA cc W (hrr.below (hW.mono hB)) (hr.below (hW.mono hB)) (hc.below (hW.mono hB)) (Nat.le_trans hB hW.size) hrn (by omega) hn hok.s hch hok.r)
  rw [hmv] at HRm
  have HRk := Lib.hid (fun W (hW : Below w.heap.size w W) => refCostOf_any B sl A n c idle price ch CA cc W (hr.below (hW.mono hB)) (hc.below (hW.mono hB)) (Nat.le_trans hB hW.size) hn hok.s hch hok.i hok.p)
  have hbb := boundV_bd hok hpo.2 hpo.1
  have hcb := costC_bd hok.s hch hok.i hok.p
  generalize costC idle price sl ch = cv at *
  generalize boundV idle price rs ps sl = bv at *
  have hw1 : IntKind.i64.wrap (cv - bv) = cv - bv := IntWalk.i64_in _ (by omega)
  have hw2 : wrap64 (cv - bv) = cv - bv := w64 (by omega)
  clear hbb hcb
  have HB0 := Lib.hid (show Below w.heap.size w (((w.alloc (.cells #[.slice RA rn rc] 24)).alloc (.cells #[.slice A n c, .int .i64 idle, .int .i64 price] 27)).alloc (.cells #[.slice CA n cc, .slice PA rn pc] 46)) from pa (pa (pa pr)))
  have R0 := Lib.hid (show Blk (((w.alloc (.cells #[.slice RA rn rc] 24)).alloc (.cells #[.slice A n c, .int .i64 idle, .int .i64 price] 27)).alloc (.cells #[.slice CA n cc, .slice PA rn pc] 46)) w.heap.size 24 #[.slice RA rn rc] from ((Blk.newAt rfl).alloc).alloc)
  have K0 := Lib.hid (show Blk (((w.alloc (.cells #[.slice RA rn rc] 24)).alloc (.cells #[.slice A n c, .int .i64 idle, .int .i64 price] 27)).alloc (.cells #[.slice CA n cc, .slice PA rn pc] 46)) (w.heap.size + 1) 27 #[.slice A n c, .int .i64 idle, .int .i64 price] from (Blk.newAt (by simp)).alloc)
  have S0 := Lib.hid (show Blk (((w.alloc (.cells #[.slice RA rn rc] 24)).alloc (.cells #[.slice A n c, .int .i64 idle, .int .i64 price] 27)).alloc (.cells #[.slice CA n cc, .slice PA rn pc] 46)) (w.heap.size + 1 + 1) 46 #[.slice CA n cc, .slice PA rn pc] from Blk.newAt (by simp))
  clear hU hQ hW hrr hr hn hrn hc hm hp hpn h6 f1 f2 f3 f4 hf h0 hpe hce hok hof g1 g2 hpo hch hmv
  go_enter Tryz.func4, Tryz.ntmps4
  go_wp2_with (first
    | (go_at_call 7; refine HAw.out.mono ?_; rintro e w1 ⟨rfl, hb⟩; have HB1 := Lib.hid (pt HB0.out hb); have R1 := Lib.hid (R0.out.past hb); have K1 := Lib.hid (K0.out.past hb); have S1 := Lib.hid (S0.out.past hb); clear hb; have x0 := R1.out.cellAt 0 rfl; have y0 := K1.out.cellAt 0 rfl; have y1 := K1.out.cellAt 1 rfl; have y2 := K1.out.cellAt 2 rfl; have s0 := S1.out.cellAt 0 rfl; have s1 := S1.out.cellAt 1 rfl; have xl := R1.out.lt; have yl := K1.out.lt; have sl_ := S1.out.lt)
    | (go_at_call 8; refine (HFe.out _ HB1.out).mono ?_; rintro e w2 ⟨rfl, hb⟩; have HB2 := Lib.hid (pt HB1.out hb); have R2 := Lib.hid (R1.out.past hb); have K2 := Lib.hid (K1.out.past hb); have S2 := Lib.hid (S1.out.past hb); clear x0 y0 y1 y2 s0 s1 xl yl sl_; clear hb; have x0 := R2.out.cellAt 0 rfl; have y0 := K2.out.cellAt 0 rfl; have y1 := K2.out.cellAt 1 rfl; have y2 := K2.out.cellAt 2 rfl; have s0 := S2.out.cellAt 0 rfl; have s1 := S2.out.cellAt 1 rfl; have xl := R2.out.lt; have yl := K2.out.lt; have sl_ := S2.out.lt))
  clear R0 R1 K0 K1 S0 S1 HB0 HB1 HAw HFe
  have HSS := Lib.hid (show ∀ W, Hid (Below w2.heap.size w2 W) → Hid (Below w2.heap.size w2 W) ∧ W.cell? ⟨w.heap.size, 0, none⟩ = some (.slice RA rn rc) ∧ W.cell? ⟨w.heap.size + 1, 0, none⟩ = some (.slice A n c) ∧ W.cell? ⟨w.heap.size + 1, 1, none⟩ = some (.int .i64 idle) ∧ W.cell? ⟨w.heap.size + 1, 2, none⟩ = some (.int .i64 price) ∧ W.cell? ⟨w.heap.size + 1 + 1, 0, none⟩ = some (.slice CA n cc) ∧ W.cell? ⟨w.heap.size + 1 + 1, 1, none⟩ = some (.slice PA rn pc) from fun W hW => ⟨hW, (R2.out.past hW.out).cellAt 0 rfl, (K2.out.past hW.out).cellAt 0 rfl, (K2.out.past hW.out).cellAt 1 rfl, (K2.out.past hW.out).cellAt 2 rfl, (S2.out.past hW.out).cellAt 0 rfl, (S2.out.past hW.out).cellAt 1 rfl⟩)
  clear x0 y0 y1 y2 s0 s1
  go_region_held3 (fun w' => Hid (Below w2.heap.size w2 w') ∧ w'.cell? ⟨w.heap.size, 0, none⟩ = some (.slice RA rn rc) ∧ w'.cell? ⟨w.heap.size + 1, 0, none⟩ = some (.slice A n c) ∧ w'.cell? ⟨w.heap.size + 1, 1, none⟩ = some (.int .i64 idle) ∧ w'.cell? ⟨w.heap.size + 1, 2, none⟩ = some (.int .i64 price) ∧ w'.cell? ⟨w.heap.size + 1 + 1, 0, none⟩ = some (.slice CA n cc) ∧ w'.cell? ⟨w.heap.size + 1 + 1, 1, none⟩ = some (.slice PA rn pc)) ((refine HSS.out _ (Lib.hid ?_); repeat (first | assumption | (with_reducible exact pr) | (with_reducible refine pd ?_) | (with_reducible refine pa ?_) | (with_reducible refine pt ?_ (by assumption)))))
    ((first
      | (go_at_call 12; (with_reducible refine (HCr.out _ (pd HB2.out)).mono ?_); rintro e w3 ⟨A3, c3, rfl, hs3, hb3⟩; have HS3 := Lib.hid hs3)
      | (go_at_call 13; (with_reducible refine (HCk.out _ (pt (pd HB2.out) hb3)).mono ?_); rintro e w4 ⟨A4, c4, rfl, hs4, hb4⟩; have HS4 := Lib.hid hs4)
      | (go_at_call 19; (with_reducible refine (HCp.out _ (pt (pt (pd HB2.out) hb3) hb4)).mono ?_); rintro e w5 ⟨A5, c5, rfl, hi5, hb5⟩; have HI5 := Lib.hid hi5)
      | (go_at_call 18; (with_reducible refine (HBd.out _ A3 c3 A4 c4 A5 c5 (HUn.out _ (pt (pt (pt (pd HB2.out) hb3) hb4) hb5)) ((HS3.out.past (Nat.le_refl _) hb4).past (Nat.le_refl _) hb5) (HS4.out.past (Nat.le_refl _) hb5) HI5.out).mono ?_); rintro e w6 ⟨rfl, hb6⟩)))
  have HB6 := Lib.hid (show Below w.heap.size w w6 from pt (pt (pt (pt (pd HB2.out) hb3) hb4) hb5) hb6)
  have HBl6 := Lib.hid (show Below w2.heap.size w2 w6 from pt (pt (pt (pt (pd pr) hb3) hb4) hb5) hb6)
  have R6 := Lib.hid (R2.out.past HBl6.out)
  have K6 := Lib.hid (K2.out.past HBl6.out)
  have S6 := Lib.hid (S2.out.past HBl6.out)
  clear HSS xl yl sl_ hb3 hb4 hb5 hb6 hs3 hs4 HS3 HS4 hi5 HI5 R2 K2 S2 HB2
  have x0 := R6.out.cellAt 0 rfl; have y0 := K6.out.cellAt 0 rfl; have y1 := K6.out.cellAt 1 rfl; have y2 := K6.out.cellAt 2 rfl; have s0 := S6.out.cellAt 0 rfl; have s1 := S6.out.cellAt 1 rfl; have xl := R6.out.lt; have yl := K6.out.lt; have sl_ := S6.out.lt
  go_wp2
  have HSS := Lib.hid (show ∀ W, Hid (Below w6.heap.size w6 W) → Hid (Below w6.heap.size w6 W) ∧ W.cell? ⟨w.heap.size, 0, none⟩ = some (.slice RA rn rc) ∧ W.cell? ⟨w.heap.size + 1, 0, none⟩ = some (.slice A n c) ∧ W.cell? ⟨w.heap.size + 1, 1, none⟩ = some (.int .i64 idle) ∧ W.cell? ⟨w.heap.size + 1, 2, none⟩ = some (.int .i64 price) ∧ W.cell? ⟨w.heap.size + 1 + 1, 0, none⟩ = some (.slice CA n cc) ∧ W.cell? ⟨w.heap.size + 1 + 1, 1, none⟩ = some (.slice PA rn pc) from fun W hW => ⟨hW, (R6.out.past hW.out).cellAt 0 rfl, (K6.out.past hW.out).cellAt 0 rfl, (K6.out.past hW.out).cellAt 1 rfl, (K6.out.past hW.out).cellAt 2 rfl, (S6.out.past hW.out).cellAt 0 rfl, (S6.out.past hW.out).cellAt 1 rfl⟩)
  clear x0 y0 y1 y2 s0 s1
  go_region_held3 (fun w' => Hid (Below w6.heap.size w6 w') ∧ w'.cell? ⟨w.heap.size, 0, none⟩ = some (.slice RA rn rc) ∧ w'.cell? ⟨w.heap.size + 1, 0, none⟩ = some (.slice A n c) ∧ w'.cell? ⟨w.heap.size + 1, 1, none⟩ = some (.int .i64 idle) ∧ w'.cell? ⟨w.heap.size + 1, 2, none⟩ = some (.int .i64 price) ∧ w'.cell? ⟨w.heap.size + 1 + 1, 0, none⟩ = some (.slice CA n cc) ∧ w'.cell? ⟨w.heap.size + 1 + 1, 1, none⟩ = some (.slice PA rn pc)) ((refine HSS.out _ (Lib.hid ?_); repeat (first | assumption | (with_reducible exact pr) | (with_reducible refine pd ?_) | (with_reducible refine pa ?_) | (with_reducible refine pt ?_ (by assumption)))))
    ((first
      | (go_at_call 12; (with_reducible refine (HCr.out _ (pd HB6.out)).mono ?_); rintro e w7 ⟨A7, c7, rfl, hs7, hb7⟩; have HS7 := Lib.hid hs7)
      | (go_at_call 13; (with_reducible refine (HCk.out _ (pt (pd HB6.out) hb7)).mono ?_); rintro e w8 ⟨A8, c8, rfl, hs8, hb8⟩; have HS8 := Lib.hid hs8)
      | (go_at_call 19; (with_reducible refine (HCi.out _ (pt (pt (pd HB6.out) hb7) hb8)).mono ?_); rintro e w9 ⟨A9, c9, rfl, hi9, hb9⟩; have HI9 := Lib.hid hi9)
      | (go_at_call 19; (with_reducible refine (HCp.out _ (pt (pt (pt (pd HB6.out) hb7) hb8) hb9)).mono ?_); rintro e w10 ⟨A10, c10, rfl, hi10, hb10⟩; have HI10 := Lib.hid hi10)
      | (go_at_call 20; (with_reducible refine (HGa.out _ A7 c7 A8 c8 A9 c9 A10 c10 (HUn.out _ (pt (pt (pt (pt (pd HB6.out) hb7) hb8) hb9) hb10)) (((HS7.out.past (Nat.le_refl _) hb8).past (Nat.le_refl _) hb9).past (Nat.le_refl _) hb10) ((HS8.out.past (Nat.le_refl _) hb9).past (Nat.le_refl _) hb10) ((HI9.out.below hb10).more hb10.size) HI10.out).mono ?_); rintro e w11 ⟨rfl, hb11⟩)))
  have HB11 := Lib.hid (show Below w.heap.size w w11 from pt (pt (pt (pt (pt (pd HB6.out) hb7) hb8) hb9) hb10) hb11)
  have HBl11 := Lib.hid (show Below w6.heap.size w6 w11 from pt (pt (pt (pt (pt (pd pr) hb7) hb8) hb9) hb10) hb11)
  have R11 := Lib.hid (R6.out.past HBl11.out)
  have K11 := Lib.hid (K6.out.past HBl11.out)
  have S11 := Lib.hid (S6.out.past HBl11.out)
  clear HSS xl yl sl_ hb7 hb8 hb9 hb10 hb11 hs7 hs8 HS7 HS8 hi9 HI9 hi10 HI10 R6 K6 S6 HB6
  have x0 := R11.out.cellAt 0 rfl; have y0 := K11.out.cellAt 0 rfl; have y1 := K11.out.cellAt 1 rfl; have y2 := K11.out.cellAt 2 rfl; have s0 := S11.out.cellAt 0 rfl; have s1 := S11.out.cellAt 1 rfl; have xl := R11.out.lt; have yl := K11.out.lt; have sl_ := S11.out.lt
  go_wp2_with (first
    | (go_at_call 9; refine (HBo.out _ HB11.out).mono ?_; rintro e w12 ⟨rfl, hb⟩; have HB12 := Lib.hid (pt HB11.out hb); have R12 := Lib.hid (R11.out.past hb); have K12 := Lib.hid (K11.out.past hb); have S12 := Lib.hid (S11.out.past hb); clear x0 y0 y1 y2 s0 s1 xl yl sl_; clear hb; have x0 := R12.out.cellAt 0 rfl; have y0 := K12.out.cellAt 0 rfl; have y1 := K12.out.cellAt 1 rfl; have y2 := K12.out.cellAt 2 rfl; have s0 := S12.out.cellAt 0 rfl; have s1 := S12.out.cellAt 1 rfl; have xl := R12.out.lt; have yl := K12.out.lt; have sl_ := S12.out.lt)
    | (go_at_call 21; refine (HRp.out _ HB12.out).mono ?_; rintro e w13 ⟨rfl, hb⟩; have HB13 := Lib.hid (pt HB12.out hb); have R13 := Lib.hid (R12.out.past hb); have K13 := Lib.hid (K12.out.past hb); have S13 := Lib.hid (S12.out.past hb); clear x0 y0 y1 y2 s0 s1 xl yl sl_; clear hb; have x0 := R13.out.cellAt 0 rfl; have y0 := K13.out.cellAt 0 rfl; have y1 := K13.out.cellAt 1 rfl; have y2 := K13.out.cellAt 2 rfl; have s0 := S13.out.cellAt 0 rfl; have s1 := S13.out.cellAt 1 rfl; have xl := R13.out.lt; have yl := K13.out.lt; have sl_ := S13.out.lt)
    | (go_at_call 22; refine (HRb.out _ HB13.out).mono ?_; rintro e w14 ⟨rfl, hb⟩; have HB14 := Lib.hid (pt HB13.out hb); have R14 := Lib.hid (R13.out.past hb); have K14 := Lib.hid (K13.out.past hb); have S14 := Lib.hid (S13.out.past hb); clear x0 y0 y1 y2 s0 s1 xl yl sl_; clear hb; have x0 := R14.out.cellAt 0 rfl; have y0 := K14.out.cellAt 0 rfl; have y1 := K14.out.cellAt 1 rfl; have y2 := K14.out.cellAt 2 rfl; have s0 := S14.out.cellAt 0 rfl; have s1 := S14.out.cellAt 1 rfl; have xl := R14.out.lt; have yl := K14.out.lt; have sl_ := S14.out.lt)
    | (go_at_call 23; refine (HRc.out _ HB14.out).mono ?_; rintro e w15 ⟨rfl, hb⟩; have HB15 := Lib.hid (pt HB14.out hb); have R15 := Lib.hid (R14.out.past hb); have K15 := Lib.hid (K14.out.past hb); have S15 := Lib.hid (S14.out.past hb); clear x0 y0 y1 y2 s0 s1 xl yl sl_; clear hb; have x0 := R15.out.cellAt 0 rfl; have y0 := K15.out.cellAt 0 rfl; have y1 := K15.out.cellAt 1 rfl; have y2 := K15.out.cellAt 2 rfl; have s0 := S15.out.cellAt 0 rfl; have s1 := S15.out.cellAt 1 rfl; have xl := R15.out.lt; have yl := K15.out.lt; have sl_ := S15.out.lt)
    | (go_at_call 24; refine (HRm.out _ HB15.out).mono ?_; rintro e w16 ⟨rfl, hb⟩; have HB16 := Lib.hid (pt HB15.out hb); have R16 := Lib.hid (R15.out.past hb); have K16 := Lib.hid (K15.out.past hb); have S16 := Lib.hid (S15.out.past hb); clear x0 y0 y1 y2 s0 s1 xl yl sl_; clear hb; have x0 := R16.out.cellAt 0 rfl; have y0 := K16.out.cellAt 0 rfl; have y1 := K16.out.cellAt 1 rfl; have y2 := K16.out.cellAt 2 rfl; have s0 := S16.out.cellAt 0 rfl; have s1 := S16.out.cellAt 1 rfl; have xl := R16.out.lt; have yl := K16.out.lt; have sl_ := S16.out.lt))
  refine region_below 16 follows_mixed (by kernel_rfl) ?_
  intro C hC
  simp only [List.take_succ_cons, List.take_zero, List.drop_succ_cons, List.drop_zero]
  repeat (first
    | ((with_reducible refine quiet_plain rfl (fun K hK => ?_)); (focus (apply quiet_val; (focus (intro w' hw; obtain ⟨hcq, hfq⟩ := bcell ((hC.out _).1 hw); go_simp; (first | done | rfl | (with_reducible exact call_below hC hw (HRk.out _ (pt HB16.out ((hC.out _).1 hw)))) | (with_reducible exact call_below hC hw (HRb.out _ (pt HB16.out ((hC.out _).1 hw))))))); (simp only [Act.put, List.setIfInBounds_toArray, List.set_cons_succ, List.set_cons_zero]); (with_reducible refine hK _ ?_); clear hK K)))
    | ((with_reducible refine quiet_skip ?_ ?_); (focus (first | (simp [Region.wanted, yielded]; done) | (simp [Region.wanted, yielded, undef]; done))); simp only [Act.put, List.setIfInBounds_toArray, List.set_cons_succ, List.set_cons_zero])
    | ((with_reducible refine quiet_go ?_ (fun K hK => ?_)); (focus (first | (simp [Region.wanted, yielded]; done) | (simp [Region.wanted, yielded, undef]; done))); (focus (apply quiet_val; (focus (intro w' hw; obtain ⟨hcq, hfq⟩ := bcell ((hC.out _).1 hw); go_simp; (first | done | rfl | (with_reducible exact call_below hC hw (HRk.out _ (pt HB16.out ((hC.out _).1 hw)))) | (with_reducible exact call_below hC hw (HRb.out _ (pt HB16.out ((hC.out _).1 hw))))))); (simp only [Act.put, List.setIfInBounds_toArray, List.set_cons_succ, List.set_cons_zero]); (with_reducible refine hK _ ?_); clear hK K))))
  refine wpQuiet_nil ?_
  intro w1 hb1
  replace hb1 := (hC.out _).1 hb1
  clear hC C
  obtain ⟨hc1, hf1⟩ := bcell hb1
  have HBz := Lib.hid (pt HB16.out hb1)
  clear hb1 hc1 hf1
  go_wp2
  go_ret
  exact ⟨rfl, HBz.out⟩

theorem designBounds_any (B : Nat) (rs : List DReq) (RA : Option Addr) (rn rc : Nat) (sl : List (List DPart)) (A : Option Addr) (n c : Nat) (idle price : Int) (ch : List Int) (CA : Option Addr) (m cc : Nat) (ps : List Int) (PA : Option Addr) (pn pc : Nat) (w : World) (hU : UnitIn w) (hQ : TabS 1 qWords w) (hW : TabS 0 uWords w) (hrr : ReqsIn B w RA rs) (hr : SlotsIn B w A sl) (hc : IntsIn B w CA ch) (hm : ch.length = m) (hp : IntsIn B w PA ps) (hpn : ps.length = pn) (hB : B ≤ w.heap.size) (hrn : rs.length = rn) (hn : sl.length = n) (h6 : Six sl) :
    Calls Tryz.prog 4 #[.agg #[.slice RA rn rc], .agg #[.slice A n c, .int .i64 idle, .int .i64 price], .agg #[.slice CA m cc, .slice PA pn pc]] w fun e w' => e = .returned (.bool true) ∧ Below w.heap.size w w' := by
  by_cases hf : FewP rs sl
  · by_cases h8 : pn ≤ 8
    · by_cases h9 : m ≤ 8
      · by_cases h0 : openE rs idle price sl = 0
        · by_cases hpe : pricesE rs.length ps = 0
          · by_cases hce : choiceE sl ch = 0
            · by_cases hmv : meetsV rs sl ch = 2
              · exact bounds_b5 B rs RA rn rc sl A n c idle price ch CA m cc ps PA pn pc w hU hQ hW hrr hr hc hm hp hpn hB hrn hn h6 hf h8 h9 h0 hpe hce hmv
              · exact bounds_b4 B rs RA rn rc sl A n c idle price ch CA m cc ps PA pn pc w hU hQ hW hrr hr hc hm hp hpn hB hrn hn h6 hf h8 h9 h0 hpe hce hmv
            · exact bounds_b3 B rs RA rn rc sl A n c idle price ch CA m cc ps PA pn pc w hU hQ hW hrr hr hc hm hp hpn hB hrn hn h6 hf h8 h9 h0 hpe hce
          · by_cases hce : choiceE sl ch = 0
            · exact bounds_b2 B rs RA rn rc sl A n c idle price ch CA m cc ps PA pn pc w hU hQ hW hrr hr hc hm hp hpn hB hrn hn h6 hf h8 h9 h0 hpe hce
            · exact bounds_b1 B rs RA rn rc sl A n c idle price ch CA m cc ps PA pn pc w hU hQ hW hrr hr hc hm hp hpn hB hrn hn h6 hf h8 h9 h0 hpe hce
        · exact bounds_a B rs RA rn rc sl A n c idle price ch CA m cc ps PA pn pc w hU hQ hW hrr hr hc hm hp hpn hB hrn hn h6 hf h8 h9 h0
      · exact bounds_longc B rs RA rn rc sl A n c idle price ch CA m cc ps PA pn pc w hU hQ hW hrr hr hc hm hp hpn hB hrn hn h6 hf h8 (by omega)
    · exact bounds_longp B rs RA rn rc sl A n c idle price ch CA m cc ps PA pn pc w hU hQ hW hrr hr hc hm hp hpn hB hrn hn h6 hf (by omega)
  · exact bounds_far B rs RA rn rc sl A n c idle price ch CA m cc ps PA pn pc w hU hQ hW hrr hr hc hm hp hpn hB hrn hn h6 hf

end Go.Proofs.YtncbigkkmgnkmaaGreatDoor
end
