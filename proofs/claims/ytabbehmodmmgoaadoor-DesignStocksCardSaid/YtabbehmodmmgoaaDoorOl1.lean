/- The law DesignStocks: the walk. Printed by a program (gen_d7law.py). -/
import Derived.Test.YtabbehmodmmgoaaDoorOg3
import Derived.Test.YtabbehmodmmgoaaDoorOk1
import Derived.Test.YtabbehmodmmgoaaDoorOk3
import Derived.Test.YtabbehmodmmgoaaDoorOk9

section
namespace Go.Proofs.YtabbehmodmmgoaaDoor
open Go.RowKit

theorem few_small {rs : List DReq} {sl : List (List DPart)} (h : FewP rs sl) : sl.length ≤ 7 ∧ SmallSlots sl := by
  obtain ⟨_, h2, _, h4⟩ := h
  refine ⟨h2, fun l hl => ?_⟩
  obtain ⟨i, hi, rfl⟩ := List.getElem_of_mem hl
  have e : sl.getD i [] = sl[i] := by simp [List.getD, hi]
  obtain ⟨h5, h6⟩ := h4 i hi
  rw [e] at h5 h6
  refine ⟨by omega, fun q hq => ?_⟩
  obtain ⟨k, hk, rfl⟩ := List.getElem_of_mem hq
  have e2 : (sl[i]).getD k default = (sl[i])[k] := by simp [List.getD, hk]
  have h7 := h6 k hk
  rw [e2] at h7
  exact Nat.le_trans h7 (by decide)

set_option maxRecDepth 100000 in
set_option maxHeartbeats 4000000 in
theorem stocks_far (B : Nat) (sl : List (List DPart)) (A : Option Addr) (n c : Nat) (idle price s : Int) (w : World) (hU : UnitIn w) (hQ : TabS 2 qWords w) (hW : TabS 0 uWords w) (hr : SlotsIn B w A sl) (hB : B ≤ w.heap.size) (hn : sl.length = n) (hf : ¬ FewP [] sl) :
    Calls Tryd.prog 6 #[.agg #[.slice A n c, .int .i64 idle, .int .i64 price], .int .i64 s] w fun e w' => e = .returned (.bool true) ∧ Below w.heap.size w w' := by
  have HAw := Lib.hid (awake_any (w.alloc (.cells #[.slice A n c, .int .i64 idle, .int .i64 price] 51)) (hU.below (pa pr)) (hQ.below (pa pr)) (hW.below (pa pr)))
  have HFe := Lib.hid (fun W (hW : Below w.heap.size w W) => (show Calls Tryd.prog 24 #[.agg #[.slice none 0 0], .agg #[.slice A n c, .int .i64 idle, .int .i64 price]] W fun e w' => e = .returned (.bool false) ∧ Below W.heap.size W w' from (few_any B [] none 0 0 sl A n c idle price W (.inl rfl) (hr.below (hW.mono hB)) (Nat.le_trans hB hW.size) rfl hn).mono fun e w' h => by
    obtain ⟨⟨f, rfl, hfi⟩, hb⟩ := h
    cases f
    · exact ⟨rfl, hb⟩
    · exact absurd (hfi.1 rfl) hf))
  clear hU hQ hW hr hn
  have R0 := Lib.hid (show Blk (w.alloc (.cells #[.slice A n c, .int .i64 idle, .int .i64 price] 51)) w.heap.size 51 #[.slice A n c, .int .i64 idle, .int .i64 price] from Blk.newAt rfl)
  have HB0 := Lib.hid (show Below w.heap.size w (w.alloc (.cells #[.slice A n c, .int .i64 idle, .int .i64 price] 51)) from pa pr)
  go_enter Tryd.func6, Tryd.ntmps6
  go_wp2_with (first
    | (go_at_call 17; refine HAw.out.mono ?_; rintro e w1 ⟨rfl, hb⟩; have HB1 := Lib.hid (pt HB0.out hb); have R1 := Lib.hid (R0.out.past hb); clear hb; have x0 := R1.out.cellAt 0 rfl; have x1 := R1.out.cellAt 1 rfl; have x2 := R1.out.cellAt 2 rfl; have xl := R1.out.lt)
    | (go_at_call 24; refine (HFe.out _ HB1.out).mono ?_; rintro e w2 ⟨rfl, hb⟩; clear x0 x1 x2 xl; have HB2 := Lib.hid (pt HB1.out hb); have R2 := Lib.hid (R1.out.past hb); clear hb; have x0 := R2.out.cellAt 0 rfl; have x1 := R2.out.cellAt 1 rfl; have x2 := R2.out.cellAt 2 rfl; have xl := R2.out.lt))
  go_ret
  exact ⟨rfl, HB2.out⟩

set_option maxRecDepth 100000 in
set_option maxHeartbeats 8000000 in
theorem stocks_bad (B : Nat) (sl : List (List DPart)) (A : Option Addr) (n c : Nat) (idle price s : Int) (w : World) (hU : UnitIn w) (hQ : TabS 2 qWords w) (hW : TabS 0 uWords w) (hr : SlotsIn B w A sl) (hB : B ≤ w.heap.size) (hn : sl.length = n) (hf : FewP [] sl) (h0 : (stockE idle price sl).2 ≠ 0) :
    Calls Tryd.prog 6 #[.agg #[.slice A n c, .int .i64 idle, .int .i64 price], .int .i64 s] w fun e w' => e = .returned (.bool true) ∧ Below w.heap.size w w' := by
  obtain ⟨h7, hsm⟩ := few_small hf
  have hn7 : n ≤ 7 := by omega
  have hlp : ∀ l ∈ sl, l.length ≤ 1000 := fun l hl => (hsm l hl).1
  have HAw := Lib.hid (awake_any (w.alloc (.cells #[.slice A n c, .int .i64 idle, .int .i64 price] 51)) (hU.below (pa pr)) (hQ.below (pa pr)) (hW.below (pa pr)))
  have HFe := Lib.hid (fun W (hW : Below w.heap.size w W) => (show Calls Tryd.prog 24 #[.agg #[.slice none 0 0], .agg #[.slice A n c, .int .i64 idle, .int .i64 price]] W fun e w' => e = .returned (.bool true) ∧ Below W.heap.size W w' from (few_any B [] none 0 0 sl A n c idle price W (.inl rfl) (hr.below (hW.mono hB)) (Nat.le_trans hB hW.size) rfl hn).mono fun e w' h => by
    obtain ⟨⟨f, rfl, hfi⟩, hb⟩ := h
    cases f
    · exact absurd (hfi.2 hf) (by decide)
    · exact ⟨rfl, hb⟩))
  have HCp := Lib.hid (fun W (hW : Below w.heap.size w W) => (show Calls Tryd.prog 26 #[.agg #[.slice A n c, .int .i64 idle, .int .i64 price]] W fun e w' => ∃ A2 c2, e = .returned (.agg #[.slice A2 n c2, .int .i64 idle, .int .i64 price]) ∧ SlotsIn w'.heap.size w' A2 sl ∧ Below W.heap.size W w' from (copyStock_any B sl A n c idle price W (hr.below (hW.mono hB)) (Nat.le_trans hB hW.size) hn (by omega) hlp).mono fun e w' h => by
    obtain ⟨A2, c2, rfl, h2, _, h3⟩ := h
    rw [hn]
    exact ⟨A2, c2, rfl, h2, h3⟩))
  have HCk := Lib.hid (fun W A2 c2 (h : SlotsIn W.heap.size W A2 sl) => CheckStock_any W.heap.size sl A2 n c2 idle price W h (Nat.le_refl _) hn (by omega) hsm)
  have HRk := Lib.hid (fun W (hW : Below w.heap.size w W) => refCheckStock_any B sl A n c idle price W (hr.below (hW.mono hB)) (Nat.le_trans hB hW.size) hn (fun _ => hsm))
  have hue : undE idle price sl s = (stockE idle price sl).2 := if_neg h0
  have HUn := Lib.hid (fun (W : World) A2 c2 (h : SlotsIn W.heap.size W A2 sl) => und_err W.heap.size sl A2 n c2 idle price s W h (Nat.le_refl _) hn (by omega) hsm (by rw [hue]; exact h0))
  rw [hue] at HUn
  have e1 : ((stockE idle price sl).2 == 0) = false := by simpa using h0
  have e2 : ((stockE idle price sl).2 != 0) = true := by simpa using h0
  clear hue
  generalize (stockE idle price sl).2 = E at *
  generalize (stockE idle price sl).1 = I at *
  clear hU hQ hW hr hsm hlp hf
  have R0 := Lib.hid (show Blk (w.alloc (.cells #[.slice A n c, .int .i64 idle, .int .i64 price] 51)) w.heap.size 51 #[.slice A n c, .int .i64 idle, .int .i64 price] from Blk.newAt rfl)
  have HB0 := Lib.hid (show Below w.heap.size w (w.alloc (.cells #[.slice A n c, .int .i64 idle, .int .i64 price] 51)) from pa pr)
  have M1 := Lib.hid trivial
  go_enter Tryd.func6, Tryd.ntmps6
  go_wp2_with (first
    | (go_at_call 17; refine HAw.out.mono ?_; rintro e w1 ⟨rfl, hb⟩; have HB1 := Lib.hid (pt HB0.out hb); have R1 := Lib.hid (R0.out.past hb); clear hb; have x0 := R1.out.cellAt 0 rfl; have x1 := R1.out.cellAt 1 rfl; have x2 := R1.out.cellAt 2 rfl; have xl := R1.out.lt)
    | (go_at_call 24; refine (HFe.out _ HB1.out).mono ?_; rintro e w2 ⟨rfl, hb⟩; clear x0 x1 x2 xl; have HB2 := Lib.hid (pt HB1.out hb); have R2 := Lib.hid (R1.out.past hb); clear hb; have x0 := R2.out.cellAt 0 rfl; have x1 := R2.out.cellAt 1 rfl; have x2 := R2.out.cellAt 2 rfl; have xl := R2.out.lt)
    | (go_at_call 26; have hm := M1; clear M1 hm; refine (HCp.out _ HB2.out).mono ?_; rintro e w3 ⟨A3, c3, rfl, hs3, hb⟩; clear x0 x1 x2 xl; have HS3 := Lib.hid hs3; clear hs3; have HB3 := Lib.hid (pt HB2.out hb); have R3 := Lib.hid (R2.out.past hb); clear hb; have x0 := R3.out.cellAt 0 rfl; have x1 := R3.out.cellAt 1 rfl; have x2 := R3.out.cellAt 2 rfl; have xl := R3.out.lt)
    | (go_at_call 25; refine (HCk.out _ _ _ HS3.out).mono ?_; rintro e w4 ⟨rfl, hb⟩; clear x0 x1 x2 xl; have HB4 := Lib.hid (pt HB3.out hb); have R4 := Lib.hid (R3.out.past hb); clear hb; have x0 := R4.out.cellAt 0 rfl; have x1 := R4.out.cellAt 1 rfl; have x2 := R4.out.cellAt 2 rfl; have xl := R4.out.lt)
    | (go_at_call 26; refine (HCp.out _ HB4.out).mono ?_; rintro e w5 ⟨A5, c5, rfl, hs5, hb⟩; clear x0 x1 x2 xl; have HS5 := Lib.hid hs5; clear hs5; have HB5 := Lib.hid (pt HB4.out hb); have R5 := Lib.hid (R4.out.past hb); clear hb; have x0 := R5.out.cellAt 0 rfl; have x1 := R5.out.cellAt 1 rfl; have x2 := R5.out.cellAt 2 rfl; have xl := R5.out.lt)
    | (go_at_call 27; refine (HUn.out _ _ _ HS5.out).mono ?_; rintro e w6 ⟨rfl, hb⟩; clear x0 x1 x2 xl; have HB6 := Lib.hid (pt HB5.out hb); have R6 := Lib.hid (R5.out.past hb); clear hb; have x0 := R6.out.cellAt 0 rfl; have x1 := R6.out.cellAt 1 rfl; have x2 := R6.out.cellAt 2 rfl; have xl := R6.out.lt)
    | (go_at_call 28; refine (HRk.out _ HB6.out).mono ?_; rintro e w7 ⟨rfl, hb⟩; clear x0 x1 x2 xl; have HB7 := Lib.hid (pt HB6.out hb); have R7 := Lib.hid (R6.out.past hb); clear hb; have x0 := R7.out.cellAt 0 rfl; have x1 := R7.out.cellAt 1 rfl; have x2 := R7.out.cellAt 2 rfl; have xl := R7.out.lt))
  go_ret
  exact ⟨rfl, HB7.out⟩

set_option maxRecDepth 100000 in
set_option maxHeartbeats 8000000 in
theorem stocks_off (B : Nat) (sl : List (List DPart)) (A : Option Addr) (n c : Nat) (idle price s : Int) (w : World) (hU : UnitIn w) (hQ : TabS 2 qWords w) (hW : TabS 0 uWords w) (hr : SlotsIn B w A sl) (hB : B ≤ w.heap.size) (hn : sl.length = n) (hf : FewP [] sl) (h0 : (stockE idle price sl).2 = 0) (h1 : withinB s 0 ((n : Int) - 1) = false) :
    Calls Tryd.prog 6 #[.agg #[.slice A n c, .int .i64 idle, .int .i64 price], .int .i64 s] w fun e w' => e = .returned (.bool true) ∧ Below w.heap.size w w' := by
  obtain ⟨h7, hsm⟩ := few_small hf
  have hn7 : n ≤ 7 := by omega
  have hlp : ∀ l ∈ sl, l.length ≤ 1000 := fun l hl => (hsm l hl).1
  have HAw := Lib.hid (awake_any (w.alloc (.cells #[.slice A n c, .int .i64 idle, .int .i64 price] 51)) (hU.below (pa pr)) (hQ.below (pa pr)) (hW.below (pa pr)))
  have HFe := Lib.hid (fun W (hW : Below w.heap.size w W) => (show Calls Tryd.prog 24 #[.agg #[.slice none 0 0], .agg #[.slice A n c, .int .i64 idle, .int .i64 price]] W fun e w' => e = .returned (.bool true) ∧ Below W.heap.size W w' from (few_any B [] none 0 0 sl A n c idle price W (.inl rfl) (hr.below (hW.mono hB)) (Nat.le_trans hB hW.size) rfl hn).mono fun e w' h => by
    obtain ⟨⟨f, rfl, hfi⟩, hb⟩ := h
    cases f
    · exact absurd (hfi.2 hf) (by decide)
    · exact ⟨rfl, hb⟩))
  have HCp := Lib.hid (fun W (hW : Below w.heap.size w W) => (show Calls Tryd.prog 26 #[.agg #[.slice A n c, .int .i64 idle, .int .i64 price]] W fun e w' => ∃ A2 c2, e = .returned (.agg #[.slice A2 n c2, .int .i64 idle, .int .i64 price]) ∧ SlotsIn w'.heap.size w' A2 sl ∧ Below W.heap.size W w' from (copyStock_any B sl A n c idle price W (hr.below (hW.mono hB)) (Nat.le_trans hB hW.size) hn (by omega) hlp).mono fun e w' h => by
    obtain ⟨A2, c2, rfl, h2, _, h3⟩ := h
    rw [hn]
    exact ⟨A2, c2, rfl, h2, h3⟩))
  have HCk := Lib.hid (fun W A2 c2 (h : SlotsIn W.heap.size W A2 sl) => CheckStock_any W.heap.size sl A2 n c2 idle price W h (Nat.le_refl _) hn (by omega) hsm)
  have HRk := Lib.hid (fun W (hW : Below w.heap.size w W) => refCheckStock_any B sl A n c idle price W (hr.below (hW.mono hB)) (Nat.le_trans hB hW.size) hn (fun _ => hsm))
  have hue : undE idle price sl s = 6 := by unfold undE; rw [h0, hn, h1]; decide
  have HUn := Lib.hid (fun (W : World) A2 c2 (h : SlotsIn W.heap.size W A2 sl) => und_err W.heap.size sl A2 n c2 idle price s W h (Nat.le_refl _) hn (by omega) hsm (by rw [hue]; decide))
  rw [hue] at HUn
  rw [h0] at HCk HRk
  clear hue h0
  generalize (stockE idle price sl).1 = I at *
  clear hU hQ hW hr hsm hlp hf
  have R0 := Lib.hid (show Blk (w.alloc (.cells #[.slice A n c, .int .i64 idle, .int .i64 price] 51)) w.heap.size 51 #[.slice A n c, .int .i64 idle, .int .i64 price] from Blk.newAt rfl)
  have HB0 := Lib.hid (show Below w.heap.size w (w.alloc (.cells #[.slice A n c, .int .i64 idle, .int .i64 price] 51)) from pa pr)
  have M1 := Lib.hid trivial
  go_enter Tryd.func6, Tryd.ntmps6
  go_wp2_with (first
    | (go_at_call 17; refine HAw.out.mono ?_; rintro e w1 ⟨rfl, hb⟩; have HB1 := Lib.hid (pt HB0.out hb); have R1 := Lib.hid (R0.out.past hb); clear hb; have x0 := R1.out.cellAt 0 rfl; have x1 := R1.out.cellAt 1 rfl; have x2 := R1.out.cellAt 2 rfl; have xl := R1.out.lt)
    | (go_at_call 24; refine (HFe.out _ HB1.out).mono ?_; rintro e w2 ⟨rfl, hb⟩; clear x0 x1 x2 xl; have HB2 := Lib.hid (pt HB1.out hb); have R2 := Lib.hid (R1.out.past hb); clear hb; have x0 := R2.out.cellAt 0 rfl; have x1 := R2.out.cellAt 1 rfl; have x2 := R2.out.cellAt 2 rfl; have xl := R2.out.lt)
    | (go_at_call 26; have hm := M1; clear M1 hm; refine (HCp.out _ HB2.out).mono ?_; rintro e w3 ⟨A3, c3, rfl, hs3, hb⟩; clear x0 x1 x2 xl; have HS3 := Lib.hid hs3; clear hs3; have HB3 := Lib.hid (pt HB2.out hb); have R3 := Lib.hid (R2.out.past hb); clear hb; have x0 := R3.out.cellAt 0 rfl; have x1 := R3.out.cellAt 1 rfl; have x2 := R3.out.cellAt 2 rfl; have xl := R3.out.lt)
    | (go_at_call 25; refine (HCk.out _ _ _ HS3.out).mono ?_; rintro e w4 ⟨rfl, hb⟩; clear x0 x1 x2 xl; have HB4 := Lib.hid (pt HB3.out hb); have R4 := Lib.hid (R3.out.past hb); clear hb; have x0 := R4.out.cellAt 0 rfl; have x1 := R4.out.cellAt 1 rfl; have x2 := R4.out.cellAt 2 rfl; have xl := R4.out.lt)
    | (go_at_call 26; refine (HCp.out _ HB4.out).mono ?_; rintro e w5 ⟨A5, c5, rfl, hs5, hb⟩; clear x0 x1 x2 xl; have HS5 := Lib.hid hs5; clear hs5; have HB5 := Lib.hid (pt HB4.out hb); have R5 := Lib.hid (R4.out.past hb); clear hb; have x0 := R5.out.cellAt 0 rfl; have x1 := R5.out.cellAt 1 rfl; have x2 := R5.out.cellAt 2 rfl; have xl := R5.out.lt)
    | (go_at_call 27; refine (HUn.out _ _ _ HS5.out).mono ?_; rintro e w6 ⟨rfl, hb⟩; clear x0 x1 x2 xl; have HB6 := Lib.hid (pt HB5.out hb); have R6 := Lib.hid (R5.out.past hb); clear hb; have x0 := R6.out.cellAt 0 rfl; have x1 := R6.out.cellAt 1 rfl; have x2 := R6.out.cellAt 2 rfl; have xl := R6.out.lt)
    | (go_at_call 28; refine (HRk.out _ HB6.out).mono ?_; rintro e w7 ⟨rfl, hb⟩; clear x0 x1 x2 xl; have HB7 := Lib.hid (pt HB6.out hb); have R7 := Lib.hid (R6.out.past hb); clear hb; have x0 := R7.out.cellAt 0 rfl; have x1 := R7.out.cellAt 1 rfl; have x2 := R7.out.cellAt 2 rfl; have xl := R7.out.lt)
    | (go_at_call 8; refine (refWithin_any _ _ _ _).mono ?_; rintro e w' ⟨rfl, rfl⟩))
  go_ret
  exact ⟨rfl, HB7.out⟩

set_option maxRecDepth 100000 in
set_option maxHeartbeats 8000000 in
theorem stocks_ok (B : Nat) (sl : List (List DPart)) (A : Option Addr) (n c : Nat) (idle price s : Int) (w : World) (hU : UnitIn w) (hQ : TabS 2 qWords w) (hW : TabS 0 uWords w) (hr : SlotsIn B w A sl) (hB : B ≤ w.heap.size) (hn : sl.length = n) (hf : FewP [] sl) (h0 : (stockE idle price sl).2 = 0) (q : Nat) (hsq : s = (q : Int)) (hq : q < n) :
    Calls Tryd.prog 6 #[.agg #[.slice A n c, .int .i64 idle, .int .i64 price], .int .i64 s] w fun e w' => e = .returned (.bool true) ∧ Below w.heap.size w w' := by
  obtain ⟨h7, hsm⟩ := few_small hf
  have hn7 : n ≤ 7 := by omega
  have hlp : ∀ l ∈ sl, l.length ≤ 1000 := fun l hl => (hsm l hl).1
  have HAw := Lib.hid (awake_any (w.alloc (.cells #[.slice A n c, .int .i64 idle, .int .i64 price] 51)) (hU.below (pa pr)) (hQ.below (pa pr)) (hW.below (pa pr)))
  have HFe := Lib.hid (fun W (hW : Below w.heap.size w W) => (show Calls Tryd.prog 24 #[.agg #[.slice none 0 0], .agg #[.slice A n c, .int .i64 idle, .int .i64 price]] W fun e w' => e = .returned (.bool true) ∧ Below W.heap.size W w' from (few_any B [] none 0 0 sl A n c idle price W (.inl rfl) (hr.below (hW.mono hB)) (Nat.le_trans hB hW.size) rfl hn).mono fun e w' h => by
    obtain ⟨⟨f, rfl, hfi⟩, hb⟩ := h
    cases f
    · exact absurd (hfi.2 hf) (by decide)
    · exact ⟨rfl, hb⟩))
  have HCp := Lib.hid (fun W (hW : Below w.heap.size w W) => (show Calls Tryd.prog 26 #[.agg #[.slice A n c, .int .i64 idle, .int .i64 price]] W fun e w' => ∃ A2 c2, e = .returned (.agg #[.slice A2 n c2, .int .i64 idle, .int .i64 price]) ∧ SlotsIn w'.heap.size w' A2 sl ∧ Below W.heap.size W w' from (copyStock_any B sl A n c idle price W (hr.below (hW.mono hB)) (Nat.le_trans hB hW.size) hn (by omega) hlp).mono fun e w' h => by
    obtain ⟨A2, c2, rfl, h2, _, h3⟩ := h
    rw [hn]
    exact ⟨A2, c2, rfl, h2, h3⟩))
  have HCk := Lib.hid (fun W A2 c2 (h : SlotsIn W.heap.size W A2 sl) => CheckStock_any W.heap.size sl A2 n c2 idle price W h (Nat.le_refl _) hn (by omega) hsm)
  have HRk := Lib.hid (fun W (hW : Below w.heap.size w W) => refCheckStock_any B sl A n c idle price W (hr.below (hW.mono hB)) (Nat.le_trans hB hW.size) hn (fun _ => hsm))
  subst hsq
  have h1 : withinB (q : Int) 0 ((n : Int) - 1) = true := by simp only [withinB, Bool.and_eq_true, decide_eq_true_eq]; omega
  have hml := hlp (sl.getD q []) (by simp [List.getD, show q < sl.length by omega])
  have HUn := Lib.hid (fun (W : World) A2 c2 (h : SlotsIn W.heap.size W A2 sl) => und_any W.heap.size sl A2 n c2 idle price q W h (Nat.le_refl _) hn (by omega) hsm h0 hq)
  have HRu := Lib.hid (fun W (hW : Below w.heap.size w W) => refUnd_any B sl A n c idle price q W (hr.below (hW.mono hB)) (Nat.le_trans hB hW.size) hn hq hml)
  rw [h0] at HCk HRk
  have hul := undK_len (sl.getD q []) (sl.getD q []).length
  clear h0
  generalize (stockE idle price sl).1 = I at *
  generalize undK (sl.getD q []) (sl.getD q []).length = L at *
  have HIn := Lib.hid (fun (W : World) A1 A2 c1 c2 (h1 : IntsIn W.heap.size W A1 L) (h2 : IntsIn W.heap.size W A2 L) => (show Calls Tryd.prog 22 #[.slice A1 L.length c1, .slice A2 L.length c2] W fun e w' => e = .returned (.bool true) ∧ Below W.heap.size W w' by
    have h := ints_any W.heap.size A1 A2 c1 c2 L L W h1 h2 (by omega)
    rw [show intsB L L = true by simp [intsB]] at h
    exact h))
  clear hul hml
  clear hU hQ hW hr hsm hlp hf
  have R0 := Lib.hid (show Blk (w.alloc (.cells #[.slice A n c, .int .i64 idle, .int .i64 price] 51)) w.heap.size 51 #[.slice A n c, .int .i64 idle, .int .i64 price] from Blk.newAt rfl)
  have HB0 := Lib.hid (show Below w.heap.size w (w.alloc (.cells #[.slice A n c, .int .i64 idle, .int .i64 price] 51)) from pa pr)
  have M1 := Lib.hid trivial
  go_enter Tryd.func6, Tryd.ntmps6
  go_wp2_with (first
    | (go_at_call 17; refine HAw.out.mono ?_; rintro e w1 ⟨rfl, hb⟩; have HB1 := Lib.hid (pt HB0.out hb); have R1 := Lib.hid (R0.out.past hb); clear hb; have x0 := R1.out.cellAt 0 rfl; have x1 := R1.out.cellAt 1 rfl; have x2 := R1.out.cellAt 2 rfl; have xl := R1.out.lt)
    | (go_at_call 24; refine (HFe.out _ HB1.out).mono ?_; rintro e w2 ⟨rfl, hb⟩; clear x0 x1 x2 xl; have HB2 := Lib.hid (pt HB1.out hb); have R2 := Lib.hid (R1.out.past hb); clear hb; have x0 := R2.out.cellAt 0 rfl; have x1 := R2.out.cellAt 1 rfl; have x2 := R2.out.cellAt 2 rfl; have xl := R2.out.lt)
    | (go_at_call 26; have hm := M1; clear M1 hm; refine (HCp.out _ HB2.out).mono ?_; rintro e w3 ⟨A3, c3, rfl, hs3, hb⟩; clear x0 x1 x2 xl; have HS3 := Lib.hid hs3; clear hs3; have HB3 := Lib.hid (pt HB2.out hb); have R3 := Lib.hid (R2.out.past hb); clear hb; have x0 := R3.out.cellAt 0 rfl; have x1 := R3.out.cellAt 1 rfl; have x2 := R3.out.cellAt 2 rfl; have xl := R3.out.lt)
    | (go_at_call 25; refine (HCk.out _ _ _ HS3.out).mono ?_; rintro e w4 ⟨rfl, hb⟩; clear x0 x1 x2 xl; have HB4 := Lib.hid (pt HB3.out hb); have R4 := Lib.hid (R3.out.past hb); clear hb; have x0 := R4.out.cellAt 0 rfl; have x1 := R4.out.cellAt 1 rfl; have x2 := R4.out.cellAt 2 rfl; have xl := R4.out.lt)
    | (go_at_call 26; refine (HCp.out _ HB4.out).mono ?_; rintro e w5 ⟨A5, c5, rfl, hs5, hb⟩; clear x0 x1 x2 xl; have HS5 := Lib.hid hs5; clear hs5; have HB5 := Lib.hid (pt HB4.out hb); have R5 := Lib.hid (R4.out.past hb); clear hb; have x0 := R5.out.cellAt 0 rfl; have x1 := R5.out.cellAt 1 rfl; have x2 := R5.out.cellAt 2 rfl; have xl := R5.out.lt)
    | (go_at_call 27; refine (HUn.out _ _ _ HS5.out).mono ?_; rintro e w6 ⟨A6, c6, rfl, hi6, hb⟩; have HI6 := Lib.hid hi6; clear hi6; clear x0 x1 x2 xl; have HB6 := Lib.hid (pt HB5.out hb); have R6 := Lib.hid (R5.out.past hb); clear hb; have x0 := R6.out.cellAt 0 rfl; have x1 := R6.out.cellAt 1 rfl; have x2 := R6.out.cellAt 2 rfl; have xl := R6.out.lt)
    | (go_at_call 28; refine (HRk.out _ HB6.out).mono ?_; rintro e w7 ⟨rfl, hb⟩; clear x0 x1 x2 xl; have HI7 := Lib.hid ((HI6.out.below hb).more hb.size); have HB7 := Lib.hid (pt HB6.out hb); have R7 := Lib.hid (R6.out.past hb); clear hb; have x0 := R7.out.cellAt 0 rfl; have x1 := R7.out.cellAt 1 rfl; have x2 := R7.out.cellAt 2 rfl; have xl := R7.out.lt)
    | (go_at_call 8; refine (refWithin_any _ _ _ _).mono ?_; rintro e w' ⟨rfl, rfl⟩; rw [h1])
    | (go_at_call 29; refine (HRu.out _ HB7.out).mono ?_; rintro e w8 ⟨A8, c8, rfl, hi8, hb⟩; clear x0 x1 x2 xl; have HI8 := Lib.hid hi8; have HI78 := Lib.hid ((HI7.out.below hb).more hb.size); clear hi8; have HB8 := Lib.hid (pt HB7.out hb); have R8 := Lib.hid (R7.out.past hb); clear hb; have x0 := R8.out.cellAt 0 rfl; have x1 := R8.out.cellAt 1 rfl; have x2 := R8.out.cellAt 2 rfl; have xl := R8.out.lt)
    | (go_at_call 22; refine (HIn.out _ _ _ _ _ HI78.out HI8.out).mono ?_; rintro e w9 ⟨rfl, hb⟩; have HB9 := Lib.hid (pt HB8.out hb); clear hb))
  go_ret
  exact ⟨rfl, HB9.out⟩

theorem designStocks_any (B : Nat) (sl : List (List DPart)) (A : Option Addr) (n c : Nat) (idle price s : Int) (w : World) (hU : UnitIn w) (hQ : TabS 2 qWords w) (hW : TabS 0 uWords w) (hr : SlotsIn B w A sl) (hB : B ≤ w.heap.size) (hn : sl.length = n) :
    Calls Tryd.prog 6 #[.agg #[.slice A n c, .int .i64 idle, .int .i64 price], .int .i64 s] w fun e w' => e = .returned (.bool true) ∧ Below w.heap.size w w' := by
  by_cases hf : FewP [] sl
  · by_cases h0 : (stockE idle price sl).2 = 0
    · cases h1 : withinB s 0 ((n : Int) - 1)
      · exact stocks_off B sl A n c idle price s w hU hQ hW hr hB hn hf h0 h1
      · have h2 : 0 ≤ s ∧ s ≤ (n : Int) - 1 := by simpa [withinB] using h1
        exact stocks_ok B sl A n c idle price s w hU hQ hW hr hB hn hf h0 s.toNat (by omega) (by omega)
    · exact stocks_bad B sl A n c idle price s w hU hQ hW hr hB hn hf h0
  · exact stocks_far B sl A n c idle price s w hU hQ hW hr hB hn hf

end Go.Proofs.YtabbehmodmmgoaaDoor
end
