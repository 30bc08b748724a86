/- WorksPlans: contracts of the program's HeadsOf and TailsOf, the walk and the statement. For every input the law returns true, and each argument reads afterwards as it read before. No condition. -/
import Derived.Test.YtlgioldmjohhlaaR3HeadsLaw
import Derived.Test.YtlgioldmjohhlaaM6
import Derived.Test.YtlgioldmjohhlaaP2Copies
import Derived.Test.YtlgioldmjohhlaaP3Few
import Derived.Test.YtlgioldmjohhlaaP6CheckPlan
import Derived.Test.YtlgioldmjohhlaaPAOpen
import Derived.Test.YtlgioldmjohhlaaM9
import Derived.Test.YtlgioldmjohhlaaMA
namespace Go.Proofs.Ytlgioldmjohhlaa
open Go.ChangeShapes Go.WideShapes Go.ChangeAt Go.RowKit Go.Joins Go.Deep

theorem ints_of_blk {w : World} {g B : Nat} {xs : List Int} (h : Blk w g 3 (iarr xs)) (hB : g < B) : IntsIn B w (some ⟨g, 0, none⟩) xs :=
  .inr ⟨g, 0, rfl, hB, fun j hj => by rw [Nat.zero_add]; exact h.cellAt j (iarr_get xs j hj)⟩

def RowPost (w : World) (xs : List Int) (f : Value → Value) (e : Ending) (w' : World) : Prop := ∃ A c, e = .returned (f (.slice A xs.length c)) ∧ IntsIn w'.heap.size w' A xs ∧ Below w.heap.size w w'

section
variable (B : Nat) (ts : List Task) (A : Option Addr) (c : Nat) (m : Int) (w : World)
theorem worksHeadsOf_err (hr : TasksIn B w A ts) (hB : B ≤ w.heap.size) (hs : SmallPlan ts) (he : (openV m ts).2 ≠ 0) :
    Calls Try.prog 62 #[.agg #[.int .i64 m, .slice A ts.length c]] w fun e w' => e = .returned (.tuple #[.slice none 0 0, .int .i64 (openV m ts).2]) ∧ Below w.heap.size w w' := by
  have HO := Lib.hid (opened_any B ts A c m (w.alloc (.cells #[.int .i64 m, .slice A ts.length c] 24)) (hr.below ((pa pr).mono hB)) (by simp; omega) hs)
  have hne : ((openV m ts).2 != 0) = true := by simpa using he
  clear he hs
  generalize (openV m ts).2 = E at *
  go_enter Try.func62, Try.ntmps62
  go_wp2_with (go_at_call 80; go_must (refine HO.out.mono ?_); rintro e w1 ⟨rfl, hb1⟩)
  go_ret2
  exact ⟨rfl, pa (pt (pa pr) hb1)⟩
theorem worksHeadsOf_ok (hr : TasksIn B w A ts) (hB : B ≤ w.heap.size) (hs : SmallPlan ts) (he : (openV m ts).2 = 0) :
    Calls Try.prog 62 #[.agg #[.int .i64 m, .slice A ts.length c]] w (RowPost w (headsV ts) (fun v => .tuple #[v, .int .i64 0])) := by
  obtain ⟨ha, hl, _⟩ := open_ok he
  have hopen := opened_any B ts A c m (w.alloc (.cells #[.int .i64 m, .slice A ts.length c] 24)) (hr.below ((pa pr).mono hB)) (by simp; omega) hs
  rw [he] at hopen
  have HO := Lib.hid hopen
  have HC := Lib.hid fun W (hW : Below w.heap.size w W) => (callsIn_wide (n := 2)).1 (heads_in B 2 ts A c m W (Nat.le_refl _) (hr.below (hW.mono hB)) (Nat.le_trans hB hW.size) ha hl)
  have HLn := Lib.hid (heads_len ha)
  clear hopen he hs
  go_enter Try.func62, Try.ntmps62
  go_wp2_with (first
    | (go_at_call 80; go_must (refine HO.out.mono ?_); rintro e w1 ⟨rfl, hb1⟩)
    | (go_at_call 116; go_must (refine (HC.out _ (pa (pt (pa pr) hb1))).mono ?_); rintro e w2 ⟨g, rfl, hg, hgl, hb2⟩))
  go_ret2
  exact ⟨some ⟨g, 0, none⟩, ts.length, by rw [HLn.out]; rfl, ints_of_blk hg hg.lt, pt (pa (pt (pa pr) hb1)) hb2⟩
theorem refHeadsOf_any (hr : TasksIn B w A ts) (hB : B ≤ w.heap.size) (he : (openV m ts).2 = 0) :
    Calls Try.prog 65 #[.agg #[.int .i64 m, .slice A ts.length c]] w (RowPost w (headsV ts) id) := by
  obtain ⟨ha, hl, _⟩ := open_ok he
  refine (refHeads_any B ts A c m w hr hB ha.1 hl).mono ?_
  rintro e w' ⟨g, rfl, hg, _, hb⟩
  rw [heads_same ha hl] at hg
  exact ⟨some ⟨g, 0, none⟩, ts.length, by rw [heads_len ha]; rfl, ints_of_blk hg hg.lt, hb⟩
theorem worksTailsOf_err (hr : TasksIn B w A ts) (hB : B ≤ w.heap.size) (hs : SmallPlan ts) (he : (openV m ts).2 ≠ 0) :
    Calls Try.prog 63 #[.agg #[.int .i64 m, .slice A ts.length c]] w fun e w' => e = .returned (.tuple #[.slice none 0 0, .int .i64 (openV m ts).2]) ∧ Below w.heap.size w w' := by
  have HO := Lib.hid (opened_any B ts A c m (w.alloc (.cells #[.int .i64 m, .slice A ts.length c] 24)) (hr.below ((pa pr).mono hB)) (by simp; omega) hs)
  have hne : ((openV m ts).2 != 0) = true := by simpa using he
  clear he hs
  generalize (openV m ts).2 = E at *
  go_enter Try.func63, Try.ntmps63
  go_wp2_with (go_at_call 80; go_must (refine HO.out.mono ?_); rintro e w1 ⟨rfl, hb1⟩)
  go_ret2
  exact ⟨rfl, pa (pt (pa pr) hb1)⟩
theorem worksTailsOf_ok (hr : TasksIn B w A ts) (hB : B ≤ w.heap.size) (hs : SmallPlan ts) (he : (openV m ts).2 = 0) :
    Calls Try.prog 63 #[.agg #[.int .i64 m, .slice A ts.length c]] w (RowPost w (tailsV ts) (fun v => .tuple #[v, .int .i64 0])) := by
  obtain ⟨ha, hl, _⟩ := open_ok he
  have hopen := opened_any B ts A c m (w.alloc (.cells #[.int .i64 m, .slice A ts.length c] 24)) (hr.below ((pa pr).mono hB)) (by simp; omega) hs
  rw [he] at hopen
  have HO := Lib.hid hopen
  have HC := Lib.hid fun W (hW : Below w.heap.size w W) => (callsIn_wide (n := 3)).1 (tails_in B 3 ts A c m W (Nat.le_refl _) (hr.below (hW.mono hB)) (Nat.le_trans hB hW.size) ha hl)
  have HLn := Lib.hid ((tails_facts ha).1)
  clear hopen he hs
  go_enter Try.func63, Try.ntmps63
  go_wp2_with (first
    | (go_at_call 80; go_must (refine HO.out.mono ?_); rintro e w1 ⟨rfl, hb1⟩)
    | (go_at_call 81; go_must (refine (HC.out _ (pa (pt (pa pr) hb1))).mono ?_); rintro e w2 ⟨g, rfl, hg, hgl, hb2⟩))
  go_ret2
  exact ⟨some ⟨g, 0, none⟩, ts.length, by rw [HLn.out]; rfl, ints_of_blk hg hg.lt, pt (pa (pt (pa pr) hb1)) hb2⟩
theorem refTailsOf_any (hr : TasksIn B w A ts) (hB : B ≤ w.heap.size) (he : (openV m ts).2 = 0) :
    Calls Try.prog 66 #[.agg #[.int .i64 m, .slice A ts.length c]] w (RowPost w (tailsV ts) id) := by
  obtain ⟨ha, hl, _⟩ := open_ok he
  refine (refTails_any B ts A c m w hr hB ha.1 hl).mono ?_
  rintro e w' ⟨g, rfl, hg, _, hb⟩
  rw [tails_same ha] at hg
  exact ⟨some ⟨g, 0, none⟩, ts.length, by rw [(tails_facts ha).1]; rfl, ints_of_blk hg hg.lt, hb⟩
end


set_option maxHeartbeats 2000000 in
set_option maxRecDepth 100000 in
theorem plans_skip (A : Option Addr) (c : Nat) (m : Int) (ts : List Task) (w : World) (hr : TasksIn w.heap.size w A ts) (h : fewB ts = false) :
    Calls Try.prog 11 #[.agg #[.int .i64 m, .slice A ts.length c]] w fun e w' => e = .returned (.bool true) ∧ Below w.heap.size w w' := by
  have hsm := fun W (hW : Below w.heap.size w W) => few_any w.heap.size ts A c m W (hr.below hW) hW.size
  have HBx := Lib.hid (show Below w.heap.size w (w.alloc (.cells #[.int .i64 m, .slice A ts.length c] 24)) from pa pr); have HBk := Lib.hid (show Blk (w.alloc (.cells #[.int .i64 m, .slice A ts.length c] 24)) w.heap.size 24 #[.int .i64 m, .slice A ts.length c] from Blk.newAt rfl)
  rw [h] at hsm
  have HSm := Lib.hid hsm
  clear hr hsm h
  go_enter Try.func11, Try.ntmps11
  go_wp2_with (first
    | (go_at_call 15; refine (awake_any _).mono ?_; rintro e w1 ⟨rfl, hb⟩; replace HBk := Lib.hid (HBk.out.past hb); replace HBx := Lib.hid (pt HBx.out hb); (try (replace HI5 := Lib.hid ((HI5.out.below hb).more hb.size))); (try (replace HI7 := Lib.hid ((HI7.out.below hb).more hb.size))); clear hb; (try clear e0 e1 x1); have e0 := HBk.out.cellAt 0 rfl; have e1 := HBk.out.cellAt 1 rfl; have x1 := HBk.out.lt)
    | (go_at_call 16; go_must (refine (HSm.out _ HBx.out).mono ?_); rintro e w1 ⟨rfl, hb⟩; replace HBk := Lib.hid (HBk.out.past hb); replace HBx := Lib.hid (pt HBx.out hb); (try (replace HI5 := Lib.hid ((HI5.out.below hb).more hb.size))); (try (replace HI7 := Lib.hid ((HI7.out.below hb).more hb.size))); clear hb; (try clear e0 e1 x1); have e0 := HBk.out.cellAt 0 rfl; have e1 := HBk.out.cellAt 1 rfl; have x1 := HBk.out.lt))
  go_ret
  exact ⟨rfl, HBx.out⟩

set_option maxHeartbeats 4000000 in
set_option maxRecDepth 100000 in
theorem plans_go (A : Option Addr) (c : Nat) (m : Int) (ts : List Task) (w : World) (hr : TasksIn w.heap.size w A ts) (h : fewB ts = true) :
    Calls Try.prog 11 #[.agg #[.int .i64 m, .slice A ts.length c]] w fun e w' => e = .returned (.bool true) ∧ Below w.heap.size w w' := by
  have hs := few_small h
  have hsm := fun W (hW : Below w.heap.size w W) => few_any w.heap.size ts A c m W (hr.below hW) hW.size
  rw [h] at hsm
  have hcp := fun W A1 c1 (h1 : TasksIn W.heap.size W A1 ts) => checkPlan_any W.heap.size ts A1 c1 m W h1 (Nat.le_refl _) hs
  have hrc := fun W (hW : Below w.heap.size w W) => refCheckPlan_any w.heap.size ts A c m W (hr.below hW) hW.size hs
  have HS := Lib.hid hs
  have HSm := Lib.hid hsm
  have HR := Lib.hid hr
  have HBx := Lib.hid (show Below w.heap.size w (w.alloc (.cells #[.int .i64 m, .slice A ts.length c] 24)) from pa pr); have HBk := Lib.hid (show Blk (w.alloc (.cells #[.int .i64 m, .slice A ts.length c] 24)) w.heap.size 24 #[.int .i64 m, .slice A ts.length c] from Blk.newAt rfl)
  by_cases h0 : (openV m ts).2 = 0
  · have HHe := Lib.hid fun W A1 c1 (h1 : TasksIn W.heap.size W A1 ts) => worksHeadsOf_ok W.heap.size ts A1 c1 m W h1 (Nat.le_refl _) hs h0
    have HTa := Lib.hid fun W A1 c1 (h1 : TasksIn W.heap.size W A1 ts) => worksTailsOf_ok W.heap.size ts A1 c1 m W h1 (Nat.le_refl _) hs h0
    have HRh := Lib.hid fun W (hW : Below w.heap.size w W) => refHeadsOf_any w.heap.size ts A c m W (hr.below hW) hW.size h0
    have HRt := Lib.hid fun W (hW : Below w.heap.size w W) => refTailsOf_any w.heap.size ts A c m W (hr.below hW) hW.size h0
    have hl1 : (headsV ts).length = ts.length := heads_len (open_ok h0).1
    have hl2 : (tailsV ts).length = ts.length := (tails_facts (open_ok h0).1).1
    have h7 := (open_ok h0).1.1.1
    rw [h0] at hcp hrc
    have HCp := Lib.hid hcp
    have HRc := Lib.hid hrc
    clear hr hs hsm hcp hrc h h0
    generalize (openV m ts).1 = K at *
    generalize headsV ts = L1 at *
    generalize tailsV ts = L2 at *
    have HL7 := Lib.hid (show L1.length ≤ 7 ∧ L2.length ≤ 7 by omega)
    clear hl1 hl2
    go_enter Try.func11, Try.ntmps11
    go_wp2_with (first
      | (go_at_call 15; refine (awake_any _).mono ?_; rintro e w1 ⟨rfl, hb⟩; replace HBk := Lib.hid (HBk.out.past hb); replace HBx := Lib.hid (pt HBx.out hb); (try (replace HI5 := Lib.hid ((HI5.out.below hb).more hb.size))); (try (replace HI7 := Lib.hid ((HI7.out.below hb).more hb.size))); clear hb; (try clear e0 e1 x1); have e0 := HBk.out.cellAt 0 rfl; have e1 := HBk.out.cellAt 1 rfl; have x1 := HBk.out.lt)
      | (go_at_call 16; go_must (refine (HSm.out _ HBx.out).mono ?_); rintro e w1 ⟨rfl, hb⟩; replace HBk := Lib.hid (HBk.out.past hb); replace HBx := Lib.hid (pt HBx.out hb); (try (replace HI5 := Lib.hid ((HI5.out.below hb).more hb.size))); (try (replace HI7 := Lib.hid ((HI7.out.below hb).more hb.size))); clear hb; (try clear e0 e1 x1); have e0 := HBk.out.cellAt 0 rfl; have e1 := HBk.out.cellAt 1 rfl; have x1 := HBk.out.lt)
      | (go_at_call 19; go_must (refine (copyPlan_any w.heap.size ts A ts.length c m _ (HR.out.below HBx.out) rfl HBx.out.size HS.out).mono ?_); rintro e w2 ⟨A1, c1, rfl, hl1, hc1, hb⟩; have HL1 := Lib.hid hl1; replace HBk := Lib.hid (HBk.out.past hb); replace HBx := Lib.hid (pt HBx.out hb); (try (replace HI5 := Lib.hid ((HI5.out.below hb).more hb.size))); (try (replace HI7 := Lib.hid ((HI7.out.below hb).more hb.size))); clear hb; (try clear e0 e1 x1); have e0 := HBk.out.cellAt 0 rfl; have e1 := HBk.out.cellAt 1 rfl; have x1 := HBk.out.lt; clear hl1 hc1)
      | (go_at_call 61; go_must (refine (HCp.out _ A1 c1 HL1.out).mono ?_); rintro e w3 ⟨rfl, hb⟩; replace HBk := Lib.hid (HBk.out.past hb); replace HBx := Lib.hid (pt HBx.out hb); (try (replace HI5 := Lib.hid ((HI5.out.below hb).more hb.size))); (try (replace HI7 := Lib.hid ((HI7.out.below hb).more hb.size))); clear hb; (try clear e0 e1 x1); have e0 := HBk.out.cellAt 0 rfl; have e1 := HBk.out.cellAt 1 rfl; have x1 := HBk.out.lt)
      | (go_at_call 62; go_must (refine (HHe.out _ A1 c1 HL1.out).mono ?_); rintro e w4 ⟨A5, c5, rfl, hi5, hb⟩; replace HBk := Lib.hid (HBk.out.past hb); replace HBx := Lib.hid (pt HBx.out hb); (try (replace HI5 := Lib.hid ((HI5.out.below hb).more hb.size))); (try (replace HI7 := Lib.hid ((HI7.out.below hb).more hb.size))); clear hb; (try clear e0 e1 x1); have e0 := HBk.out.cellAt 0 rfl; have e1 := HBk.out.cellAt 1 rfl; have x1 := HBk.out.lt; have HI5 := Lib.hid hi5; clear hi5)
      | (go_at_call 63; go_must (refine (HTa.out _ A1 c1 HL1.out).mono ?_); rintro e w4 ⟨A7, c7, rfl, hi7, hb⟩; replace HBk := Lib.hid (HBk.out.past hb); replace HBx := Lib.hid (pt HBx.out hb); (try (replace HI5 := Lib.hid ((HI5.out.below hb).more hb.size))); (try (replace HI7 := Lib.hid ((HI7.out.below hb).more hb.size))); clear hb; (try clear e0 e1 x1); have e0 := HBk.out.cellAt 0 rfl; have e1 := HBk.out.cellAt 1 rfl; have x1 := HBk.out.lt; have HI7 := Lib.hid hi7; clear hi7)
      | (go_at_call 64; go_must (refine (HRc.out _ HBx.out).mono ?_); rintro e w3 ⟨rfl, hb⟩; replace HBk := Lib.hid (HBk.out.past hb); replace HBx := Lib.hid (pt HBx.out hb); (try (replace HI5 := Lib.hid ((HI5.out.below hb).more hb.size))); (try (replace HI7 := Lib.hid ((HI7.out.below hb).more hb.size))); clear hb; (try clear e0 e1 x1); have e0 := HBk.out.cellAt 0 rfl; have e1 := HBk.out.cellAt 1 rfl; have x1 := HBk.out.lt)
      | (go_at_call 65; go_must (refine (HRh.out _ HBx.out).mono ?_); rintro e w5 ⟨A6, c6, rfl, hi6, hb⟩; replace HBk := Lib.hid (HBk.out.past hb); replace HBx := Lib.hid (pt HBx.out hb); (try (replace HI5 := Lib.hid ((HI5.out.below hb).more hb.size))); (try (replace HI7 := Lib.hid ((HI7.out.below hb).more hb.size))); clear hb; (try clear e0 e1 x1); have e0 := HBk.out.cellAt 0 rfl; have e1 := HBk.out.cellAt 1 rfl; have x1 := HBk.out.lt; have HI6 := Lib.hid hi6; clear hi6)
      | (go_at_call 66; go_must (refine (HRt.out _ HBx.out).mono ?_); rintro e w5 ⟨A8, c8, rfl, hi8, hb⟩; replace HBk := Lib.hid (HBk.out.past hb); replace HBx := Lib.hid (pt HBx.out hb); (try (replace HI5 := Lib.hid ((HI5.out.below hb).more hb.size))); (try (replace HI7 := Lib.hid ((HI7.out.below hb).more hb.size))); clear hb; (try clear e0 e1 x1); have e0 := HBk.out.cellAt 0 rfl; have e1 := HBk.out.cellAt 1 rfl; have x1 := HBk.out.lt; have HI8 := Lib.hid hi8; clear hi8)
      | (go_at_call 31; (with_reducible refine (ints_any _ A5 A6 c5 c6 L1 L1 _ HI5.out HI6.out (by have := HL7.out; omega)).mono ?_); rintro e w6 ⟨rfl, hb⟩; rw [show intsB L1 L1 = true by simp [intsB]]; replace HBk := Lib.hid (HBk.out.past hb); replace HBx := Lib.hid (pt HBx.out hb); (try (replace HI5 := Lib.hid ((HI5.out.below hb).more hb.size))); (try (replace HI7 := Lib.hid ((HI7.out.below hb).more hb.size))); clear hb; (try clear e0 e1 x1); have e0 := HBk.out.cellAt 0 rfl; have e1 := HBk.out.cellAt 1 rfl; have x1 := HBk.out.lt)
      | (go_at_call 31; go_must (refine (ints_any _ A7 A8 c7 c8 L2 L2 _ HI7.out HI8.out (by have := HL7.out; omega)).mono ?_); rintro e w6 ⟨rfl, hb⟩; rw [show intsB L2 L2 = true by simp [intsB]]; replace HBk := Lib.hid (HBk.out.past hb); replace HBx := Lib.hid (pt HBx.out hb); (try (replace HI5 := Lib.hid ((HI5.out.below hb).more hb.size))); (try (replace HI7 := Lib.hid ((HI7.out.below hb).more hb.size))); clear hb; (try clear e0 e1 x1); have e0 := HBk.out.cellAt 0 rfl; have e1 := HBk.out.cellAt 1 rfl; have x1 := HBk.out.lt))
    go_ret
    exact ⟨rfl, HBx.out⟩
  · have HHe := Lib.hid fun W A1 c1 (h1 : TasksIn W.heap.size W A1 ts) => worksHeadsOf_err W.heap.size ts A1 c1 m W h1 (Nat.le_refl _) hs h0
    have HTa := Lib.hid fun W A1 c1 (h1 : TasksIn W.heap.size W A1 ts) => worksTailsOf_err W.heap.size ts A1 c1 m W h1 (Nat.le_refl _) hs h0
    have HCp := Lib.hid hcp
    have HRc := Lib.hid hrc
    clear hr hs hsm hcp hrc h
    generalize (openV m ts).1 = K at *
    generalize (openV m ts).2 = E at *
    have h1 : (E != 0) = true := by simpa using h0
    have h2 : (E == 0) = false := by simpa using h0
    go_enter Try.func11, Try.ntmps11
    go_wp2_with (first
      | (go_at_call 15; refine (awake_any _).mono ?_; rintro e w1 ⟨rfl, hb⟩; replace HBk := Lib.hid (HBk.out.past hb); replace HBx := Lib.hid (pt HBx.out hb); (try (replace HI5 := Lib.hid ((HI5.out.below hb).more hb.size))); (try (replace HI7 := Lib.hid ((HI7.out.below hb).more hb.size))); clear hb; (try clear e0 e1 x1); have e0 := HBk.out.cellAt 0 rfl; have e1 := HBk.out.cellAt 1 rfl; have x1 := HBk.out.lt)
      | (go_at_call 16; go_must (refine (HSm.out _ HBx.out).mono ?_); rintro e w1 ⟨rfl, hb⟩; replace HBk := Lib.hid (HBk.out.past hb); replace HBx := Lib.hid (pt HBx.out hb); (try (replace HI5 := Lib.hid ((HI5.out.below hb).more hb.size))); (try (replace HI7 := Lib.hid ((HI7.out.below hb).more hb.size))); clear hb; (try clear e0 e1 x1); have e0 := HBk.out.cellAt 0 rfl; have e1 := HBk.out.cellAt 1 rfl; have x1 := HBk.out.lt)
      | (go_at_call 19; go_must (refine (copyPlan_any w.heap.size ts A ts.length c m _ (HR.out.below HBx.out) rfl HBx.out.size HS.out).mono ?_); rintro e w2 ⟨A1, c1, rfl, hl1, hc1, hb⟩; have HL1 := Lib.hid hl1; replace HBk := Lib.hid (HBk.out.past hb); replace HBx := Lib.hid (pt HBx.out hb); (try (replace HI5 := Lib.hid ((HI5.out.below hb).more hb.size))); (try (replace HI7 := Lib.hid ((HI7.out.below hb).more hb.size))); clear hb; (try clear e0 e1 x1); have e0 := HBk.out.cellAt 0 rfl; have e1 := HBk.out.cellAt 1 rfl; have x1 := HBk.out.lt; clear hl1 hc1)
      | (go_at_call 61; go_must (refine (HCp.out _ A1 c1 HL1.out).mono ?_); rintro e w3 ⟨rfl, hb⟩; replace HBk := Lib.hid (HBk.out.past hb); replace HBx := Lib.hid (pt HBx.out hb); (try (replace HI5 := Lib.hid ((HI5.out.below hb).more hb.size))); (try (replace HI7 := Lib.hid ((HI7.out.below hb).more hb.size))); clear hb; (try clear e0 e1 x1); have e0 := HBk.out.cellAt 0 rfl; have e1 := HBk.out.cellAt 1 rfl; have x1 := HBk.out.lt)
      | (go_at_call 62; go_must (refine (HHe.out _ A1 c1 HL1.out).mono ?_); rintro e w4 ⟨rfl, hb⟩; replace HBk := Lib.hid (HBk.out.past hb); replace HBx := Lib.hid (pt HBx.out hb); (try (replace HI5 := Lib.hid ((HI5.out.below hb).more hb.size))); (try (replace HI7 := Lib.hid ((HI7.out.below hb).more hb.size))); clear hb; (try clear e0 e1 x1); have e0 := HBk.out.cellAt 0 rfl; have e1 := HBk.out.cellAt 1 rfl; have x1 := HBk.out.lt)
      | (go_at_call 63; go_must (refine (HTa.out _ A1 c1 HL1.out).mono ?_); rintro e w4 ⟨rfl, hb⟩; replace HBk := Lib.hid (HBk.out.past hb); replace HBx := Lib.hid (pt HBx.out hb); (try (replace HI5 := Lib.hid ((HI5.out.below hb).more hb.size))); (try (replace HI7 := Lib.hid ((HI7.out.below hb).more hb.size))); clear hb; (try clear e0 e1 x1); have e0 := HBk.out.cellAt 0 rfl; have e1 := HBk.out.cellAt 1 rfl; have x1 := HBk.out.lt)
      | (go_at_call 64; go_must (refine (HRc.out _ HBx.out).mono ?_); rintro e w3 ⟨rfl, hb⟩; replace HBk := Lib.hid (HBk.out.past hb); replace HBx := Lib.hid (pt HBx.out hb); (try (replace HI5 := Lib.hid ((HI5.out.below hb).more hb.size))); (try (replace HI7 := Lib.hid ((HI7.out.below hb).more hb.size))); clear hb; (try clear e0 e1 x1); have e0 := HBk.out.cellAt 0 rfl; have e1 := HBk.out.cellAt 1 rfl; have x1 := HBk.out.lt))
    go_ret
    exact ⟨rfl, HBx.out⟩

theorem plans_walk (A : Option Addr) (c : Nat) (m : Int) (ts : List Task) (w : World) (hr : TasksIn w.heap.size w A ts) :
    Calls Try.prog 11 #[.agg #[.int .i64 m, .slice A ts.length c]] w fun e w' => e = .returned (.bool true) ∧ Below w.heap.size w w' := by
  cases h : fewB ts with
  | false => exact plans_skip A c m ts w hr h
  | true => exact plans_go A c m ts w hr h

set_option maxRecDepth 100000 in
theorem plans_lifted (os : Os) (started : os.Started) (H : Type) (enc : TypeId × Value → H) :
    ReturnsInHanded {} Try.checked os 11 .any (Rows.worksPlansSpec.pre6 enc Try.prog Try.f11 Rows.worksPlansRow.domain false) (Rows.worksPlansSpec.post enc Try.prog Try.f11 false true false false) := by
  refine returnsInHanded_of_change (C := Try.checked) own_knob started (by kernel_rfl) Try.func11
    (ChangeSpec.witness6 (enc := enc) (C := Try.checked) false ⟨#[], #[.agg #[.int .i64 0, .slice none 0 0]], []⟩ 8 (by kernel_rfl) (by kernel_rfl) (by kernel_rfl) (by kernel_rfl)) ?_
  intro W base args ds gs before hval0 hW _ _
  have hval : ∀ (j : Nat) t v, Try.f11.params[j]? = some t → args[j]? = some v → Value.okWide Try.prog W .any base t v := hval0
  have hW' := hW
  obtain ⟨p, q, hA0, hV, rfl, hfz, hnd⟩ := hW
  have hA : DataW.TrodAll enc Try.prog W 0 (fun _ => true) true Try.f11.params.toList args.toList ds p := hA0
  rw [Try.params11] at hA hval
  obtain ⟨v0, vs0, d0, ds0, p0, q0, hargs, rfl, rfl, h0, r0⟩ := trodAll_cons hA
  obtain ⟨rfl, rfl, rfl⟩ := trodAll_nil r0
  obtain rfl : args = #[v0] := by cases args; simp_all
  obtain ⟨m, A, c, ts, rfl, hi_, _, _⟩ := open_plan_arg (hval 0 _ v0 rfl rfl) h0
  clear hA0 hval0 hval hA h0 r0
  refine (plans_walk A c m ts W hi_).mono fun e W' ⟨he, hb⟩ => ?_
  subst he
  exact law_end laid_out (fun t ht => (by decide +kernel : ∀ t ∈ Try.f11.params.toList, Try.prog.readableRec t = true ∧ t < Try.prog.types.size) t ht) rfl Try.underlying4 rfl rfl hW' hb

theorem plans_over : Rows.worksPlansRow.holds Try.pinned (OpenSpec.ofChange Rows.worksPlansSpec) :=
  OpenClaim.holds_of_wide 11 Try.f11 rfl rfl rfl rfl rfl rfl rfl ⟨rfl, rfl, rfl, rfl, rfl⟩ rfl rfl rfl rfl rfl (by kernel_rfl) Try.func11 (by kernel_rfl)
    (of_decide_eq_true (by kernel_rfl)) (by unfold Func.isWrapper; first | (rw [if_pos (by decide +kernel)]; kernel_rfl) | (rw [if_neg (by decide +kernel)]; exact ⟨rfl, rfl⟩))
    (fun os started H enc _ => plans_lifted os started H enc)

theorem plans_holds : Rows.WorksPlansSaid := plans_over
#print axioms plans_holds

end Go.Proofs.Ytlgioldmjohhlaa
