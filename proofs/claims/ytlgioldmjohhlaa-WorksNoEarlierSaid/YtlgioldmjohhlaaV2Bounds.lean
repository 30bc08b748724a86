/- WorksBounds: the walk and the statement. For every input the law returns true, and each argument reads afterwards as it read before. No condition. -/
import Derived.Test.YtlgioldmjohhlaaV0BoundLaw
import Derived.Test.YtlgioldmjohhlaaV1Errs
import Derived.Test.YtlgioldmjohhlaaP2Copies
import Derived.Test.YtlgioldmjohhlaaP3Few
import Derived.Test.YtlgioldmjohhlaaP6CheckPlan
import Derived.Test.YtlgioldmjohhlaaPAOpen
import Derived.Test.YtlgioldmjohhlaaMB
import Derived.Test.YtlgioldmjohhlaaM9
import Derived.Test.YtlgioldmjohhlaaMA
namespace Go.Proofs.Ytlgioldmjohhlaa
open Go.ChangeShapes Go.WideShapes Go.ChangeAt Go.RowKit Go.Joins Go.Deep


set_option maxHeartbeats 2000000 in
set_option maxRecDepth 100000 in
theorem bounds_skip (A A2 : Option Addr) (c c2 : Nat) (m : Int) (ts : List Task) (ss : List Int) (w : World) (hr : TasksIn w.heap.size w A ts) (h : fewB ts = false ∨ (fewB ts = true ∧ 9 < ss.length)) :
    Calls Try.prog 13 #[.agg #[.int .i64 m, .slice A ts.length c], .slice A2 ss.length c2] w fun e w' => e = .returned (.bool true) ∧ Below w.heap.size w w' := by
  have hsm := fun W (hW : Below w.heap.size w W) => few_any w.heap.size ts A c m W (hr.below hW) hW.size
  have HBx := Lib.hid (show Below w.heap.size w (w.alloc (.cells #[.int .i64 m, .slice A ts.length c] 24)) from pa pr); have HBk := Lib.hid (show Blk (w.alloc (.cells #[.int .i64 m, .slice A ts.length c] 24)) w.heap.size 24 #[.int .i64 m, .slice A ts.length c] from Blk.newAt rfl)
  rcases h with h | ⟨h, hz⟩
  · rw [h] at hsm
    have HSm := Lib.hid hsm
    clear hr hsm h
    go_enter Try.func13, Try.ntmps13
    go_wp2_with (first
      | (go_at_call 15; refine (awake_any _).mono ?_; rintro e w1 ⟨rfl, hb⟩; replace HBk := Lib.hid (HBk.out.past hb); replace HBx := Lib.hid (pt HBx.out hb); (try (replace HI5 := Lib.hid ((HI5.out.below hb).more hb.size))); clear hb; (try clear e0 e1 x1); have e0 := HBk.out.cellAt 0 rfl; have e1 := HBk.out.cellAt 1 rfl; have x1 := HBk.out.lt)
      | (go_at_call 16; go_must (refine (HSm.out _ HBx.out).mono ?_); rintro e w1 ⟨rfl, hb⟩; replace HBk := Lib.hid (HBk.out.past hb); replace HBx := Lib.hid (pt HBx.out hb); (try (replace HI5 := Lib.hid ((HI5.out.below hb).more hb.size))); clear hb; (try clear e0 e1 x1); have e0 := HBk.out.cellAt 0 rfl; have e1 := HBk.out.cellAt 1 rfl; have x1 := HBk.out.lt))
    go_ret
    exact ⟨rfl, HBx.out⟩
  · rw [h] at hsm
    have HSm := Lib.hid hsm
    have hz2 : (9 : Int) < (ss.length : Int) := by omega
    clear hr hsm h
    go_enter Try.func13, Try.ntmps13
    go_wp2_with (first
      | (go_at_call 15; refine (awake_any _).mono ?_; rintro e w1 ⟨rfl, hb⟩; replace HBk := Lib.hid (HBk.out.past hb); replace HBx := Lib.hid (pt HBx.out hb); (try (replace HI5 := Lib.hid ((HI5.out.below hb).more hb.size))); clear hb; (try clear e0 e1 x1); have e0 := HBk.out.cellAt 0 rfl; have e1 := HBk.out.cellAt 1 rfl; have x1 := HBk.out.lt)
      | (go_at_call 16; go_must (refine (HSm.out _ HBx.out).mono ?_); rintro e w1 ⟨rfl, hb⟩; replace HBk := Lib.hid (HBk.out.past hb); replace HBx := Lib.hid (pt HBx.out hb); (try (replace HI5 := Lib.hid ((HI5.out.below hb).more hb.size))); clear hb; (try clear e0 e1 x1); have e0 := HBk.out.cellAt 0 rfl; have e1 := HBk.out.cellAt 1 rfl; have x1 := HBk.out.lt))
    go_ret
    exact ⟨rfl, HBx.out⟩

theorem bestS_ok (B : Nat) (ts : List Task) (A : Option Addr) (c : Nat) (m : Int) (w : World) (hr : TasksIn B w A ts) (hB : B ≤ w.heap.size) (hs : SmallPlan ts) (he : (openV m ts).2 = 0) (hn0 : 0 < ts.length) :
    Calls Try.prog 72 #[.agg #[.int .i64 m, .slice A ts.length c]] w fun e w' => ∃ A5 c5, e = .returned (.tuple #[.slice A5 (rbUpto ts ts.length).1.length c5, .int .i64 (rbUpto ts ts.length).2, .int .i64 0]) ∧ IntsIn w'.heap.size w' A5 (rbUpto ts ts.length).1 ∧ Below w.heap.size w w' := by
  obtain ⟨ha, hl, hm, _, _, hpos⟩ := open_ok he
  obtain ⟨hs1, _, _⟩ := bestBound_same ha hl hm (fun i hi => (hpos i hi).2) hn0
  refine (bestBound_ok B ts A c m w hr hB hs he hn0).mono ?_
  rintro e w' ⟨bv, rfl, hb, hbl⟩
  rw [hs1] at hb ⊢
  rcases hb with ⟨h, _⟩ | ⟨l, A5, c5, h1, rfl, h3⟩
  · cases h
  · injection h1 with h1
    subst h1
    exact ⟨some A5, c5, rfl, h3, hbl⟩

set_option maxHeartbeats 4000000 in
set_option maxRecDepth 100000 in
theorem bounds_go (A A2 : Option Addr) (c c2 : Nat) (m : Int) (ts : List Task) (ss : List Int) (w : World) (hr : TasksIn w.heap.size w A ts) (hr2 : IntsIn w.heap.size w A2 ss) (h : fewB ts = true) (hz : ss.length ≤ 9) :
    Calls Try.prog 13 #[.agg #[.int .i64 m, .slice A ts.length c], .slice A2 ss.length c2] w fun e w' => e = .returned (.bool true) ∧ Below w.heap.size w w' := by
  have hs := few_small h
  have hsm := fun W (hW : Below w.heap.size w W) => few_any w.heap.size ts A c m W (hr.below hW) hW.size
  rw [h] at hsm
  have hpe := fun W (hW : Below w.heap.size w W) => refPlanErr_any w.heap.size ts A c m W (hr.below hW) hW.size hs
  have hz1 : decide ((9 : Int) < (ss.length : Int)) = false := decide_eq_false (by omega)
  have hz2 : ¬ 9 < ss.length := by omega
  have HS := Lib.hid hs
  have HSm := Lib.hid hsm
  have HR := Lib.hid hr
  have HR2 := Lib.hid hr2
  have HBx := Lib.hid (show Below w.heap.size w (w.alloc (.cells #[.int .i64 m, .slice A ts.length c] 24)) from pa pr); have HBk := Lib.hid (show Blk (w.alloc (.cells #[.int .i64 m, .slice A ts.length c] 24)) w.heap.size 24 #[.int .i64 m, .slice A ts.length c] from Blk.newAt rfl)
  by_cases h0 : (openV m ts).2 = 0
  · obtain ⟨ha, hl, hm, _, _, hpos⟩ := open_ok h0
    have hp : PosOk ts := fun i hi => (hpos i hi).2
    rw [h0] at hpe
    have HPe := Lib.hid hpe
    have h7 := ha.1.1
    have HPa := Lib.hid fun W A1 c1 (h1 : TasksIn W.heap.size W A1 ts) => path_ok W.heap.size ts A1 c1 m W h1 (Nat.le_refl _) hs h0
    have hbu := fun W A1 A4 c1 c4 (h1 : TasksIn W.heap.size W A1 ts) (h2 : IntsIn W.heap.size W A4 ss) => busyBound_ok W.heap.size ts ss A1 A4 c1 c4 m W h1 h2 (Nat.le_refl _) hs h0 (by omega)
    have HRp := Lib.hid fun W (hW : Below w.heap.size w W) => refPath_any w.heap.size ts A c m W (hr.below hW) hW.size ha hl hm hp
    have hte := fun W (hW : Below w.heap.size w W) => refTasksErr_any w.heap.size ts ss A A2 c c2 m W (hr.below hW) (hr2.below hW) hW.size (by omega) (by omega)
    by_cases hT : tasksE ts ss = 0
    · have HRb := Lib.hid fun W (hW : Below w.heap.size w W) => refBusy_any w.heap.size ts ss A A2 c c2 m W (hr.below hW) (hr2.below hW) hW.size ha hl hm hp (tasksE_ok (by omega) hT)
      rw [if_pos hT] at hbu
      rw [hT] at hbu hte
      have HBu := Lib.hid hbu
      have HTe := Lib.hid hte
      by_cases hn : ts.length = 0
      · have HBb := Lib.hid fun W A1 c1 (h1 : TasksIn W.heap.size W A1 ts) => bestBound_none W.heap.size ts A1 c1 m W h1 (Nat.le_refl _) hs h0 hn
        have hn1 : ((ts.length : Int) == 0) = true := by simp [hn]
        clear hr hr2 hs hsm hpe h h0 ha hl hm hpos hp hbu hte hT hn
        generalize pathV ts = pv at *
        generalize busyV ts ss = bv at *
        go_enter Try.func13, Try.ntmps13
        go_wp2_with (first | (go_at_call 15; refine (awake_any _).mono ?_; rintro e w1 ⟨rfl, hb⟩; replace HBk := Lib.hid (HBk.out.past hb); replace HBx := Lib.hid (pt HBx.out hb); (try (replace HI5 := Lib.hid ((HI5.out.below hb).more hb.size))); clear hb; (try clear e0 e1 x1); have e0 := HBk.out.cellAt 0 rfl; have e1 := HBk.out.cellAt 1 rfl; have x1 := HBk.out.lt) | (go_at_call 16; go_must (refine (HSm.out _ HBx.out).mono ?_); rintro e w1 ⟨rfl, hb⟩; replace HBk := Lib.hid (HBk.out.past hb); replace HBx := Lib.hid (pt HBx.out hb); (try (replace HI5 := Lib.hid ((HI5.out.below hb).more hb.size))); clear hb; (try clear e0 e1 x1); have e0 := HBk.out.cellAt 0 rfl; have e1 := HBk.out.cellAt 1 rfl; have x1 := HBk.out.lt) | (go_at_call 19; go_must (refine (copyPlan_any w.heap.size ts A ts.length c m _ (HR.out.below HBx.out) rfl HBx.out.size HS.out).mono ?_); rintro e w2 ⟨A1, c1, rfl, hl1, hc1, hb⟩; have HL1 := Lib.hid hl1; replace HBk := Lib.hid (HBk.out.past hb); replace HBx := Lib.hid (pt HBx.out hb); (try (replace HI5 := Lib.hid ((HI5.out.below hb).more hb.size))); clear hb; (try clear e0 e1 x1); have e0 := HBk.out.cellAt 0 rfl; have e1 := HBk.out.cellAt 1 rfl; have x1 := HBk.out.lt; clear hl1 hc1) | (go_at_call 24; go_must (refine (copyInts_any w.heap.size A2 ss.length c2 ss _ (HR2.out.below HBx.out) rfl HBx.out.size (by omega)).mono ?_); rintro e w2 ⟨v1, rfl, hown1, hb⟩; obtain ⟨A4, c4, rfl, hc4, hm4⟩ := own_form hown1; have HI1 := Lib.hid (intsIn_of_own hown1); replace HL1 := Lib.hid ((HL1.out.below hb).more hb.size); replace HBk := Lib.hid (HBk.out.past hb); replace HBx := Lib.hid (pt HBx.out hb); (try (replace HI5 := Lib.hid ((HI5.out.below hb).more hb.size))); clear hb; (try clear e0 e1 x1); have e0 := HBk.out.cellAt 0 rfl; have e1 := HBk.out.cellAt 1 rfl; have x1 := HBk.out.lt; clear hown1 hc4 hm4) | (go_at_call 70; go_must (refine (HPa.out _ A1 c1 HL1.out).mono ?_); rintro e w3 ⟨rfl, hb⟩; replace HBk := Lib.hid (HBk.out.past hb); replace HBx := Lib.hid (pt HBx.out hb); (try (replace HI5 := Lib.hid ((HI5.out.below hb).more hb.size))); clear hb; (try clear e0 e1 x1); have e0 := HBk.out.cellAt 0 rfl; have e1 := HBk.out.cellAt 1 rfl; have x1 := HBk.out.lt) | (go_at_call 71; go_must (refine (HBu.out _ A1 A4 c1 c4 HL1.out HI1.out).mono ?_); rintro e w3 ⟨rfl, hb⟩; replace HBk := Lib.hid (HBk.out.past hb); replace HBx := Lib.hid (pt HBx.out hb); (try (replace HI5 := Lib.hid ((HI5.out.below hb).more hb.size))); clear hb; (try clear e0 e1 x1); have e0 := HBk.out.cellAt 0 rfl; have e1 := HBk.out.cellAt 1 rfl; have x1 := HBk.out.lt) | (go_at_call 72; go_must (refine (HBb.out _ A1 c1 HL1.out).mono ?_); rintro e w3 ⟨rfl, hb⟩; replace HBk := Lib.hid (HBk.out.past hb); replace HBx := Lib.hid (pt HBx.out hb); (try (replace HI5 := Lib.hid ((HI5.out.below hb).more hb.size))); clear hb; (try clear e0 e1 x1); have e0 := HBk.out.cellAt 0 rfl; have e1 := HBk.out.cellAt 1 rfl; have x1 := HBk.out.lt) | (go_at_call 17; go_must (refine (HPe.out _ HBx.out).mono ?_); rintro e w3 ⟨rfl, hb⟩; replace HBk := Lib.hid (HBk.out.past hb); replace HBx := Lib.hid (pt HBx.out hb); (try (replace HI5 := Lib.hid ((HI5.out.below hb).more hb.size))); clear hb; (try clear e0 e1 x1); have e0 := HBk.out.cellAt 0 rfl; have e1 := HBk.out.cellAt 1 rfl; have x1 := HBk.out.lt) | (go_at_call 73; go_must (refine (HRp.out _ HBx.out).mono ?_); rintro e w3 ⟨rfl, hb⟩; replace HBk := Lib.hid (HBk.out.past hb); replace HBx := Lib.hid (pt HBx.out hb); (try (replace HI5 := Lib.hid ((HI5.out.below hb).more hb.size))); clear hb; (try clear e0 e1 x1); have e0 := HBk.out.cellAt 0 rfl; have e1 := HBk.out.cellAt 1 rfl; have x1 := HBk.out.lt) | (go_at_call 74; go_must (refine (HTe.out _ HBx.out).mono ?_); rintro e w3 ⟨rfl, hb⟩; replace HBk := Lib.hid (HBk.out.past hb); replace HBx := Lib.hid (pt HBx.out hb); (try (replace HI5 := Lib.hid ((HI5.out.below hb).more hb.size))); clear hb; (try clear e0 e1 x1); have e0 := HBk.out.cellAt 0 rfl; have e1 := HBk.out.cellAt 1 rfl; have x1 := HBk.out.lt) | (go_at_call 75; go_must (refine (HRb.out _ HBx.out).mono ?_); rintro e w3 ⟨rfl, hb⟩; replace HBk := Lib.hid (HBk.out.past hb); replace HBx := Lib.hid (pt HBx.out hb); (try (replace HI5 := Lib.hid ((HI5.out.below hb).more hb.size))); clear hb; (try clear e0 e1 x1); have e0 := HBk.out.cellAt 0 rfl; have e1 := HBk.out.cellAt 1 rfl; have x1 := HBk.out.lt))
        go_ret
        exact ⟨rfl, HBx.out⟩
      · obtain ⟨hs1, hs2, hs3⟩ := bestBound_same ha hl hm hp (by omega)
        have HBb := Lib.hid fun W A1 c1 (h1 : TasksIn W.heap.size W A1 ts) => bestS_ok W.heap.size ts A1 c1 m W h1 (Nat.le_refl _) hs h0 (by omega)
        have HRs := Lib.hid fun W (hW : Below w.heap.size w W) => refBestBound_any w.heap.size ts A c m W (hr.below hW) hW.size ha hl hm hp
        have hn1 : ((ts.length : Int) == 0) = false := by simp [hn]
        have HL7 := Lib.hid (show (rbUpto ts ts.length).1.length ≤ 100000 by
          obtain ⟨e1, e2, e3, _⟩ := tasksE_zero.1 hs2
          obtain ⟨set, _, _, hb⟩ := bits_of e2 e3 e1
          rw [← hb]
          have := bits_len set ts.length
          omega)
        clear hr hr2 hs hsm hpe h h0 ha hl hm hpos hp hbu hte hT hn hs1 hs2 hs3
        generalize pathV ts = pv at *
        generalize busyV ts ss = bv at *
        generalize (rbUpto ts ts.length).1 = L1 at *
        generalize (rbUpto ts ts.length).2 = n1 at *
        go_enter Try.func13, Try.ntmps13
        go_wp2_with (first | (go_at_call 15; refine (awake_any _).mono ?_; rintro e w1 ⟨rfl, hb⟩; replace HBk := Lib.hid (HBk.out.past hb); replace HBx := Lib.hid (pt HBx.out hb); (try (replace HI5 := Lib.hid ((HI5.out.below hb).more hb.size))); clear hb; (try clear e0 e1 x1); have e0 := HBk.out.cellAt 0 rfl; have e1 := HBk.out.cellAt 1 rfl; have x1 := HBk.out.lt) | (go_at_call 16; go_must (refine (HSm.out _ HBx.out).mono ?_); rintro e w1 ⟨rfl, hb⟩; replace HBk := Lib.hid (HBk.out.past hb); replace HBx := Lib.hid (pt HBx.out hb); (try (replace HI5 := Lib.hid ((HI5.out.below hb).more hb.size))); clear hb; (try clear e0 e1 x1); have e0 := HBk.out.cellAt 0 rfl; have e1 := HBk.out.cellAt 1 rfl; have x1 := HBk.out.lt) | (go_at_call 19; go_must (refine (copyPlan_any w.heap.size ts A ts.length c m _ (HR.out.below HBx.out) rfl HBx.out.size HS.out).mono ?_); rintro e w2 ⟨A1, c1, rfl, hl1, hc1, hb⟩; have HL1 := Lib.hid hl1; replace HBk := Lib.hid (HBk.out.past hb); replace HBx := Lib.hid (pt HBx.out hb); (try (replace HI5 := Lib.hid ((HI5.out.below hb).more hb.size))); clear hb; (try clear e0 e1 x1); have e0 := HBk.out.cellAt 0 rfl; have e1 := HBk.out.cellAt 1 rfl; have x1 := HBk.out.lt; clear hl1 hc1) | (go_at_call 24; go_must (refine (copyInts_any w.heap.size A2 ss.length c2 ss _ (HR2.out.below HBx.out) rfl HBx.out.size (by omega)).mono ?_); rintro e w2 ⟨v1, rfl, hown1, hb⟩; obtain ⟨A4, c4, rfl, hc4, hm4⟩ := own_form hown1; have HI1 := Lib.hid (intsIn_of_own hown1); replace HL1 := Lib.hid ((HL1.out.below hb).more hb.size); replace HBk := Lib.hid (HBk.out.past hb); replace HBx := Lib.hid (pt HBx.out hb); (try (replace HI5 := Lib.hid ((HI5.out.below hb).more hb.size))); clear hb; (try clear e0 e1 x1); have e0 := HBk.out.cellAt 0 rfl; have e1 := HBk.out.cellAt 1 rfl; have x1 := HBk.out.lt; clear hown1 hc4 hm4) | (go_at_call 70; go_must (refine (HPa.out _ A1 c1 HL1.out).mono ?_); rintro e w3 ⟨rfl, hb⟩; replace HBk := Lib.hid (HBk.out.past hb); replace HBx := Lib.hid (pt HBx.out hb); (try (replace HI5 := Lib.hid ((HI5.out.below hb).more hb.size))); clear hb; (try clear e0 e1 x1); have e0 := HBk.out.cellAt 0 rfl; have e1 := HBk.out.cellAt 1 rfl; have x1 := HBk.out.lt) | (go_at_call 71; go_must (refine (HBu.out _ A1 A4 c1 c4 HL1.out HI1.out).mono ?_); rintro e w3 ⟨rfl, hb⟩; replace HBk := Lib.hid (HBk.out.past hb); replace HBx := Lib.hid (pt HBx.out hb); (try (replace HI5 := Lib.hid ((HI5.out.below hb).more hb.size))); clear hb; (try clear e0 e1 x1); have e0 := HBk.out.cellAt 0 rfl; have e1 := HBk.out.cellAt 1 rfl; have x1 := HBk.out.lt) | (go_at_call 72; go_must (refine (HBb.out _ A1 c1 HL1.out).mono ?_); rintro e w3 ⟨A5, c5, rfl, hi5, hb⟩; replace HBk := Lib.hid (HBk.out.past hb); replace HBx := Lib.hid (pt HBx.out hb); (try (replace HI5 := Lib.hid ((HI5.out.below hb).more hb.size))); clear hb; (try clear e0 e1 x1); have e0 := HBk.out.cellAt 0 rfl; have e1 := HBk.out.cellAt 1 rfl; have x1 := HBk.out.lt; have HI5 := Lib.hid hi5; clear hi5) | (go_at_call 17; go_must (refine (HPe.out _ HBx.out).mono ?_); rintro e w3 ⟨rfl, hb⟩; replace HBk := Lib.hid (HBk.out.past hb); replace HBx := Lib.hid (pt HBx.out hb); (try (replace HI5 := Lib.hid ((HI5.out.below hb).more hb.size))); clear hb; (try clear e0 e1 x1); have e0 := HBk.out.cellAt 0 rfl; have e1 := HBk.out.cellAt 1 rfl; have x1 := HBk.out.lt) | (go_at_call 73; go_must (refine (HRp.out _ HBx.out).mono ?_); rintro e w3 ⟨rfl, hb⟩; replace HBk := Lib.hid (HBk.out.past hb); replace HBx := Lib.hid (pt HBx.out hb); (try (replace HI5 := Lib.hid ((HI5.out.below hb).more hb.size))); clear hb; (try clear e0 e1 x1); have e0 := HBk.out.cellAt 0 rfl; have e1 := HBk.out.cellAt 1 rfl; have x1 := HBk.out.lt) | (go_at_call 74; go_must (refine (HTe.out _ HBx.out).mono ?_); rintro e w3 ⟨rfl, hb⟩; replace HBk := Lib.hid (HBk.out.past hb); replace HBx := Lib.hid (pt HBx.out hb); (try (replace HI5 := Lib.hid ((HI5.out.below hb).more hb.size))); clear hb; (try clear e0 e1 x1); have e0 := HBk.out.cellAt 0 rfl; have e1 := HBk.out.cellAt 1 rfl; have x1 := HBk.out.lt) | (go_at_call 75; go_must (refine (HRb.out _ HBx.out).mono ?_); rintro e w3 ⟨rfl, hb⟩; replace HBk := Lib.hid (HBk.out.past hb); replace HBx := Lib.hid (pt HBx.out hb); (try (replace HI5 := Lib.hid ((HI5.out.below hb).more hb.size))); clear hb; (try clear e0 e1 x1); have e0 := HBk.out.cellAt 0 rfl; have e1 := HBk.out.cellAt 1 rfl; have x1 := HBk.out.lt) | (go_at_call 76; go_must (refine (HRs.out _ HBx.out).mono ?_); rintro e w3 ⟨A6, c6, rfl, hi6, hb⟩; replace HBk := Lib.hid (HBk.out.past hb); replace HBx := Lib.hid (pt HBx.out hb); (try (replace HI5 := Lib.hid ((HI5.out.below hb).more hb.size))); clear hb; (try clear e0 e1 x1); have e0 := HBk.out.cellAt 0 rfl; have e1 := HBk.out.cellAt 1 rfl; have x1 := HBk.out.lt; have HI6 := Lib.hid hi6; clear hi6) | (go_at_call 31; go_must (refine (ints_any _ A5 A6 c5 c6 L1 L1 _ HI5.out HI6.out (by have := HL7.out; omega)).mono ?_); rintro e w6 ⟨rfl, hb⟩; rw [show intsB L1 L1 = true by simp [intsB]]; replace HBk := Lib.hid (HBk.out.past hb); replace HBx := Lib.hid (pt HBx.out hb); (try (replace HI5 := Lib.hid ((HI5.out.below hb).more hb.size))); clear hb; (try clear e0 e1 x1); have e0 := HBk.out.cellAt 0 rfl; have e1 := HBk.out.cellAt 1 rfl; have x1 := HBk.out.lt))
        go_ret
        exact ⟨rfl, HBx.out⟩
    · rw [if_neg hT] at hbu
      have HBu := Lib.hid hbu
      have HTe := Lib.hid hte
      have hT1 : (tasksE ts ss != 0) = true := by simpa using hT
      have hT2 : (tasksE ts ss == 0) = false := by simpa using hT
      have hT3 : (tasksE ts ss != tasksE ts ss) = false := by simp
      by_cases hn : ts.length = 0
      · have HBb := Lib.hid fun W A1 c1 (h1 : TasksIn W.heap.size W A1 ts) => bestBound_none W.heap.size ts A1 c1 m W h1 (Nat.le_refl _) hs h0 hn
        have hn1 : ((ts.length : Int) == 0) = true := by simp [hn]
        clear hr hr2 hs hsm hpe h h0 ha hl hm hpos hp hbu hte hT hn
        generalize pathV ts = pv at *
        generalize tasksE ts ss = T at *
        go_enter Try.func13, Try.ntmps13
        go_wp2_with (first | (go_at_call 15; refine (awake_any _).mono ?_; rintro e w1 ⟨rfl, hb⟩; replace HBk := Lib.hid (HBk.out.past hb); replace HBx := Lib.hid (pt HBx.out hb); (try (replace HI5 := Lib.hid ((HI5.out.below hb).more hb.size))); clear hb; (try clear e0 e1 x1); have e0 := HBk.out.cellAt 0 rfl; have e1 := HBk.out.cellAt 1 rfl; have x1 := HBk.out.lt) | (go_at_call 16; go_must (refine (HSm.out _ HBx.out).mono ?_); rintro e w1 ⟨rfl, hb⟩; replace HBk := Lib.hid (HBk.out.past hb); replace HBx := Lib.hid (pt HBx.out hb); (try (replace HI5 := Lib.hid ((HI5.out.below hb).more hb.size))); clear hb; (try clear e0 e1 x1); have e0 := HBk.out.cellAt 0 rfl; have e1 := HBk.out.cellAt 1 rfl; have x1 := HBk.out.lt) | (go_at_call 19; go_must (refine (copyPlan_any w.heap.size ts A ts.length c m _ (HR.out.below HBx.out) rfl HBx.out.size HS.out).mono ?_); rintro e w2 ⟨A1, c1, rfl, hl1, hc1, hb⟩; have HL1 := Lib.hid hl1; replace HBk := Lib.hid (HBk.out.past hb); replace HBx := Lib.hid (pt HBx.out hb); (try (replace HI5 := Lib.hid ((HI5.out.below hb).more hb.size))); clear hb; (try clear e0 e1 x1); have e0 := HBk.out.cellAt 0 rfl; have e1 := HBk.out.cellAt 1 rfl; have x1 := HBk.out.lt; clear hl1 hc1) | (go_at_call 24; go_must (refine (copyInts_any w.heap.size A2 ss.length c2 ss _ (HR2.out.below HBx.out) rfl HBx.out.size (by omega)).mono ?_); rintro e w2 ⟨v1, rfl, hown1, hb⟩; obtain ⟨A4, c4, rfl, hc4, hm4⟩ := own_form hown1; have HI1 := Lib.hid (intsIn_of_own hown1); replace HL1 := Lib.hid ((HL1.out.below hb).more hb.size); replace HBk := Lib.hid (HBk.out.past hb); replace HBx := Lib.hid (pt HBx.out hb); (try (replace HI5 := Lib.hid ((HI5.out.below hb).more hb.size))); clear hb; (try clear e0 e1 x1); have e0 := HBk.out.cellAt 0 rfl; have e1 := HBk.out.cellAt 1 rfl; have x1 := HBk.out.lt; clear hown1 hc4 hm4) | (go_at_call 70; go_must (refine (HPa.out _ A1 c1 HL1.out).mono ?_); rintro e w3 ⟨rfl, hb⟩; replace HBk := Lib.hid (HBk.out.past hb); replace HBx := Lib.hid (pt HBx.out hb); (try (replace HI5 := Lib.hid ((HI5.out.below hb).more hb.size))); clear hb; (try clear e0 e1 x1); have e0 := HBk.out.cellAt 0 rfl; have e1 := HBk.out.cellAt 1 rfl; have x1 := HBk.out.lt) | (go_at_call 71; go_must (refine (HBu.out _ A1 A4 c1 c4 HL1.out HI1.out).mono ?_); rintro e w3 ⟨rfl, hb⟩; replace HBk := Lib.hid (HBk.out.past hb); replace HBx := Lib.hid (pt HBx.out hb); (try (replace HI5 := Lib.hid ((HI5.out.below hb).more hb.size))); clear hb; (try clear e0 e1 x1); have e0 := HBk.out.cellAt 0 rfl; have e1 := HBk.out.cellAt 1 rfl; have x1 := HBk.out.lt) | (go_at_call 72; go_must (refine (HBb.out _ A1 c1 HL1.out).mono ?_); rintro e w3 ⟨rfl, hb⟩; replace HBk := Lib.hid (HBk.out.past hb); replace HBx := Lib.hid (pt HBx.out hb); (try (replace HI5 := Lib.hid ((HI5.out.below hb).more hb.size))); clear hb; (try clear e0 e1 x1); have e0 := HBk.out.cellAt 0 rfl; have e1 := HBk.out.cellAt 1 rfl; have x1 := HBk.out.lt) | (go_at_call 17; go_must (refine (HPe.out _ HBx.out).mono ?_); rintro e w3 ⟨rfl, hb⟩; replace HBk := Lib.hid (HBk.out.past hb); replace HBx := Lib.hid (pt HBx.out hb); (try (replace HI5 := Lib.hid ((HI5.out.below hb).more hb.size))); clear hb; (try clear e0 e1 x1); have e0 := HBk.out.cellAt 0 rfl; have e1 := HBk.out.cellAt 1 rfl; have x1 := HBk.out.lt) | (go_at_call 73; go_must (refine (HRp.out _ HBx.out).mono ?_); rintro e w3 ⟨rfl, hb⟩; replace HBk := Lib.hid (HBk.out.past hb); replace HBx := Lib.hid (pt HBx.out hb); (try (replace HI5 := Lib.hid ((HI5.out.below hb).more hb.size))); clear hb; (try clear e0 e1 x1); have e0 := HBk.out.cellAt 0 rfl; have e1 := HBk.out.cellAt 1 rfl; have x1 := HBk.out.lt) | (go_at_call 74; go_must (refine (HTe.out _ HBx.out).mono ?_); rintro e w3 ⟨rfl, hb⟩; replace HBk := Lib.hid (HBk.out.past hb); replace HBx := Lib.hid (pt HBx.out hb); (try (replace HI5 := Lib.hid ((HI5.out.below hb).more hb.size))); clear hb; (try clear e0 e1 x1); have e0 := HBk.out.cellAt 0 rfl; have e1 := HBk.out.cellAt 1 rfl; have x1 := HBk.out.lt))
        go_ret
        exact ⟨rfl, HBx.out⟩
      · obtain ⟨hs1, hs2, hs3⟩ := bestBound_same ha hl hm hp (by omega)
        have HBb := Lib.hid fun W A1 c1 (h1 : TasksIn W.heap.size W A1 ts) => bestS_ok W.heap.size ts A1 c1 m W h1 (Nat.le_refl _) hs h0 (by omega)
        have HRs := Lib.hid fun W (hW : Below w.heap.size w W) => refBestBound_any w.heap.size ts A c m W (hr.below hW) hW.size ha hl hm hp
        have hn1 : ((ts.length : Int) == 0) = false := by simp [hn]
        have HL7 := Lib.hid (show (rbUpto ts ts.length).1.length ≤ 100000 by
          obtain ⟨e1, e2, e3, _⟩ := tasksE_zero.1 hs2
          obtain ⟨set, _, _, hb⟩ := bits_of e2 e3 e1
          rw [← hb]
          have := bits_len set ts.length
          omega)
        clear hr hr2 hs hsm hpe h h0 ha hl hm hpos hp hbu hte hT hn hs1 hs2 hs3
        generalize pathV ts = pv at *
        generalize tasksE ts ss = T at *
        generalize (rbUpto ts ts.length).1 = L1 at *
        generalize (rbUpto ts ts.length).2 = n1 at *
        go_enter Try.func13, Try.ntmps13
        go_wp2_with (first | (go_at_call 15; refine (awake_any _).mono ?_; rintro e w1 ⟨rfl, hb⟩; replace HBk := Lib.hid (HBk.out.past hb); replace HBx := Lib.hid (pt HBx.out hb); (try (replace HI5 := Lib.hid ((HI5.out.below hb).more hb.size))); clear hb; (try clear e0 e1 x1); have e0 := HBk.out.cellAt 0 rfl; have e1 := HBk.out.cellAt 1 rfl; have x1 := HBk.out.lt) | (go_at_call 16; go_must (refine (HSm.out _ HBx.out).mono ?_); rintro e w1 ⟨rfl, hb⟩; replace HBk := Lib.hid (HBk.out.past hb); replace HBx := Lib.hid (pt HBx.out hb); (try (replace HI5 := Lib.hid ((HI5.out.below hb).more hb.size))); clear hb; (try clear e0 e1 x1); have e0 := HBk.out.cellAt 0 rfl; have e1 := HBk.out.cellAt 1 rfl; have x1 := HBk.out.lt) | (go_at_call 19; go_must (refine (copyPlan_any w.heap.size ts A ts.length c m _ (HR.out.below HBx.out) rfl HBx.out.size HS.out).mono ?_); rintro e w2 ⟨A1, c1, rfl, hl1, hc1, hb⟩; have HL1 := Lib.hid hl1; replace HBk := Lib.hid (HBk.out.past hb); replace HBx := Lib.hid (pt HBx.out hb); (try (replace HI5 := Lib.hid ((HI5.out.below hb).more hb.size))); clear hb; (try clear e0 e1 x1); have e0 := HBk.out.cellAt 0 rfl; have e1 := HBk.out.cellAt 1 rfl; have x1 := HBk.out.lt; clear hl1 hc1) | (go_at_call 24; go_must (refine (copyInts_any w.heap.size A2 ss.length c2 ss _ (HR2.out.below HBx.out) rfl HBx.out.size (by omega)).mono ?_); rintro e w2 ⟨v1, rfl, hown1, hb⟩; obtain ⟨A4, c4, rfl, hc4, hm4⟩ := own_form hown1; have HI1 := Lib.hid (intsIn_of_own hown1); replace HL1 := Lib.hid ((HL1.out.below hb).more hb.size); replace HBk := Lib.hid (HBk.out.past hb); replace HBx := Lib.hid (pt HBx.out hb); (try (replace HI5 := Lib.hid ((HI5.out.below hb).more hb.size))); clear hb; (try clear e0 e1 x1); have e0 := HBk.out.cellAt 0 rfl; have e1 := HBk.out.cellAt 1 rfl; have x1 := HBk.out.lt; clear hown1 hc4 hm4) | (go_at_call 70; go_must (refine (HPa.out _ A1 c1 HL1.out).mono ?_); rintro e w3 ⟨rfl, hb⟩; replace HBk := Lib.hid (HBk.out.past hb); replace HBx := Lib.hid (pt HBx.out hb); (try (replace HI5 := Lib.hid ((HI5.out.below hb).more hb.size))); clear hb; (try clear e0 e1 x1); have e0 := HBk.out.cellAt 0 rfl; have e1 := HBk.out.cellAt 1 rfl; have x1 := HBk.out.lt) | (go_at_call 71; go_must (refine (HBu.out _ A1 A4 c1 c4 HL1.out HI1.out).mono ?_); rintro e w3 ⟨rfl, hb⟩; replace HBk := Lib.hid (HBk.out.past hb); replace HBx := Lib.hid (pt HBx.out hb); (try (replace HI5 := Lib.hid ((HI5.out.below hb).more hb.size))); clear hb; (try clear e0 e1 x1); have e0 := HBk.out.cellAt 0 rfl; have e1 := HBk.out.cellAt 1 rfl; have x1 := HBk.out.lt) | (go_at_call 72; go_must (refine (HBb.out _ A1 c1 HL1.out).mono ?_); rintro e w3 ⟨A5, c5, rfl, hi5, hb⟩; replace HBk := Lib.hid (HBk.out.past hb); replace HBx := Lib.hid (pt HBx.out hb); (try (replace HI5 := Lib.hid ((HI5.out.below hb).more hb.size))); clear hb; (try clear e0 e1 x1); have e0 := HBk.out.cellAt 0 rfl; have e1 := HBk.out.cellAt 1 rfl; have x1 := HBk.out.lt; have HI5 := Lib.hid hi5; clear hi5) | (go_at_call 17; go_must (refine (HPe.out _ HBx.out).mono ?_); rintro e w3 ⟨rfl, hb⟩; replace HBk := Lib.hid (HBk.out.past hb); replace HBx := Lib.hid (pt HBx.out hb); (try (replace HI5 := Lib.hid ((HI5.out.below hb).more hb.size))); clear hb; (try clear e0 e1 x1); have e0 := HBk.out.cellAt 0 rfl; have e1 := HBk.out.cellAt 1 rfl; have x1 := HBk.out.lt) | (go_at_call 73; go_must (refine (HRp.out _ HBx.out).mono ?_); rintro e w3 ⟨rfl, hb⟩; replace HBk := Lib.hid (HBk.out.past hb); replace HBx := Lib.hid (pt HBx.out hb); (try (replace HI5 := Lib.hid ((HI5.out.below hb).more hb.size))); clear hb; (try clear e0 e1 x1); have e0 := HBk.out.cellAt 0 rfl; have e1 := HBk.out.cellAt 1 rfl; have x1 := HBk.out.lt) | (go_at_call 74; go_must (refine (HTe.out _ HBx.out).mono ?_); rintro e w3 ⟨rfl, hb⟩; replace HBk := Lib.hid (HBk.out.past hb); replace HBx := Lib.hid (pt HBx.out hb); (try (replace HI5 := Lib.hid ((HI5.out.below hb).more hb.size))); clear hb; (try clear e0 e1 x1); have e0 := HBk.out.cellAt 0 rfl; have e1 := HBk.out.cellAt 1 rfl; have x1 := HBk.out.lt) | (go_at_call 76; go_must (refine (HRs.out _ HBx.out).mono ?_); rintro e w3 ⟨A6, c6, rfl, hi6, hb⟩; replace HBk := Lib.hid (HBk.out.past hb); replace HBx := Lib.hid (pt HBx.out hb); (try (replace HI5 := Lib.hid ((HI5.out.below hb).more hb.size))); clear hb; (try clear e0 e1 x1); have e0 := HBk.out.cellAt 0 rfl; have e1 := HBk.out.cellAt 1 rfl; have x1 := HBk.out.lt; have HI6 := Lib.hid hi6; clear hi6) | (go_at_call 31; go_must (refine (ints_any _ A5 A6 c5 c6 L1 L1 _ HI5.out HI6.out (by have := HL7.out; omega)).mono ?_); rintro e w6 ⟨rfl, hb⟩; rw [show intsB L1 L1 = true by simp [intsB]]; replace HBk := Lib.hid (HBk.out.past hb); replace HBx := Lib.hid (pt HBx.out hb); (try (replace HI5 := Lib.hid ((HI5.out.below hb).more hb.size))); clear hb; (try clear e0 e1 x1); have e0 := HBk.out.cellAt 0 rfl; have e1 := HBk.out.cellAt 1 rfl; have x1 := HBk.out.lt))
        go_ret
        exact ⟨rfl, HBx.out⟩
  · have HPe := Lib.hid hpe
    have HPa := Lib.hid fun W A1 c1 (h1 : TasksIn W.heap.size W A1 ts) => path_err W.heap.size ts A1 c1 m W h1 (Nat.le_refl _) hs h0
    have HBu := Lib.hid fun W A1 A4 c1 c4 (h1 : TasksIn W.heap.size W A1 ts) (_ : IntsIn W.heap.size W A4 ss) => busyBound_err W.heap.size ts A1 A4 c1 c4 m W ss.length h1 (Nat.le_refl _) hs h0
    have HBb := Lib.hid fun W A1 c1 (h1 : TasksIn W.heap.size W A1 ts) => bestBound_err W.heap.size ts A1 c1 m W h1 (Nat.le_refl _) hs h0
    clear hr hr2 hs hsm hpe h
    generalize (openV m ts).2 = E at *
    have h1 : (E != 0) = true := by simpa using h0
    have h2 : (E == 0) = false := by simpa using h0
    clear h0
    go_enter Try.func13, Try.ntmps13
    go_wp2_with (first | (go_at_call 15; refine (awake_any _).mono ?_; rintro e w1 ⟨rfl, hb⟩; replace HBk := Lib.hid (HBk.out.past hb); replace HBx := Lib.hid (pt HBx.out hb); (try (replace HI5 := Lib.hid ((HI5.out.below hb).more hb.size))); clear hb; (try clear e0 e1 x1); have e0 := HBk.out.cellAt 0 rfl; have e1 := HBk.out.cellAt 1 rfl; have x1 := HBk.out.lt) | (go_at_call 16; go_must (refine (HSm.out _ HBx.out).mono ?_); rintro e w1 ⟨rfl, hb⟩; replace HBk := Lib.hid (HBk.out.past hb); replace HBx := Lib.hid (pt HBx.out hb); (try (replace HI5 := Lib.hid ((HI5.out.below hb).more hb.size))); clear hb; (try clear e0 e1 x1); have e0 := HBk.out.cellAt 0 rfl; have e1 := HBk.out.cellAt 1 rfl; have x1 := HBk.out.lt) | (go_at_call 19; go_must (refine (copyPlan_any w.heap.size ts A ts.length c m _ (HR.out.below HBx.out) rfl HBx.out.size HS.out).mono ?_); rintro e w2 ⟨A1, c1, rfl, hl1, hc1, hb⟩; have HL1 := Lib.hid hl1; replace HBk := Lib.hid (HBk.out.past hb); replace HBx := Lib.hid (pt HBx.out hb); (try (replace HI5 := Lib.hid ((HI5.out.below hb).more hb.size))); clear hb; (try clear e0 e1 x1); have e0 := HBk.out.cellAt 0 rfl; have e1 := HBk.out.cellAt 1 rfl; have x1 := HBk.out.lt; clear hl1 hc1) | (go_at_call 24; go_must (refine (copyInts_any w.heap.size A2 ss.length c2 ss _ (HR2.out.below HBx.out) rfl HBx.out.size (by omega)).mono ?_); rintro e w2 ⟨v1, rfl, hown1, hb⟩; obtain ⟨A4, c4, rfl, hc4, hm4⟩ := own_form hown1; have HI1 := Lib.hid (intsIn_of_own hown1); replace HL1 := Lib.hid ((HL1.out.below hb).more hb.size); replace HBk := Lib.hid (HBk.out.past hb); replace HBx := Lib.hid (pt HBx.out hb); (try (replace HI5 := Lib.hid ((HI5.out.below hb).more hb.size))); clear hb; (try clear e0 e1 x1); have e0 := HBk.out.cellAt 0 rfl; have e1 := HBk.out.cellAt 1 rfl; have x1 := HBk.out.lt; clear hown1 hc4 hm4) | (go_at_call 70; go_must (refine (HPa.out _ A1 c1 HL1.out).mono ?_); rintro e w3 ⟨rfl, hb⟩; replace HBk := Lib.hid (HBk.out.past hb); replace HBx := Lib.hid (pt HBx.out hb); (try (replace HI5 := Lib.hid ((HI5.out.below hb).more hb.size))); clear hb; (try clear e0 e1 x1); have e0 := HBk.out.cellAt 0 rfl; have e1 := HBk.out.cellAt 1 rfl; have x1 := HBk.out.lt) | (go_at_call 71; go_must (refine (HBu.out _ A1 A4 c1 c4 HL1.out HI1.out).mono ?_); rintro e w3 ⟨rfl, hb⟩; replace HBk := Lib.hid (HBk.out.past hb); replace HBx := Lib.hid (pt HBx.out hb); (try (replace HI5 := Lib.hid ((HI5.out.below hb).more hb.size))); clear hb; (try clear e0 e1 x1); have e0 := HBk.out.cellAt 0 rfl; have e1 := HBk.out.cellAt 1 rfl; have x1 := HBk.out.lt) | (go_at_call 72; go_must (refine (HBb.out _ A1 c1 HL1.out).mono ?_); rintro e w3 ⟨rfl, hb⟩; replace HBk := Lib.hid (HBk.out.past hb); replace HBx := Lib.hid (pt HBx.out hb); (try (replace HI5 := Lib.hid ((HI5.out.below hb).more hb.size))); clear hb; (try clear e0 e1 x1); have e0 := HBk.out.cellAt 0 rfl; have e1 := HBk.out.cellAt 1 rfl; have x1 := HBk.out.lt) | (go_at_call 17; go_must (refine (HPe.out _ HBx.out).mono ?_); rintro e w3 ⟨rfl, hb⟩; replace HBk := Lib.hid (HBk.out.past hb); replace HBx := Lib.hid (pt HBx.out hb); (try (replace HI5 := Lib.hid ((HI5.out.below hb).more hb.size))); clear hb; (try clear e0 e1 x1); have e0 := HBk.out.cellAt 0 rfl; have e1 := HBk.out.cellAt 1 rfl; have x1 := HBk.out.lt))
    go_ret
    exact ⟨rfl, HBx.out⟩

theorem bounds_walk (A A2 : Option Addr) (c c2 : Nat) (m : Int) (ts : List Task) (ss : List Int) (w : World) (hr : TasksIn w.heap.size w A ts) (hr2 : IntsIn w.heap.size w A2 ss) :
    Calls Try.prog 13 #[.agg #[.int .i64 m, .slice A ts.length c], .slice A2 ss.length c2] w fun e w' => e = .returned (.bool true) ∧ Below w.heap.size w w' := by
  cases h : fewB ts with
  | false => exact bounds_skip A A2 c c2 m ts ss w hr (.inl h)
  | true =>
    by_cases hz : ss.length ≤ 9
    · exact bounds_go A A2 c c2 m ts ss w hr hr2 h hz
    · exact bounds_skip A A2 c c2 m ts ss w hr (.inr ⟨h, by omega⟩)

section
variable {H : Type} {enc : TypeId × Value → H} {P : Program} {w : World} {base b0 : Nat} {spare : Nat → Bool} {held : Bool} {r : Reach}
theorem open_ints_arg {t e : TypeId} {v : Value} {d : DataW H} {p : List MemPlace} (ht : P.underlying t = some (.slice e)) (he : P.underlying e = some (.int .i64)) (hc : P.cellsOf e = 1) (hv : Value.okWide P w r b0 t v) (h : DataW.Trod enc P w base spare held t v d p) :
    ∃ (A : Option Addr) (c : Nat) (xs : List Int), v = .slice A xs.length c ∧ IntsIn w.heap.size w A xs ∧ xs.length ≤ c ∧ xs.length ≤ maxLen := by
  obtain ⟨a, len, cap, rfl⟩ := okWide_slice ht hv
  obtain ⟨fuel, hf⟩ := h
  obtain ⟨A, c, xs, e1, hi, hl, hm, _⟩ := open_slice_ints ht he hc hf
  have e2 : Value.slice a len cap = .slice A xs.length c := by simpa [Value.cells] using e1
  exact ⟨A, c, xs, e2, hi, hl, by omega⟩
end

set_option maxRecDepth 100000 in
theorem bounds_lifted (os : Os) (started : os.Started) (H : Type) (enc : TypeId × Value → H) :
    ReturnsInHanded {} Try.checked os 13 .any (Rows.worksBoundsSpec.pre6 enc Try.prog Try.f13 Rows.worksBoundsRow.domain false) (Rows.worksBoundsSpec.post enc Try.prog Try.f13 false true false false) := by
  refine returnsInHanded_of_change (C := Try.checked) own_knob started (by kernel_rfl) Try.func13
    (ChangeSpec.witness6 (enc := enc) (C := Try.checked) false ⟨#[], #[.agg #[.int .i64 0, .slice none 0 0], .slice none 0 0], []⟩ 8 (by kernel_rfl) (by kernel_rfl) (by kernel_rfl) (by kernel_rfl)) ?_
  intro W base args ds gs before hval0 hW _ _
  have hval : ∀ (j : Nat) t v, Try.f13.params[j]? = some t → args[j]? = some v → Value.okWide Try.prog W .any base t v := hval0
  have hW' := hW
  obtain ⟨p, q, hA0, hV, rfl, hfz, hnd⟩ := hW
  have hA : DataW.TrodAll enc Try.prog W 0 (fun _ => true) true Try.f13.params.toList args.toList ds p := hA0
  rw [Try.params13] at hA hval
  obtain ⟨v0, vs0, d0, ds0, p0, q0, hargs, rfl, rfl, h0, r0⟩ := trodAll_cons hA
  obtain ⟨v1, vs1, d1, ds1, p1, q1, rfl, rfl, rfl, h1, r1⟩ := trodAll_cons r0
  obtain ⟨rfl, rfl, rfl⟩ := trodAll_nil r1
  obtain rfl : args = #[v0, v1] := by cases args; simp_all
  obtain ⟨m, A, c, ts, rfl, hi_, _, _⟩ := open_plan_arg (hval 0 _ v0 rfl rfl) h0
  obtain ⟨A2, c2, ss, rfl, hi2, _, _⟩ := open_ints_arg Try.underlying28 Try.underlying3 cells_int (hval 1 _ v1 rfl rfl) h1
  clear hA0 hval0 hval hA h0 h1 r0 r1
  refine (bounds_walk A A2 c c2 m ts ss W hi_ hi2).mono fun e W' ⟨he, hb⟩ => ?_
  subst he
  exact law_end laid_out (fun t ht => (by decide +kernel : ∀ t ∈ Try.f13.params.toList, Try.prog.readableRec t = true ∧ t < Try.prog.types.size) t ht) rfl Try.underlying4 rfl rfl hW' hb

theorem bounds_over : Rows.worksBoundsRow.holds Try.pinned (OpenSpec.ofChange Rows.worksBoundsSpec) :=
  OpenClaim.holds_of_wide 13 Try.f13 rfl rfl rfl rfl rfl rfl rfl ⟨rfl, rfl, rfl, rfl, rfl⟩ rfl rfl rfl rfl rfl (by kernel_rfl) Try.func13 (by kernel_rfl)
    (of_decide_eq_true (by kernel_rfl)) (by unfold Func.isWrapper; first | (rw [if_pos (by decide +kernel)]; kernel_rfl) | (rw [if_neg (by decide +kernel)]; exact ⟨rfl, rfl⟩))
    (fun os started H enc _ => bounds_lifted os started H enc)

theorem bounds_holds : Rows.WorksBoundsSaid := bounds_over
#print axioms bounds_holds

end Go.Proofs.Ytlgioldmjohhlaa
