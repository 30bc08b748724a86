/- WorksNoEarlier: the walk, another way. -/
import Derived.Test.YtlgioldmjohhlaaV4NoEarlier
namespace Go.Proofs.Ytlgioldmjohhlaa
open Go.ChangeShapes Go.WideShapes Go.ChangeAt Go.RowKit Go.Joins Go.Deep


set_option maxHeartbeats 4000000 in
set_option maxRecDepth 100000 in
theorem ne_none1 (A A2 A3 : Option Addr) (c c2 c3 : Nat) (m : Int) (ts : List Task) (ss tk : List Int) (w : World) (hr : TasksIn w.heap.size w A ts) (hr2 : IntsIn w.heap.size w A2 ss) (hr3 : IntsIn w.heap.size w A3 tk) (h : fewB ts = true) (hz : ss.length ≤ 7) (hy : tk.length ≤ 7) (h0 : (openV m ts).2 = 0) (hn : ts.length = 0)
    (hD : (schedV ts ss).2 = 0) (hT : ¬ tasksE ts tk = 0) :
    Calls Try.prog 14 #[.agg #[.int .i64 m, .slice A ts.length c], .slice A2 ss.length c2, .slice A3 tk.length c3] w fun e w' => e = .returned (.bool true) ∧ Below w.heap.size w w' := by
  have hs := few_small h
  have hsm := fun W (hW : Below w.heap.size w W) => few_any w.heap.size ts A c m W (hr.below hW) hW.size
  rw [h] at hsm
  have hpe := fun W (hW : Below w.heap.size w W) => refPlanErr_any w.heap.size ts A c m W (hr.below hW) hW.size hs
  rw [h0] at hpe
  obtain ⟨ha, hl, hm, _, _, hpos⟩ := open_ok h0
  have hp : PosOk ts := fun i hi => (hpos i hi).2
  have h7 := ha.1.1
  obtain ⟨b, hb1, hb2, hb3, hb4, hmin, _⟩ := best_min ha hl hm hp
  have hsched : (schedV ts b) = (0, 0) := sched_of_feas hb2 fun j _ => by have := hb4 j; omega
  have hbl := hb2.len
  have hbest := fun W A1 c1 (h1 : TasksIn W.heap.size W A1 ts) => best_ok W.heap.size ts A1 c1 m W h1 (Nat.le_refl _) hs h0
  unfold BestPost at hbest
  rw [hb1] at hbest
  have hsc := fun W A1 A4 c1 c4 (h1 : TasksIn W.heap.size W A1 ts) (h2 : IntsIn W.heap.size W A4 b) => worksSched_any W.heap.size ts b A1 A4 c1 c4 m W h1 h2 (Nat.le_refl _) hs (by omega)
  have hen := fun W A1 A4 c1 c4 (h1 : TasksIn W.heap.size W A1 ts) (h2 : IntsIn W.heap.size W A4 b) => worksEnd_any W.heap.size ts b A1 A4 c1 c4 m W h1 h2 (Nat.le_refl _) hs (by omega)
  have hps : planSchedV m ts b = (0, 0) := by unfold planSchedV; rw [if_pos h0, hsched]
  have hpe2 : planEndV m ts b = lastV ts b := by unfold planEndV; rw [hps, if_pos rfl]
  rw [hpe2, hps, hb3] at hen
  rw [hps] at hsc
  have HPa := Lib.hid fun W A1 c1 (h1 : TasksIn W.heap.size W A1 ts) => path_ok W.heap.size ts A1 c1 m W h1 (Nat.le_refl _) hs h0
  have hrs := fun W (hW : Below w.heap.size w W) => refScheduleErr_any w.heap.size ts ss A A2 c c2 m W (hr.below hW) (hr2.below hW) hW.size hl ha.1
  rw [hD] at hrs
  have HRe := Lib.hid fun W (hW : Below w.heap.size w W) => refEndOf_any w.heap.size ts ss A A2 c c2 m W (hr.below hW) (hr2.below hW) hW.size hl h7 (starts_ok hD)
  have hte := fun W (hW : Below w.heap.size w W) => refTasksErr_any w.heap.size ts tk A A3 c c3 m W (hr.below hW) (hr3.below hW) hW.size (by omega) (by omega)
  have hT1 : (tasksE ts tk == 0) = false := by simpa using hT
  have q1 : pathV ts ≤ (bestV ts).last := by rw [← hb3]; exact path_le ha hl hp hb2
  have q2 : (bestV ts).last ≤ lastV ts ss := hmin _ (feas_of_sched hD).1
  have hL0 : (bestV ts).last = 0 := by rw [← hb3]; exact Int.le_antisymm (lastV_le.2 ⟨Int.le_refl _, fun j hj => by omega⟩) lastV_nn
  have hL1 : ((bestV ts).last == 0) = true := by simpa using hL0
  clear hL0
  have HBl := Lib.hid hbl
  have hbl1 : ((b.length : Int) != (ts.length : Int)) = false := by simp [hbl]
  have hn1 : ((ts.length : Int) == 0) = true := by simp [hn]
  have hz1 : decide ((7 : Int) < (ss.length : Int)) = false := decide_eq_false (by omega)
  have hz2 : decide ((7 : Int) < (tk.length : Int)) = false := decide_eq_false (by omega)
  have hz3 : ¬ 7 < ss.length := by omega
  have hz4 : ¬ 7 < tk.length := by omega
  have d1 : decide ((bestV ts).last < pathV ts) = false := decide_eq_false (by omega)
  have d2 : decide (lastV ts ss < (bestV ts).last) = false := decide_eq_false (by omega)
  have HBest := Lib.hid hbest
  have HSc := Lib.hid hsc
  have HEn := Lib.hid hen
  have HRs := Lib.hid hrs
  have HTe := Lib.hid hte
  have HPe := Lib.hid hpe
  have HS := Lib.hid hs
  have HSm := Lib.hid hsm
  have HR := Lib.hid hr
  have HR2 := Lib.hid hr2
  have HR3 := Lib.hid hr3
  have HTl := Lib.hid hy
  have HL := Lib.hid hl
  have HP := Lib.hid fun (i : Nat) (hi : i < ts.length) => (ha.1.2 i hi).1
  have HBx := Lib.hid (show Below w.heap.size w (w.alloc (.cells #[.int .i64 m, .slice A ts.length c] 24)) from pa pr); have HBk := Lib.hid (show Blk (w.alloc (.cells #[.int .i64 m, .slice A ts.length c] 24)) w.heap.size 24 #[.int .i64 m, .slice A ts.length c] from Blk.newAt rfl)
  clear hr hr2 hr3 hs hsm hpe h h0 ha hl hm hpos hp hb1 hb2 hb3 hb4 hmin hsched hbl hbest hsc hen hps hpe2 hrs hte hn hD hT hz hy
  have HQ := Lib.hid (And.intro q1 (And.intro q2 (And.intro (show True from trivial) trivial)))
  clear q1 q2
  generalize tasksE ts tk = T at *
  generalize lastV ts ss = vS at *
  generalize pathV ts = pV at *
  generalize (bestV ts).last = L at *
  go_enter Try.func14, Try.ntmps14
  go_wp2_with (first | (go_at_call 15; refine (awake_any _).mono ?_; rintro e w1 ⟨rfl, hb⟩; replace HBk := Lib.hid (HBk.out.past hb); replace HBx := Lib.hid (pt HBx.out hb); (try (replace HI5 := Lib.hid ((HI5.out.below hb).more hb.size))); clear hb; (try clear e0 e1 x1); have e0 := HBk.out.cellAt 0 rfl; have e1 := HBk.out.cellAt 1 rfl; have x1 := HBk.out.lt) | (go_at_call 16; go_must (refine (HSm.out _ HBx.out).mono ?_); rintro e w1 ⟨rfl, hb⟩; replace HBk := Lib.hid (HBk.out.past hb); replace HBx := Lib.hid (pt HBx.out hb); (try (replace HI5 := Lib.hid ((HI5.out.below hb).more hb.size))); clear hb; (try clear e0 e1 x1); have e0 := HBk.out.cellAt 0 rfl; have e1 := HBk.out.cellAt 1 rfl; have x1 := HBk.out.lt) | (go_at_call 17; go_must (refine (HPe.out _ HBx.out).mono ?_); rintro e w3 ⟨rfl, hb⟩; replace HBk := Lib.hid (HBk.out.past hb); replace HBx := Lib.hid (pt HBx.out hb); (try (replace HI5 := Lib.hid ((HI5.out.below hb).more hb.size))); clear hb; (try clear e0 e1 x1); have e0 := HBk.out.cellAt 0 rfl; have e1 := HBk.out.cellAt 1 rfl; have x1 := HBk.out.lt) | (go_at_call 19; go_must (refine (copyPlan_any w.heap.size ts A ts.length c m _ (HR.out.below HBx.out) rfl HBx.out.size HS.out).mono ?_); rintro e w2 ⟨A1, c1, rfl, hl1, hc1, hb⟩; have HL1 := Lib.hid hl1; have HC1 := Lib.hid hc1; replace HBk := Lib.hid (HBk.out.past hb); replace HBx := Lib.hid (pt HBx.out hb); (try (replace HI5 := Lib.hid ((HI5.out.below hb).more hb.size))); clear hb; (try clear e0 e1 x1); have e0 := HBk.out.cellAt 0 rfl; have e1 := HBk.out.cellAt 1 rfl; have x1 := HBk.out.lt; clear hl1 hc1) | (go_at_call 18; go_must (refine (HBest.out _ A1 c1 HL1.out).mono ?_); rintro e w3 ⟨bv, rfl, ⟨A5, c5, rfl, hi5⟩, hb⟩; replace HBk := Lib.hid (HBk.out.past hb); replace HBx := Lib.hid (pt HBx.out hb); (try (replace HI5 := Lib.hid ((HI5.out.below hb).more hb.size))); clear hb; (try clear e0 e1 x1); have e0 := HBk.out.cellAt 0 rfl; have e1 := HBk.out.cellAt 1 rfl; have x1 := HBk.out.lt; have HI5 := Lib.hid hi5; clear hi5) | (go_at_call 24; (with_reducible refine (copyInts_any _ A5 b.length c5 b _ HI5.out rfl (Nat.le_refl _) (by have := HBl.out; omega)).mono ?_); rintro e w2 ⟨v1, rfl, hown1, hb⟩; obtain ⟨A4, c4, rfl, hc4, hm4⟩ := own_form hown1; have HI1 := Lib.hid (intsIn_of_own hown1); replace HL1 := Lib.hid ((HL1.out.below hb).more hb.size); replace HBk := Lib.hid (HBk.out.past hb); replace HBx := Lib.hid (pt HBx.out hb); (try (replace HI5 := Lib.hid ((HI5.out.below hb).more hb.size))); clear hb; (try clear e0 e1 x1); have e0 := HBk.out.cellAt 0 rfl; have e1 := HBk.out.cellAt 1 rfl; have x1 := HBk.out.lt; clear hown1 hc4 hm4) | (go_at_call 67; go_must (refine (HSc.out _ A1 A4 c1 c4 HL1.out HI1.out).mono ?_); rintro e w3 ⟨rfl, hb⟩; replace HBk := Lib.hid (HBk.out.past hb); replace HBx := Lib.hid (pt HBx.out hb); (try (replace HI5 := Lib.hid ((HI5.out.below hb).more hb.size))); clear hb; (try clear e0 e1 x1); have e0 := HBk.out.cellAt 0 rfl; have e1 := HBk.out.cellAt 1 rfl; have x1 := HBk.out.lt) | (go_at_call 68; go_must (refine (HEn.out _ A1 A4 c1 c4 HL1.out HI1.out).mono ?_); rintro e w3 ⟨rfl, hb⟩; replace HBk := Lib.hid (HBk.out.past hb); replace HBx := Lib.hid (pt HBx.out hb); (try (replace HI5 := Lib.hid ((HI5.out.below hb).more hb.size))); clear hb; (try clear e0 e1 x1); have e0 := HBk.out.cellAt 0 rfl; have e1 := HBk.out.cellAt 1 rfl; have x1 := HBk.out.lt) | (go_at_call 70; go_must (refine (HPa.out _ A1 c1 HL1.out).mono ?_); rintro e w3 ⟨rfl, hb⟩; replace HBk := Lib.hid (HBk.out.past hb); replace HBx := Lib.hid (pt HBx.out hb); (try (replace HI5 := Lib.hid ((HI5.out.below hb).more hb.size))); clear hb; (try clear e0 e1 x1); have e0 := HBk.out.cellAt 0 rfl; have e1 := HBk.out.cellAt 1 rfl; have x1 := HBk.out.lt) | (go_at_call 21; go_must (refine (HRs.out _ HBx.out).mono ?_); rintro e w3 ⟨rfl, hb⟩; replace HBk := Lib.hid (HBk.out.past hb); replace HBx := Lib.hid (pt HBx.out hb); (try (replace HI5 := Lib.hid ((HI5.out.below hb).more hb.size))); clear hb; (try clear e0 e1 x1); have e0 := HBk.out.cellAt 0 rfl; have e1 := HBk.out.cellAt 1 rfl; have x1 := HBk.out.lt) | (go_at_call 22; go_must (refine (HRe.out _ HBx.out).mono ?_); rintro e w3 ⟨rfl, hb⟩; replace HBk := Lib.hid (HBk.out.past hb); replace HBx := Lib.hid (pt HBx.out hb); (try (replace HI5 := Lib.hid ((HI5.out.below hb).more hb.size))); clear hb; (try clear e0 e1 x1); have e0 := HBk.out.cellAt 0 rfl; have e1 := HBk.out.cellAt 1 rfl; have x1 := HBk.out.lt) | (go_at_call 74; (with_reducible refine (HTe.out _ HBx.out).mono ?_); rintro e w3 ⟨rfl, hb⟩; replace HBk := Lib.hid (HBk.out.past hb); replace HBx := Lib.hid (pt HBx.out hb); (try (replace HI5 := Lib.hid ((HI5.out.below hb).more hb.size))); clear hb; (try clear e0 e1 x1); have e0 := HBk.out.cellAt 0 rfl; have e1 := HBk.out.cellAt 1 rfl; have x1 := HBk.out.lt) | (go_at_call 24; (with_reducible refine (copyInts_any w.heap.size A3 tk.length c3 tk _ (HR3.out.below HBx.out) rfl HBx.out.size (by have := HTl.out; omega)).mono ?_); rintro e w2 ⟨v1, rfl, hown1, hb⟩; obtain ⟨A4, c4, rfl, hc4, hm4⟩ := own_form hown1; have HI1 := Lib.hid (intsIn_of_own hown1); replace HL1 := Lib.hid ((HL1.out.below hb).more hb.size); replace HBk := Lib.hid (HBk.out.past hb); replace HBx := Lib.hid (pt HBx.out hb); (try (replace HI5 := Lib.hid ((HI5.out.below hb).more hb.size))); clear hb; (try clear e0 e1 x1); have e0 := HBk.out.cellAt 0 rfl; have e1 := HBk.out.cellAt 1 rfl; have x1 := HBk.out.lt; clear hown1 hc4 hm4) | (go_at_call 71; go_must (refine (HBu.out _ A1 A4 c1 c4 HL1.out HI1.out).mono ?_); rintro e w3 ⟨rfl, hb⟩; replace HBk := Lib.hid (HBk.out.past hb); replace HBx := Lib.hid (pt HBx.out hb); (try (replace HI5 := Lib.hid ((HI5.out.below hb).more hb.size))); clear hb; (try clear e0 e1 x1); have e0 := HBk.out.cellAt 0 rfl; have e1 := HBk.out.cellAt 1 rfl; have x1 := HBk.out.lt))
  go_ret
  exact ⟨rfl, HBx.out⟩

set_option maxHeartbeats 4000000 in
set_option maxRecDepth 100000 in
theorem ne_none0 (A A2 A3 : Option Addr) (c c2 c3 : Nat) (m : Int) (ts : List Task) (ss tk : List Int) (w : World) (hr : TasksIn w.heap.size w A ts) (hr2 : IntsIn w.heap.size w A2 ss) (hr3 : IntsIn w.heap.size w A3 tk) (h : fewB ts = true) (hz : ss.length ≤ 7) (hy : tk.length ≤ 7) (h0 : (openV m ts).2 = 0) (hn : ts.length = 0)
    (hD : ¬ (schedV ts ss).2 = 0) (hT : ¬ tasksE ts tk = 0) :
    Calls Try.prog 14 #[.agg #[.int .i64 m, .slice A ts.length c], .slice A2 ss.length c2, .slice A3 tk.length c3] w fun e w' => e = .returned (.bool true) ∧ Below w.heap.size w w' := by
  have hs := few_small h
  have hsm := fun W (hW : Below w.heap.size w W) => few_any w.heap.size ts A c m W (hr.below hW) hW.size
  rw [h] at hsm
  have hpe := fun W (hW : Below w.heap.size w W) => refPlanErr_any w.heap.size ts A c m W (hr.below hW) hW.size hs
  rw [h0] at hpe
  obtain ⟨ha, hl, hm, _, _, hpos⟩ := open_ok h0
  have hp : PosOk ts := fun i hi => (hpos i hi).2
  have h7 := ha.1.1
  obtain ⟨b, hb1, hb2, hb3, hb4, hmin, _⟩ := best_min ha hl hm hp
  have hsched : (schedV ts b) = (0, 0) := sched_of_feas hb2 fun j _ => by have := hb4 j; omega
  have hbl := hb2.len
  have hbest := fun W A1 c1 (h1 : TasksIn W.heap.size W A1 ts) => best_ok W.heap.size ts A1 c1 m W h1 (Nat.le_refl _) hs h0
  unfold BestPost at hbest
  rw [hb1] at hbest
  have hsc := fun W A1 A4 c1 c4 (h1 : TasksIn W.heap.size W A1 ts) (h2 : IntsIn W.heap.size W A4 b) => worksSched_any W.heap.size ts b A1 A4 c1 c4 m W h1 h2 (Nat.le_refl _) hs (by omega)
  have hen := fun W A1 A4 c1 c4 (h1 : TasksIn W.heap.size W A1 ts) (h2 : IntsIn W.heap.size W A4 b) => worksEnd_any W.heap.size ts b A1 A4 c1 c4 m W h1 h2 (Nat.le_refl _) hs (by omega)
  have hps : planSchedV m ts b = (0, 0) := by unfold planSchedV; rw [if_pos h0, hsched]
  have hpe2 : planEndV m ts b = lastV ts b := by unfold planEndV; rw [hps, if_pos rfl]
  rw [hpe2, hps, hb3] at hen
  rw [hps] at hsc
  have HPa := Lib.hid fun W A1 c1 (h1 : TasksIn W.heap.size W A1 ts) => path_ok W.heap.size ts A1 c1 m W h1 (Nat.le_refl _) hs h0
  have hrs := fun W (hW : Below w.heap.size w W) => refScheduleErr_any w.heap.size ts ss A A2 c c2 m W (hr.below hW) (hr2.below hW) hW.size hl ha.1
  have hD1 : ((schedV ts ss).2 == 0) = false := by simpa using hD
  have hte := fun W (hW : Below w.heap.size w W) => refTasksErr_any w.heap.size ts tk A A3 c c3 m W (hr.below hW) (hr3.below hW) hW.size (by omega) (by omega)
  have hT1 : (tasksE ts tk == 0) = false := by simpa using hT
  have q1 : pathV ts ≤ (bestV ts).last := by rw [← hb3]; exact path_le ha hl hp hb2
  have hL0 : (bestV ts).last = 0 := by rw [← hb3]; exact Int.le_antisymm (lastV_le.2 ⟨Int.le_refl _, fun j hj => by omega⟩) lastV_nn
  have hL1 : ((bestV ts).last == 0) = true := by simpa using hL0
  clear hL0
  have HBl := Lib.hid hbl
  have hbl1 : ((b.length : Int) != (ts.length : Int)) = false := by simp [hbl]
  have hn1 : ((ts.length : Int) == 0) = true := by simp [hn]
  have hz1 : decide ((7 : Int) < (ss.length : Int)) = false := decide_eq_false (by omega)
  have hz2 : decide ((7 : Int) < (tk.length : Int)) = false := decide_eq_false (by omega)
  have hz3 : ¬ 7 < ss.length := by omega
  have hz4 : ¬ 7 < tk.length := by omega
  have d1 : decide ((bestV ts).last < pathV ts) = false := decide_eq_false (by omega)
  have HBest := Lib.hid hbest
  have HSc := Lib.hid hsc
  have HEn := Lib.hid hen
  have HRs := Lib.hid hrs
  have HTe := Lib.hid hte
  have HPe := Lib.hid hpe
  have HS := Lib.hid hs
  have HSm := Lib.hid hsm
  have HR := Lib.hid hr
  have HR2 := Lib.hid hr2
  have HR3 := Lib.hid hr3
  have HTl := Lib.hid hy
  have HL := Lib.hid hl
  have HP := Lib.hid fun (i : Nat) (hi : i < ts.length) => (ha.1.2 i hi).1
  have HBx := Lib.hid (show Below w.heap.size w (w.alloc (.cells #[.int .i64 m, .slice A ts.length c] 24)) from pa pr); have HBk := Lib.hid (show Blk (w.alloc (.cells #[.int .i64 m, .slice A ts.length c] 24)) w.heap.size 24 #[.int .i64 m, .slice A ts.length c] from Blk.newAt rfl)
  clear hr hr2 hr3 hs hsm hpe h h0 ha hl hm hpos hp hb1 hb2 hb3 hb4 hmin hsched hbl hbest hsc hen hps hpe2 hrs hte hn hD hT hz hy
  have HQ := Lib.hid (And.intro q1 (And.intro (show True from trivial) (And.intro (show True from trivial) trivial)))
  clear q1
  generalize tasksE ts tk = T at *
  generalize (schedV ts ss).2 = D at *
  generalize pathV ts = pV at *
  generalize (bestV ts).last = L at *
  go_enter Try.func14, Try.ntmps14
  go_wp2_with (first | (go_at_call 15; refine (awake_any _).mono ?_; rintro e w1 ⟨rfl, hb⟩; replace HBk := Lib.hid (HBk.out.past hb); replace HBx := Lib.hid (pt HBx.out hb); (try (replace HI5 := Lib.hid ((HI5.out.below hb).more hb.size))); clear hb; (try clear e0 e1 x1); have e0 := HBk.out.cellAt 0 rfl; have e1 := HBk.out.cellAt 1 rfl; have x1 := HBk.out.lt) | (go_at_call 16; go_must (refine (HSm.out _ HBx.out).mono ?_); rintro e w1 ⟨rfl, hb⟩; replace HBk := Lib.hid (HBk.out.past hb); replace HBx := Lib.hid (pt HBx.out hb); (try (replace HI5 := Lib.hid ((HI5.out.below hb).more hb.size))); clear hb; (try clear e0 e1 x1); have e0 := HBk.out.cellAt 0 rfl; have e1 := HBk.out.cellAt 1 rfl; have x1 := HBk.out.lt) | (go_at_call 17; go_must (refine (HPe.out _ HBx.out).mono ?_); rintro e w3 ⟨rfl, hb⟩; replace HBk := Lib.hid (HBk.out.past hb); replace HBx := Lib.hid (pt HBx.out hb); (try (replace HI5 := Lib.hid ((HI5.out.below hb).more hb.size))); clear hb; (try clear e0 e1 x1); have e0 := HBk.out.cellAt 0 rfl; have e1 := HBk.out.cellAt 1 rfl; have x1 := HBk.out.lt) | (go_at_call 19; go_must (refine (copyPlan_any w.heap.size ts A ts.length c m _ (HR.out.below HBx.out) rfl HBx.out.size HS.out).mono ?_); rintro e w2 ⟨A1, c1, rfl, hl1, hc1, hb⟩; have HL1 := Lib.hid hl1; have HC1 := Lib.hid hc1; replace HBk := Lib.hid (HBk.out.past hb); replace HBx := Lib.hid (pt HBx.out hb); (try (replace HI5 := Lib.hid ((HI5.out.below hb).more hb.size))); clear hb; (try clear e0 e1 x1); have e0 := HBk.out.cellAt 0 rfl; have e1 := HBk.out.cellAt 1 rfl; have x1 := HBk.out.lt; clear hl1 hc1) | (go_at_call 18; go_must (refine (HBest.out _ A1 c1 HL1.out).mono ?_); rintro e w3 ⟨bv, rfl, ⟨A5, c5, rfl, hi5⟩, hb⟩; replace HBk := Lib.hid (HBk.out.past hb); replace HBx := Lib.hid (pt HBx.out hb); (try (replace HI5 := Lib.hid ((HI5.out.below hb).more hb.size))); clear hb; (try clear e0 e1 x1); have e0 := HBk.out.cellAt 0 rfl; have e1 := HBk.out.cellAt 1 rfl; have x1 := HBk.out.lt; have HI5 := Lib.hid hi5; clear hi5) | (go_at_call 24; (with_reducible refine (copyInts_any _ A5 b.length c5 b _ HI5.out rfl (Nat.le_refl _) (by have := HBl.out; omega)).mono ?_); rintro e w2 ⟨v1, rfl, hown1, hb⟩; obtain ⟨A4, c4, rfl, hc4, hm4⟩ := own_form hown1; have HI1 := Lib.hid (intsIn_of_own hown1); replace HL1 := Lib.hid ((HL1.out.below hb).more hb.size); replace HBk := Lib.hid (HBk.out.past hb); replace HBx := Lib.hid (pt HBx.out hb); (try (replace HI5 := Lib.hid ((HI5.out.below hb).more hb.size))); clear hb; (try clear e0 e1 x1); have e0 := HBk.out.cellAt 0 rfl; have e1 := HBk.out.cellAt 1 rfl; have x1 := HBk.out.lt; clear hown1 hc4 hm4) | (go_at_call 67; go_must (refine (HSc.out _ A1 A4 c1 c4 HL1.out HI1.out).mono ?_); rintro e w3 ⟨rfl, hb⟩; replace HBk := Lib.hid (HBk.out.past hb); replace HBx := Lib.hid (pt HBx.out hb); (try (replace HI5 := Lib.hid ((HI5.out.below hb).more hb.size))); clear hb; (try clear e0 e1 x1); have e0 := HBk.out.cellAt 0 rfl; have e1 := HBk.out.cellAt 1 rfl; have x1 := HBk.out.lt) | (go_at_call 68; go_must (refine (HEn.out _ A1 A4 c1 c4 HL1.out HI1.out).mono ?_); rintro e w3 ⟨rfl, hb⟩; replace HBk := Lib.hid (HBk.out.past hb); replace HBx := Lib.hid (pt HBx.out hb); (try (replace HI5 := Lib.hid ((HI5.out.below hb).more hb.size))); clear hb; (try clear e0 e1 x1); have e0 := HBk.out.cellAt 0 rfl; have e1 := HBk.out.cellAt 1 rfl; have x1 := HBk.out.lt) | (go_at_call 70; go_must (refine (HPa.out _ A1 c1 HL1.out).mono ?_); rintro e w3 ⟨rfl, hb⟩; replace HBk := Lib.hid (HBk.out.past hb); replace HBx := Lib.hid (pt HBx.out hb); (try (replace HI5 := Lib.hid ((HI5.out.below hb).more hb.size))); clear hb; (try clear e0 e1 x1); have e0 := HBk.out.cellAt 0 rfl; have e1 := HBk.out.cellAt 1 rfl; have x1 := HBk.out.lt) | (go_at_call 21; go_must (refine (HRs.out _ HBx.out).mono ?_); rintro e w3 ⟨rfl, hb⟩; replace HBk := Lib.hid (HBk.out.past hb); replace HBx := Lib.hid (pt HBx.out hb); (try (replace HI5 := Lib.hid ((HI5.out.below hb).more hb.size))); clear hb; (try clear e0 e1 x1); have e0 := HBk.out.cellAt 0 rfl; have e1 := HBk.out.cellAt 1 rfl; have x1 := HBk.out.lt) | (go_at_call 22; go_must (refine (HRe.out _ HBx.out).mono ?_); rintro e w3 ⟨rfl, hb⟩; replace HBk := Lib.hid (HBk.out.past hb); replace HBx := Lib.hid (pt HBx.out hb); (try (replace HI5 := Lib.hid ((HI5.out.below hb).more hb.size))); clear hb; (try clear e0 e1 x1); have e0 := HBk.out.cellAt 0 rfl; have e1 := HBk.out.cellAt 1 rfl; have x1 := HBk.out.lt) | (go_at_call 74; (with_reducible refine (HTe.out _ HBx.out).mono ?_); rintro e w3 ⟨rfl, hb⟩; replace HBk := Lib.hid (HBk.out.past hb); replace HBx := Lib.hid (pt HBx.out hb); (try (replace HI5 := Lib.hid ((HI5.out.below hb).more hb.size))); clear hb; (try clear e0 e1 x1); have e0 := HBk.out.cellAt 0 rfl; have e1 := HBk.out.cellAt 1 rfl; have x1 := HBk.out.lt) | (go_at_call 24; (with_reducible refine (copyInts_any w.heap.size A3 tk.length c3 tk _ (HR3.out.below HBx.out) rfl HBx.out.size (by have := HTl.out; omega)).mono ?_); rintro e w2 ⟨v1, rfl, hown1, hb⟩; obtain ⟨A4, c4, rfl, hc4, hm4⟩ := own_form hown1; have HI1 := Lib.hid (intsIn_of_own hown1); replace HL1 := Lib.hid ((HL1.out.below hb).more hb.size); replace HBk := Lib.hid (HBk.out.past hb); replace HBx := Lib.hid (pt HBx.out hb); (try (replace HI5 := Lib.hid ((HI5.out.below hb).more hb.size))); clear hb; (try clear e0 e1 x1); have e0 := HBk.out.cellAt 0 rfl; have e1 := HBk.out.cellAt 1 rfl; have x1 := HBk.out.lt; clear hown1 hc4 hm4) | (go_at_call 71; go_must (refine (HBu.out _ A1 A4 c1 c4 HL1.out HI1.out).mono ?_); rintro e w3 ⟨rfl, hb⟩; replace HBk := Lib.hid (HBk.out.past hb); replace HBx := Lib.hid (pt HBx.out hb); (try (replace HI5 := Lib.hid ((HI5.out.below hb).more hb.size))); clear hb; (try clear e0 e1 x1); have e0 := HBk.out.cellAt 0 rfl; have e1 := HBk.out.cellAt 1 rfl; have x1 := HBk.out.lt))
  go_ret
  exact ⟨rfl, HBx.out⟩

end Go.Proofs.Ytlgioldmjohhlaa
