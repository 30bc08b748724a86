/- WorksNoEarlier: the walk, another way. -/
import Derived.Test.YtlgioldmjohhlaaV4NoEarlier
namespace Go.Proofs.Ytlgioldmjohhlaa
open Go.ChangeShapes Go.WideShapes Go.ChangeAt Go.RowKit Go.Joins Go.Deep


set_option maxHeartbeats 4000000 in
set_option maxRecDepth 100000 in
theorem ne_go00 (A A2 A3 : Option Addr) (c c2 c3 : Nat) (m : Int) (ts : List Task) (ss tk : List Int) (w : World) (hr : TasksIn w.heap.size w A ts) (hr2 : IntsIn w.heap.size w A2 ss) (hr3 : IntsIn w.heap.size w A3 tk) (h : fewB ts = true) (hz : ss.length ≤ 7) (hy : tk.length ≤ 7) (h0 : (openV m ts).2 = 0) (hn : 0 < ts.length)
    (hD : ¬ (schedV ts ss).2 = 0) (hT : ¬ tasksE ts tk = 0) :
    Calls Try.prog 14 #[.agg #[.int .i64 m, .slice A ts.length c], .slice A2 ss.length c2, .slice A3 tk.length c3] w fun e w' => e = .returned (.bool true) ∧ Below w.heap.size w w' := by
  have hs := few_small h
  have hsm := fun W (hW : Below w.heap.size w W) => few_any w.heap.size ts A c m W (hr.below hW) hW.size
  rw [h] at hsm
  have hpe := fun W (hW : Below w.heap.size w W) => refPlanErr_any w.heap.size ts A c m W (hr.below hW) hW.size hs
  rw [h0] at hpe
  obtain ⟨ha, hl, hm, _, _, hpos⟩ := open_ok h0
  have hp : PosOk ts := fun i hi => (hpos i hi).2
  have h7 := ha.1.1
  obtain ⟨b, hb1, hb2, hb3, hb4, hmin, _⟩ := best_min ha hl hm hp
  have hsched : (schedV ts b) = (0, 0) := sched_of_feas hb2 fun j _ => by have := hb4 j; omega
  have hbl := hb2.len
  have hbest := fun W A1 c1 (h1 : TasksIn W.heap.size W A1 ts) => best_ok W.heap.size ts A1 c1 m W h1 (Nat.le_refl _) hs h0
  unfold BestPost at hbest
  rw [hb1] at hbest
  have hsc := fun W A1 A4 c1 c4 (h1 : TasksIn W.heap.size W A1 ts) (h2 : IntsIn W.heap.size W A4 b) => worksSched_any W.heap.size ts b A1 A4 c1 c4 m W h1 h2 (Nat.le_refl _) hs (by omega)
  have hen := fun W A1 A4 c1 c4 (h1 : TasksIn W.heap.size W A1 ts) (h2 : IntsIn W.heap.size W A4 b) => worksEnd_any W.heap.size ts b A1 A4 c1 c4 m W h1 h2 (Nat.le_refl _) hs (by omega)
  have hps : planSchedV m ts b = (0, 0) := by unfold planSchedV; rw [if_pos h0, hsched]
  have hpe2 : planEndV m ts b = lastV ts b := by unfold planEndV; rw [hps, if_pos rfl]
  rw [hpe2, hps, hb3] at hen
  rw [hps] at hsc
  have HPa := Lib.hid fun W A1 c1 (h1 : TasksIn W.heap.size W A1 ts) => path_ok W.heap.size ts A1 c1 m W h1 (Nat.le_refl _) hs h0
  have hrs := fun W (hW : Below w.heap.size w W) => refScheduleErr_any w.heap.size ts ss A A2 c c2 m W (hr.below hW) (hr2.below hW) hW.size hl ha.1
  have hD1 : ((schedV ts ss).2 == 0) = false := by simpa using hD
  have hte := fun W (hW : Below w.heap.size w W) => refTasksErr_any w.heap.size ts tk A A3 c c3 m W (hr.below hW) (hr3.below hW) hW.size (by omega) (by omega)
  have hT1 : (tasksE ts tk == 0) = false := by simpa using hT
  obtain ⟨hs1, hs2, hs3⟩ := bestBound_same ha hl hm hp hn
  have HBb := Lib.hid fun W A1 c1 (h1 : TasksIn W.heap.size W A1 ts) => bestS_ok W.heap.size ts A1 c1 m W h1 (Nat.le_refl _) hs h0 hn
  have hL7 : (rbUpto ts ts.length).1.length ≤ 1000 := by
    obtain ⟨e1, e2, e3, _⟩ := tasksE_zero.1 hs2
    obtain ⟨set, _, _, hb⟩ := bits_of e2 e3 e1
    rw [← hb]
    have := bits_len set ts.length
    omega
  have htl2 := fun W A6 c6 (hW : Below w.heap.size w W) (h2 : IntsIn W.heap.size W A6 (rbUpto ts ts.length).1) => refTasksErr_any W.heap.size ts (rbUpto ts ts.length).1 A A6 c c6 m W ((hr.below hW).more hW.size) h2 (Nat.le_refl _) (by omega) hL7
  rw [hs2] at htl2
  have q1 : pathV ts ≤ (bestV ts).last := by rw [← hb3]; exact path_le ha hl hp hb2
  have q4 : (rbUpto ts ts.length).2 ≤ (bestV ts).last := by rw [hs3, ← hb3]; exact busy_le ha hl hp hs2 hb2
  have HAl := Lib.hid fun (h : AloneK ts ts.length) => alone_sum ha hl hm hp hn h
  have HFo := Lib.hid fun (hno : ∀ i, i < ts.length - 1 → ¬ ((ts.length - 1 : Nat) : Int) ∈ (ts.getD i default).after) => fewer_ok h0 (k := ts.length - 1) (by omega) hno
  have HFl := Lib.hid fun (hno : ∀ i, i < ts.length - 1 → ¬ ((ts.length - 1 : Nat) : Int) ∈ (ts.getD i default).after) => fewer_le h0 (k := ts.length - 1) (by omega) hno
  have HBl := Lib.hid hbl
  have hbl1 : ((b.length : Int) != (ts.length : Int)) = false := by simp [hbl]
  have hn1 : ((ts.length : Int) == 0) = false := by
    have : ¬ (ts.length : Int) = 0 := by omega
    simpa using this
  have hz1 : decide ((7 : Int) < (ss.length : Int)) = false := decide_eq_false (by omega)
  have hz2 : decide ((7 : Int) < (tk.length : Int)) = false := decide_eq_false (by omega)
  have hz3 : ¬ 7 < ss.length := by omega
  have hz4 : ¬ 7 < tk.length := by omega
  have d1 : decide ((bestV ts).last < pathV ts) = false := decide_eq_false (by omega)
  have d4 : decide ((bestV ts).last < (rbUpto ts ts.length).2) = false := decide_eq_false (by omega)
  have HBest := Lib.hid hbest
  have HSc := Lib.hid hsc
  have HEn := Lib.hid hen
  have HRs := Lib.hid hrs
  have HTe := Lib.hid hte
  have HTl2 := Lib.hid htl2
  have HPe := Lib.hid hpe
  have HS := Lib.hid hs
  have HSm := Lib.hid hsm
  have HR := Lib.hid hr
  have HR2 := Lib.hid hr2
  have HR3 := Lib.hid hr3
  have HTl := Lib.hid hy
  have HL := Lib.hid hl
  have HP := Lib.hid fun (i : Nat) (hi : i < ts.length) => (ha.1.2 i hi).1
  have HBx := Lib.hid (show Below w.heap.size w (w.alloc (.cells #[.int .i64 m, .slice A ts.length c] 24)) from pa pr); have HBk := Lib.hid (show Blk (w.alloc (.cells #[.int .i64 m, .slice A ts.length c] 24)) w.heap.size 24 #[.int .i64 m, .slice A ts.length c] from Blk.newAt rfl)
  clear hr hr2 hr3 hs hsm hpe h h0 ha hl hm hpos hp hb1 hb2 hb3 hb4 hmin hsched hbl hbest hsc hen hps hpe2 hrs hte hs1 hs2 hs3 hL7 htl2 hD hT hz hy
  have HQ := Lib.hid (And.intro q1 (And.intro (show True from trivial) (And.intro (show True from trivial) q4)))
  clear q1 q4
  generalize (rbUpto ts ts.length).1 = LB at *
  generalize (rbUpto ts ts.length).2 = nB at *
  generalize tasksE ts tk = T at *
  generalize (schedV ts ss).2 = D at *
  generalize pathV ts = pV at *
  generalize (bestV ts).last = L at *
  go_enter Try.func14, Try.ntmps14
  go_wp2_with (first | (go_at_call 15; refine (awake_any _).mono ?_; rintro e w1 ⟨rfl, hb⟩; replace HBk := Lib.hid (HBk.out.past hb); replace HBx := Lib.hid (pt HBx.out hb); (try (replace HI5 := Lib.hid ((HI5.out.below hb).more hb.size))); clear hb; (try clear e0 e1 x1); have e0 := HBk.out.cellAt 0 rfl; have e1 := HBk.out.cellAt 1 rfl; have x1 := HBk.out.lt) | (go_at_call 16; go_must (refine (HSm.out _ HBx.out).mono ?_); rintro e w1 ⟨rfl, hb⟩; replace HBk := Lib.hid (HBk.out.past hb); replace HBx := Lib.hid (pt HBx.out hb); (try (replace HI5 := Lib.hid ((HI5.out.below hb).more hb.size))); clear hb; (try clear e0 e1 x1); have e0 := HBk.out.cellAt 0 rfl; have e1 := HBk.out.cellAt 1 rfl; have x1 := HBk.out.lt) | (go_at_call 17; go_must (refine (HPe.out _ HBx.out).mono ?_); rintro e w3 ⟨rfl, hb⟩; replace HBk := Lib.hid (HBk.out.past hb); replace HBx := Lib.hid (pt HBx.out hb); (try (replace HI5 := Lib.hid ((HI5.out.below hb).more hb.size))); clear hb; (try clear e0 e1 x1); have e0 := HBk.out.cellAt 0 rfl; have e1 := HBk.out.cellAt 1 rfl; have x1 := HBk.out.lt) | (go_at_call 19; go_must (refine (copyPlan_any w.heap.size ts A ts.length c m _ (HR.out.below HBx.out) rfl HBx.out.size HS.out).mono ?_); rintro e w2 ⟨A1, c1, rfl, hl1, hc1, hb⟩; have HL1 := Lib.hid hl1; have HC1 := Lib.hid hc1; replace HBk := Lib.hid (HBk.out.past hb); replace HBx := Lib.hid (pt HBx.out hb); (try (replace HI5 := Lib.hid ((HI5.out.below hb).more hb.size))); clear hb; (try clear e0 e1 x1); have e0 := HBk.out.cellAt 0 rfl; have e1 := HBk.out.cellAt 1 rfl; have x1 := HBk.out.lt; clear hl1 hc1) | (go_at_call 18; go_must (refine (HBest.out _ A1 c1 HL1.out).mono ?_); rintro e w3 ⟨bv, rfl, ⟨A5, c5, rfl, hi5⟩, hb⟩; replace HBk := Lib.hid (HBk.out.past hb); replace HBx := Lib.hid (pt HBx.out hb); (try (replace HI5 := Lib.hid ((HI5.out.below hb).more hb.size))); clear hb; (try clear e0 e1 x1); have e0 := HBk.out.cellAt 0 rfl; have e1 := HBk.out.cellAt 1 rfl; have x1 := HBk.out.lt; have HI5 := Lib.hid hi5; clear hi5) | (go_at_call 24; (with_reducible refine (copyInts_any _ A5 b.length c5 b _ HI5.out rfl (Nat.le_refl _) (by have := HBl.out; omega)).mono ?_); rintro e w2 ⟨v1, rfl, hown1, hb⟩; obtain ⟨A4, c4, rfl, hc4, hm4⟩ := own_form hown1; have HI1 := Lib.hid (intsIn_of_own hown1); replace HL1 := Lib.hid ((HL1.out.below hb).more hb.size); replace HBk := Lib.hid (HBk.out.past hb); replace HBx := Lib.hid (pt HBx.out hb); (try (replace HI5 := Lib.hid ((HI5.out.below hb).more hb.size))); clear hb; (try clear e0 e1 x1); have e0 := HBk.out.cellAt 0 rfl; have e1 := HBk.out.cellAt 1 rfl; have x1 := HBk.out.lt; clear hown1 hc4 hm4) | (go_at_call 67; go_must (refine (HSc.out _ A1 A4 c1 c4 HL1.out HI1.out).mono ?_); rintro e w3 ⟨rfl, hb⟩; replace HBk := Lib.hid (HBk.out.past hb); replace HBx := Lib.hid (pt HBx.out hb); (try (replace HI5 := Lib.hid ((HI5.out.below hb).more hb.size))); clear hb; (try clear e0 e1 x1); have e0 := HBk.out.cellAt 0 rfl; have e1 := HBk.out.cellAt 1 rfl; have x1 := HBk.out.lt) | (go_at_call 68; go_must (refine (HEn.out _ A1 A4 c1 c4 HL1.out HI1.out).mono ?_); rintro e w3 ⟨rfl, hb⟩; replace HBk := Lib.hid (HBk.out.past hb); replace HBx := Lib.hid (pt HBx.out hb); (try (replace HI5 := Lib.hid ((HI5.out.below hb).more hb.size))); clear hb; (try clear e0 e1 x1); have e0 := HBk.out.cellAt 0 rfl; have e1 := HBk.out.cellAt 1 rfl; have x1 := HBk.out.lt) | (go_at_call 70; go_must (refine (HPa.out _ A1 c1 HL1.out).mono ?_); rintro e w3 ⟨rfl, hb⟩; replace HBk := Lib.hid (HBk.out.past hb); replace HBx := Lib.hid (pt HBx.out hb); (try (replace HI5 := Lib.hid ((HI5.out.below hb).more hb.size))); clear hb; (try clear e0 e1 x1); have e0 := HBk.out.cellAt 0 rfl; have e1 := HBk.out.cellAt 1 rfl; have x1 := HBk.out.lt) | (go_at_call 21; go_must (refine (HRs.out _ HBx.out).mono ?_); rintro e w3 ⟨rfl, hb⟩; replace HBk := Lib.hid (HBk.out.past hb); replace HBx := Lib.hid (pt HBx.out hb); (try (replace HI5 := Lib.hid ((HI5.out.below hb).more hb.size))); clear hb; (try clear e0 e1 x1); have e0 := HBk.out.cellAt 0 rfl; have e1 := HBk.out.cellAt 1 rfl; have x1 := HBk.out.lt) | (go_at_call 22; go_must (refine (HRe.out _ HBx.out).mono ?_); rintro e w3 ⟨rfl, hb⟩; replace HBk := Lib.hid (HBk.out.past hb); replace HBx := Lib.hid (pt HBx.out hb); (try (replace HI5 := Lib.hid ((HI5.out.below hb).more hb.size))); clear hb; (try clear e0 e1 x1); have e0 := HBk.out.cellAt 0 rfl; have e1 := HBk.out.cellAt 1 rfl; have x1 := HBk.out.lt) | (go_at_call 74; (with_reducible refine (HTe.out _ HBx.out).mono ?_); rintro e w3 ⟨rfl, hb⟩; replace HBk := Lib.hid (HBk.out.past hb); replace HBx := Lib.hid (pt HBx.out hb); (try (replace HI5 := Lib.hid ((HI5.out.below hb).more hb.size))); clear hb; (try clear e0 e1 x1); have e0 := HBk.out.cellAt 0 rfl; have e1 := HBk.out.cellAt 1 rfl; have x1 := HBk.out.lt) | (go_at_call 24; (with_reducible refine (copyInts_any w.heap.size A3 tk.length c3 tk _ (HR3.out.below HBx.out) rfl HBx.out.size (by have := HTl.out; omega)).mono ?_); rintro e w2 ⟨v1, rfl, hown1, hb⟩; obtain ⟨A4, c4, rfl, hc4, hm4⟩ := own_form hown1; have HI1 := Lib.hid (intsIn_of_own hown1); replace HL1 := Lib.hid ((HL1.out.below hb).more hb.size); replace HBk := Lib.hid (HBk.out.past hb); replace HBx := Lib.hid (pt HBx.out hb); (try (replace HI5 := Lib.hid ((HI5.out.below hb).more hb.size))); clear hb; (try clear e0 e1 x1); have e0 := HBk.out.cellAt 0 rfl; have e1 := HBk.out.cellAt 1 rfl; have x1 := HBk.out.lt; clear hown1 hc4 hm4) | (go_at_call 71; go_must (refine (HBu.out _ A1 A4 c1 c4 HL1.out HI1.out).mono ?_); rintro e w3 ⟨rfl, hb⟩; replace HBk := Lib.hid (HBk.out.past hb); replace HBx := Lib.hid (pt HBx.out hb); (try (replace HI5 := Lib.hid ((HI5.out.below hb).more hb.size))); clear hb; (try clear e0 e1 x1); have e0 := HBk.out.cellAt 0 rfl; have e1 := HBk.out.cellAt 1 rfl; have x1 := HBk.out.lt) | (go_at_call 72; go_must (refine (HBb.out _ A1 c1 HL1.out).mono ?_); rintro e w3 ⟨A6, c6, rfl, hi6, hb⟩; replace HBk := Lib.hid (HBk.out.past hb); replace HBx := Lib.hid (pt HBx.out hb); (try (replace HI5 := Lib.hid ((HI5.out.below hb).more hb.size))); clear hb; (try clear e0 e1 x1); have e0 := HBk.out.cellAt 0 rfl; have e1 := HBk.out.cellAt 1 rfl; have x1 := HBk.out.lt; have HI6 := Lib.hid hi6; clear hi6) | (go_at_call 74; (with_reducible refine (HTl2.out _ A6 c6 HBx.out HI6.out).mono ?_); rintro e w3 ⟨rfl, hb⟩; replace HBk := Lib.hid (HBk.out.past hb); replace HBx := Lib.hid (pt HBx.out hb); (try (replace HI5 := Lib.hid ((HI5.out.below hb).more hb.size))); clear hb; (try clear e0 e1 x1); have e0 := HBk.out.cellAt 0 rfl; have e1 := HBk.out.cellAt 1 rfl; have x1 := HBk.out.lt))
  clear e0 e1 x1
  go_loopw [21, 22, 23] (fun av sv iv wr => ∃ i : Nat, av = .bool (decide (AloneK ts i)) ∧ sv = .int .i64 (preS ts i) ∧ iv = .int .i64 (i : Int) ∧ i ≤ ts.length ∧ 0 ≤ preS ts i ∧ preS ts i ≤ ((10000 * i : Nat) : Int) ∧ Below w.heap.size w wr ∧ Blk wr w.heap.size 24 #[.int .i64 m, .slice A ts.length c]) (fun _ _ iv _ => ts.length - (intOf iv).toNat)
  case atStart => exact ⟨0, by rw [decide_eq_true (show AloneK ts 0 from fun i hi => by omega)], rfl, rfl, Nat.zero_le _, Int.le_refl _, Int.le_refl _, HBx.out, HBk.out⟩
  case round =>
    clear HBx HBk
    obtain ⟨i, rfl, rfl, rfl, hi, hp0, hp1, hq, hk⟩ := hrel
    have HQr := Lib.hid hq
    have HKr := Lib.hid hk
    have a0 := hk.cellAt 0 rfl
    have a1 := hk.cellAt 1 rfl
    have x0 := hk.lt
    have hqs := hq.size
    clear hq hk
    by_cases hlt : i < ts.length
    · obtain ⟨b1, off, hA, hbB, hct⟩ := HR.out.at_ hlt
      obtain ⟨t0w, t1w, t2w, A7, c7, t3w, _, _⟩ := hct i hlt
      obtain ⟨t4w, _⟩ := hct 0 hn
      have t0 := ((bcell HQr.out).1 _ _ hbB).trans t0w
      have t1 := ((bcell HQr.out).1 _ _ hbB).trans t1w
      have t2 := ((bcell HQr.out).1 _ _ hbB).trans t2w
      have t3 := ((bcell HQr.out).1 _ _ hbB).trans t3w
      have t4 : wr.cell? ⟨b1, off, none⟩ = some (.int .i64 (ts.getD 0 default).machine) := ((bcell HQr.out).1 _ _ hbB).trans (by simpa using t4w)
      have hbw : b1 < wr.heap.size := by omega
      have i0 : (0 : Int) ≤ (i : Int) := by omega
      have i1 : (i : Int) < (ts.length : Int) := by omega
      have n1 : (0 : Int) < (ts.length : Int) := by omega
      have hli := HL.out i hlt
      have hw1 : IntKind.i64.wrap (preS ts i + (ts.getD i default).length) = preS ts i + (ts.getD i default).length := IntWalk.i64_in _ (by omega)
      have HNext := Lib.hid (show decide (AloneK ts (i + 1)) = (decide (AloneK ts i) && (decide ((ts.getD i default).machine = (ts.getD 0 default).machine) && (decide ((ts.getD i default).release = 0) && decide ((ts.getD i default).after.length = 0)))) from alone_succ ts i)
      have HPre := Lib.hid (show preS ts (i + 1) = preS ts i + (ts.getD i default).length from rfl)
      subst hA
      clear hct t0w t1w t2w t3w t4w
      generalize preS ts i = si at *
      generalize (ts.getD i default).length = li at *
      generalize (ts.getD i default).machine = mi at *
      generalize (ts.getD i default).release = ri at *
      generalize (ts.getD i default).after = fi at *
      generalize (ts.getD 0 default).machine = m0 at *
      generalize decide (AloneK ts i) = al at *
      cases al with
      | false =>
        have HN2 := Lib.hid (show decide (AloneK ts (i + 1)) = false by rw [HNext.out]; rfl)
        go_wp2
        go_quiet (fail)
        go_wp2
        go_roundw
        case rel => exact ⟨i + 1, by rw [HN2.out], by rw [HPre.out], by go_num, by omega, by rw [HPre.out]; omega, by rw [HPre.out]; omega, below_drewN' (pa HQr.out) _, (HKr.out.alloc).past (below_drewN' pr _)⟩
        case measure => simp [intOf]; omega
      | true =>
        by_cases h1 : mi = m0
        · have h1' : ((mi : Int) == m0) = true := by simpa using h1
          by_cases h2 : ri = 0
          · have h2' : ((ri : Int) == 0) = true := by simpa using h2
            by_cases h3 : fi.length = 0
            · have h3' : ((fi.length : Int) == 0) = true := by simp [h3]
              have HN2 := Lib.hid (show decide (AloneK ts (i + 1)) = true by rw [HNext.out, decide_eq_true h1, decide_eq_true h2, decide_eq_true h3]; rfl)
              clear h1 h2 h3
              go_wp2
              go_quiet (fail)
              go_wp2
              go_roundw
              case rel => exact ⟨i + 1, by rw [HN2.out], by rw [HPre.out], by go_num, by omega, by rw [HPre.out]; omega, by rw [HPre.out]; omega, below_drewN' (pa HQr.out) _, (HKr.out.alloc).past (below_drewN' pr _)⟩
              case measure => simp [intOf]; omega
            · have h3' : ((fi.length : Int) == 0) = false := by simp [h3]
              have HN2 := Lib.hid (show decide (AloneK ts (i + 1)) = false by rw [HNext.out, decide_eq_false h3]; simp)
              clear h1 h2 h3
              go_wp2
              go_quiet (fail)
              go_wp2
              go_roundw
              case rel => exact ⟨i + 1, by rw [HN2.out], by rw [HPre.out], by go_num, by omega, by rw [HPre.out]; omega, by rw [HPre.out]; omega, below_drewN' (pa HQr.out) _, (HKr.out.alloc).past (below_drewN' pr _)⟩
              case measure => simp [intOf]; omega
          · have h2' : ((ri : Int) == 0) = false := by simpa using h2
            have HN2 := Lib.hid (show decide (AloneK ts (i + 1)) = false by rw [HNext.out, decide_eq_false h2]; simp)
            clear h1 h2
            go_wp2
            go_quiet (fail)
            go_wp2
            go_roundw
            case rel => exact ⟨i + 1, by rw [HN2.out], by rw [HPre.out], by go_num, by omega, by rw [HPre.out]; omega, by rw [HPre.out]; omega, below_drewN' (pa HQr.out) _, (HKr.out.alloc).past (below_drewN' pr _)⟩
            case measure => simp [intOf]; omega
        · have h1' : ((mi : Int) == m0) = false := by simpa using h1
          have HN2 := Lib.hid (show decide (AloneK ts (i + 1)) = false by rw [HNext.out, decide_eq_false h1]; simp)
          clear h1
          go_wp2
          go_quiet (fail)
          go_wp2
          go_roundw
          case rel => exact ⟨i + 1, by rw [HN2.out], by rw [HPre.out], by go_num, by omega, by rw [HPre.out]; omega, by rw [HPre.out]; omega, below_drewN' (pa HQr.out) _, (HKr.out.alloc).past (below_drewN' pr _)⟩
          case measure => simp [intOf]; omega
    · obtain rfl : i = ts.length := by omega
      have HSum := Lib.hid (show (decide (AloneK ts ts.length) && (L != preS ts ts.length)) = false by
        cases hal : decide (AloneK ts ts.length) with
        | false => rfl
        | true => simp [HAl.out (of_decide_eq_true hal)])
      have hn1' : ts.length - 1 < ts.length := by omega
      have hwl : IntKind.i64.wrap ((ts.length : Int) - 1) = (ts.length : Int) - 1 := IntWalk.i64_in _ (by omega)
      have HKm := Lib.hid (show ((ts.length - 1 : Nat) : Int) = (ts.length : Int) - 1 by omega)
      clear hlt hi hp0 hp1 hqs
      generalize preS ts ts.length = S at *
      generalize decide (AloneK ts ts.length) = al at *
      cases al with
      | true =>
        have hS : (L != S) = false := by have := HSum.out; simpa using this
        go_wp2_with (go_at_call 19; go_must (refine (copyPlan_any w.heap.size ts A ts.length c m _ (HR.out.below HQr.out) rfl HQr.out.size HS.out).mono ?_); rintro e w2 ⟨A1, c1, rfl, hl1, hc1, hb⟩; have HL1 := Lib.hid hl1; have HC1 := Lib.hid hc1; have HQ1 := Lib.hid (pt HQr.out hb); have HK1 := Lib.hid (HKr.out.past hb); have y0 := HK1.out.cellAt 0 rfl; have y1 := HK1.out.cellAt 1 rfl; have y2 := HK1.out.lt; have hc3 : (ts.length : Int) - 1 ≤ (c1 : Int) := (by omega); have hc4 : (0 : Int) ≤ (ts.length : Int) - 1 := (by omega); have hc5 : ((ts.length : Int) - 1).toNat = ts.length - 1 := (by omega); clear hl1 hc1 hb)
        have RF := Lib.hid (Blk.new w2 24 #[.int .i64 m, .slice A1 (ts.length - 1) c1])
        have HQ2 := Lib.hid (show Below w.heap.size w (w2.alloc (.cells #[.int .i64 m, .slice A1 (ts.length - 1) c1] 24)) from pa HQ1.out)
        have HK2 := Lib.hid (HK1.out.alloc (o := .cells #[.int .i64 m, .slice A1 (ts.length - 1) c1] 24))
        have HL2 := Lib.hid ((HL1.out.below (show Below w2.heap.size w2 (w2.alloc (.cells #[.int .i64 m, .slice A1 (ts.length - 1) c1] 24)) from pa pr)).more (show w2.heap.size ≤ (w2.alloc (.cells #[.int .i64 m, .slice A1 (ts.length - 1) c1] 24)).heap.size by simp))
        clear y0 y1 y2 a0 a1 x0 HK1 HQ1 HL1
        generalize w2.alloc (.cells #[.int .i64 m, .slice A1 (ts.length - 1) c1] 24) = wf at *
        generalize w2.heap.size = fb at *
        go_loopw [27] (fun iv wr => ∃ i : Nat, iv = .int .i64 (i : Int) ∧ i ≤ ts.length - 1 ∧ (∀ q, q < i → ¬ ((ts.length - 1 : Nat) : Int) ∈ (ts.getD q default).after) ∧ Below wf.heap.size wf wr) (fun iv _ => ts.length - (intOf iv).toNat)
        case atStart => exact ⟨0, rfl, Nat.zero_le _, fun q hq => by omega, pr⟩
        case round =>
          obtain ⟨i, rfl, hi, hno, hq⟩ := hrel
          have HNo := Lib.hid hno
          have HQ3 := Lib.hid hq
          have HQ4 := Lib.hid (pt HQ2.out hq)
          have y0 := (HK2.out.past hq).cellAt 0 rfl
          have y1 := (HK2.out.past hq).cellAt 1 rfl
          have y2 := (HK2.out.past hq).lt
          have z0 := (RF.out.past hq).cellAt 0 rfl
          have z1 := (RF.out.past hq).cellAt 1 rfl
          have z2 := (RF.out.past hq).lt
          clear hq hno
          by_cases hli : i < ts.length - 1
          · obtain ⟨b1, off, hA, hbB, hct⟩ := HR.out.at_ (k := i) (by omega)
            obtain ⟨_, _, _, A7, c7, t3w, t4w, _⟩ := hct i (by omega)
            have t3 := ((bcell HQ4.out).1 _ _ hbB).trans t3w
            have hbw : b1 < wr.heap.size := by have := HQ4.out.size; omega
            have HHas := Lib.hid fun W (hW : Below w.heap.size w W) => baseHas_any w.heap.size A7 c7 (ts.getD i default).after ((ts.length : Int) - 1) W (t4w.below hW) (by have := HP.out i (by omega); omega)
            have HM := Lib.hid (show hasB (ts.getD i default).after ((ts.length : Int) - 1) = true ↔ ((ts.length - 1 : Nat) : Int) ∈ (ts.getD i default).after by rw [hasB_iff, HKm.out])
            have i0 : (0 : Int) ≤ (i : Int) := by omega
            have i1 : (i : Int) < (ts.length : Int) := by omega
            have i2 : decide ((i : Int) < (ts.length : Int) - 1) = true := decide_eq_true (by omega)
            have i3 : (i : Int) < (ts.length : Int) - 1 := by omega
            subst hA
            clear hct t3w t4w
            generalize hasB (ts.getD i default).after ((ts.length : Int) - 1) = hb at *
            generalize (ts.getD i default).after.length = fl at *
            cases hb with
            | true =>
              go_wp2_with (go_at_call 33; go_must (refine (HHas.out _ HQ4.out).mono ?_); rintro e w' ⟨rfl, rfl⟩)
              go_ret
              exact ⟨rfl, HQ4.out⟩
            | false =>
              go_wp2_with (go_at_call 33; go_must (refine (HHas.out _ HQ4.out).mono ?_); rintro e w' ⟨rfl, rfl⟩)
              go_roundw
              case rel => exact ⟨i + 1, by go_num, by omega, fun q hq => by
                by_cases e : q = i
                · subst e; intro hm; have := HM.out.2 hm; cases this
                · exact HNo.out q (by omega), HQ3.out⟩
              case measure => simp [intOf]; omega
          · have hie : i = ts.length - 1 := by omega
            have HNo2 := Lib.hid (fun q (hq : q < ts.length - 1) => HNo.out q (by omega))
            have HFo2 := Lib.hid (HFo.out HNo2.out)
            have HFl2 := Lib.hid (HFl.out HNo2.out)
            have hfb := best_ok wr.heap.size (ts.take (ts.length - 1)) A1 c1 m wr (tasksIn_take ((HL2.out.below HQ3.out).more HQ3.out.size)) (Nat.le_refl _) (small_take HS.out) HFo2.out
            rw [List.length_take, Nat.min_eq_left (Nat.sub_le _ _)] at hfb
            unfold BestPost at hfb
            have HFb := Lib.hid hfb
            have i2 : decide ((i : Int) < (ts.length : Int) - 1) = false := decide_eq_false (by omega)
            have i3 : ¬ (i : Int) < (ts.length : Int) - 1 := by omega
            clear hfb hie
            generalize (bestV (ts.take (ts.length - 1))).last = L2 at *
            have hle : decide (L2 ≤ L) = true := decide_eq_true HFl2.out
            have hle2 : L2 ≤ L := HFl2.out
            go_wp2_with (go_at_call 18; go_must (refine HFb.out.mono ?_); rintro e w3 ⟨bv, rfl, _, hb⟩)
            go_ret
            exact ⟨rfl, pt HQ4.out hb⟩
      | false =>
        go_wp2_with (go_at_call 19; go_must (refine (copyPlan_any w.heap.size ts A ts.length c m _ (HR.out.below HQr.out) rfl HQr.out.size HS.out).mono ?_); rintro e w2 ⟨A1, c1, rfl, hl1, hc1, hb⟩; have HL1 := Lib.hid hl1; have HC1 := Lib.hid hc1; have HQ1 := Lib.hid (pt HQr.out hb); have HK1 := Lib.hid (HKr.out.past hb); have y0 := HK1.out.cellAt 0 rfl; have y1 := HK1.out.cellAt 1 rfl; have y2 := HK1.out.lt; have hc3 : (ts.length : Int) - 1 ≤ (c1 : Int) := (by omega); have hc4 : (0 : Int) ≤ (ts.length : Int) - 1 := (by omega); have hc5 : ((ts.length : Int) - 1).toNat = ts.length - 1 := (by omega); clear hl1 hc1 hb)
        have RF := Lib.hid (Blk.new w2 24 #[.int .i64 m, .slice A1 (ts.length - 1) c1])
        have HQ2 := Lib.hid (show Below w.heap.size w (w2.alloc (.cells #[.int .i64 m, .slice A1 (ts.length - 1) c1] 24)) from pa HQ1.out)
        have HK2 := Lib.hid (HK1.out.alloc (o := .cells #[.int .i64 m, .slice A1 (ts.length - 1) c1] 24))
        have HL2 := Lib.hid ((HL1.out.below (show Below w2.heap.size w2 (w2.alloc (.cells #[.int .i64 m, .slice A1 (ts.length - 1) c1] 24)) from pa pr)).more (show w2.heap.size ≤ (w2.alloc (.cells #[.int .i64 m, .slice A1 (ts.length - 1) c1] 24)).heap.size by simp))
        clear y0 y1 y2 a0 a1 x0 HK1 HQ1 HL1
        generalize w2.alloc (.cells #[.int .i64 m, .slice A1 (ts.length - 1) c1] 24) = wf at *
        generalize w2.heap.size = fb at *
        go_loopw [27] (fun iv wr => ∃ i : Nat, iv = .int .i64 (i : Int) ∧ i ≤ ts.length - 1 ∧ (∀ q, q < i → ¬ ((ts.length - 1 : Nat) : Int) ∈ (ts.getD q default).after) ∧ Below wf.heap.size wf wr) (fun iv _ => ts.length - (intOf iv).toNat)
        case atStart => exact ⟨0, rfl, Nat.zero_le _, fun q hq => by omega, pr⟩
        case round =>
          obtain ⟨i, rfl, hi, hno, hq⟩ := hrel
          have HNo := Lib.hid hno
          have HQ3 := Lib.hid hq
          have HQ4 := Lib.hid (pt HQ2.out hq)
          have y0 := (HK2.out.past hq).cellAt 0 rfl
          have y1 := (HK2.out.past hq).cellAt 1 rfl
          have y2 := (HK2.out.past hq).lt
          have z0 := (RF.out.past hq).cellAt 0 rfl
          have z1 := (RF.out.past hq).cellAt 1 rfl
          have z2 := (RF.out.past hq).lt
          clear hq hno
          by_cases hli : i < ts.length - 1
          · obtain ⟨b1, off, hA, hbB, hct⟩ := HR.out.at_ (k := i) (by omega)
            obtain ⟨_, _, _, A7, c7, t3w, t4w, _⟩ := hct i (by omega)
            have t3 := ((bcell HQ4.out).1 _ _ hbB).trans t3w
            have hbw : b1 < wr.heap.size := by have := HQ4.out.size; omega
            have HHas := Lib.hid fun W (hW : Below w.heap.size w W) => baseHas_any w.heap.size A7 c7 (ts.getD i default).after ((ts.length : Int) - 1) W (t4w.below hW) (by have := HP.out i (by omega); omega)
            have HM := Lib.hid (show hasB (ts.getD i default).after ((ts.length : Int) - 1) = true ↔ ((ts.length - 1 : Nat) : Int) ∈ (ts.getD i default).after by rw [hasB_iff, HKm.out])
            have i0 : (0 : Int) ≤ (i : Int) := by omega
            have i1 : (i : Int) < (ts.length : Int) := by omega
            have i2 : decide ((i : Int) < (ts.length : Int) - 1) = true := decide_eq_true (by omega)
            have i3 : (i : Int) < (ts.length : Int) - 1 := by omega
            subst hA
            clear hct t3w t4w
            generalize hasB (ts.getD i default).after ((ts.length : Int) - 1) = hb at *
            generalize (ts.getD i default).after.length = fl at *
            cases hb with
            | true =>
              go_wp2_with (go_at_call 33; go_must (refine (HHas.out _ HQ4.out).mono ?_); rintro e w' ⟨rfl, rfl⟩)
              go_ret
              exact ⟨rfl, HQ4.out⟩
            | false =>
              go_wp2_with (go_at_call 33; go_must (refine (HHas.out _ HQ4.out).mono ?_); rintro e w' ⟨rfl, rfl⟩)
              go_roundw
              case rel => exact ⟨i + 1, by go_num, by omega, fun q hq => by
                by_cases e : q = i
                · subst e; intro hm; have := HM.out.2 hm; cases this
                · exact HNo.out q (by omega), HQ3.out⟩
              case measure => simp [intOf]; omega
          · have hie : i = ts.length - 1 := by omega
            have HNo2 := Lib.hid (fun q (hq : q < ts.length - 1) => HNo.out q (by omega))
            have HFo2 := Lib.hid (HFo.out HNo2.out)
            have HFl2 := Lib.hid (HFl.out HNo2.out)
            have hfb := best_ok wr.heap.size (ts.take (ts.length - 1)) A1 c1 m wr (tasksIn_take ((HL2.out.below HQ3.out).more HQ3.out.size)) (Nat.le_refl _) (small_take HS.out) HFo2.out
            rw [List.length_take, Nat.min_eq_left (Nat.sub_le _ _)] at hfb
            unfold BestPost at hfb
            have HFb := Lib.hid hfb
            have i2 : decide ((i : Int) < (ts.length : Int) - 1) = false := decide_eq_false (by omega)
            have i3 : ¬ (i : Int) < (ts.length : Int) - 1 := by omega
            clear hfb hie
            generalize (bestV (ts.take (ts.length - 1))).last = L2 at *
            have hle : decide (L2 ≤ L) = true := decide_eq_true HFl2.out
            have hle2 : L2 ≤ L := HFl2.out
            go_wp2_with (go_at_call 18; go_must (refine HFb.out.mono ?_); rintro e w3 ⟨bv, rfl, _, hb⟩)
            go_ret
            exact ⟨rfl, pt HQ4.out hb⟩

end Go.Proofs.Ytlgioldmjohhlaa
