/- Contracts: the specification's EndOf, CheckSchedule and ScheduleErr, over the same values as the program's. Valid plans.
Contracts: the specification's CheckSchedule and ScheduleErr, over the same value as the program's. Valid plans.
Contracts: the specification's ScheduleErr; the program's CheckSchedule and EndOf: over openV, schedV, lastV. -/
import Derived.Test.YtbojmcopagbheaaGreatDoorRB
import Derived.Test.YtbojmcopagbheaaGreatDoorQ8
import Derived.Deep.QuietTactic
import Derived.BigQuiet
import Derived.Test.YtbojmcopagbheaaGreatDoorXBest

section
namespace Go.Proofs.YtbojmcopagbheaaGreatDoor
open Go.RowKit

theorem mx_max (a b : Int) : max a b = mx a b := by
  unfold mx
  split <;> omega

set_option maxHeartbeats 2000000 in
set_option maxRecDepth 100000 in
theorem refEndOf_any (B : Nat) (ts : List Task) (ss : List Int) (A A2 : Option Addr) (c c2 : Nat) (m : Int) (w : World) (hr : TasksIn B w A ts) (hr2 : IntsIn B w A2 ss) (hB : B ≤ w.heap.size) (hl : LenOk ts) (h7 : ts.length ≤ 7) (hso : StartsOk ts ss) :
    Calls Tryz.prog 18 #[.agg #[.int .i64 m, .slice A ts.length c], .slice A2 ss.length c2] w fun e w' => e = .returned (.int .i64 (lastV ts ss)) ∧ Below w.heap.size w w' := by
  have HR := Lib.hid hr
  have HR2 := Lib.hid hr2
  have HV := Lib.hid (show lastV ts ss = lastR ts ss ss.length 0 0 from rfl)
  obtain ⟨hsn, hsr⟩ := hso
  have HSN := Lib.hid hsn
  have HSR := Lib.hid hsr
  have HL := Lib.hid hl
  have h7s : ss.length ≤ 7 := by omega
  clear hr hr2 hsn hsr hl
  go_enter Tryz.func18, Tryz.ntmps18
  go_wp2
  go_loopw [5, 6] (fun ov ix wr => ∃ (o : Int) (i : Nat), ov = .int .i64 o ∧ ix = .int .i64 (i : Int) ∧ i ≤ ss.length ∧ lastR ts ss (ss.length - i) i o = lastV ts ss ∧ Blk wr w.heap.size 27 #[.int .i64 m, .slice A ts.length c] ∧ Below w.heap.size w wr) (fun _ ix _ => ss.length - (intOf ix).toNat)
  case atStart => exact ⟨0, 0, rfl, rfl, Nat.zero_le _, HV.out.symm, Blk.newAt rfl, pa pr⟩
  case round =>
    obtain ⟨o, i, rfl, rfl, hi, hrun, q0, hq⟩ := hrel
    have HRun := Lib.hid hrun
    have e1 : wr.cell? ⟨w.heap.size, 1, none⟩ = some (.slice A ts.length c) := q0.cellAt 1 rfl
    have x0 := q0.lt
    have Q0 := Lib.hid q0
    have HQ := Lib.hid hq
    clear hrun q0 hq
    by_cases hlt : i < ss.length
    · have hit : i < ts.length := by have := HSN.out; omega
      obtain ⟨b, off, hA, hbB, hct⟩ := HR.out.at_ hit
      subst hA
      obtain ⟨b2, off2, hA2, hbB2, hc2⟩ := HR2.out.at_ hlt
      subst hA2
      have t1 := ((bcell (HQ.out.mono hB)).1 _ _ hbB).trans (hct i hit).2.1
      have d1 := ((bcell (HQ.out.mono hB)).1 _ _ hbB2).trans (hc2 i hlt)
      have hbi := HSR.out i hlt
      have hli := HL.out i hit
      have hw : IntKind.i64.wrap (ss.getD i 0 + (ts.getD i default).length) = ss.getD i 0 + (ts.getD i default).length := IntWalk.i64_in _ (by omega)
      have HStep := Lib.hid (show lastR ts ss (ss.length - (i + 1)) (i + 1) (mx o (ss.getD i 0 + (ts.getD i default).length)) = lastV ts ss by
        rw [← HRun.out, show ss.length - i = ss.length - (i + 1) + 1 by omega]
        rfl)
      have hbw : b < wr.heap.size := by have := HQ.out.size; omega
      have hbw2 : b2 < wr.heap.size := by have := HQ.out.size; omega
      have i0 : (0 : Int) ≤ (i : Int) := by omega
      have i1 : (i : Int) < (ss.length : Int) := by omega
      have i2 : (i : Int) < (ts.length : Int) := by omega
      clear hct hc2 hbi hli
      generalize ss.getD i 0 = s at *
      generalize (ts.getD i default).length = len at *
      go_wp2
      refine region_below 12 follows_mixed (by kernel_rfl) ?_
      intro C hC
      simp only [List.take_succ_cons, List.take_zero, List.drop_succ_cons, List.drop_zero]
      repeat (first
        | ((with_reducible refine quiet_plain rfl (fun K hK => ?_)); (focus (apply quiet_val; (focus (intro w' hw; obtain ⟨hcq, hfq⟩ := bcell ((hC.out _).1 hw); go_simp; (first | done | rfl))); (simp only [Act.put, List.setIfInBounds_toArray, List.set_cons_succ, List.set_cons_zero]); (with_reducible refine hK _ ?_); clear hK K)))
        | ((with_reducible refine quiet_skip ?_ ?_); (focus (first | (simp [Region.wanted, yielded]; done) | (simp [Region.wanted, yielded, undef]; done))); simp only [Act.put, List.setIfInBounds_toArray, List.set_cons_succ, List.set_cons_zero])
        | ((with_reducible refine quiet_go ?_ (fun K hK => ?_)); (focus (first | (simp [Region.wanted, yielded]; done) | (simp [Region.wanted, yielded, undef]; done))); (focus (apply quiet_val; (focus (intro w' hw; obtain ⟨hcq, hfq⟩ := bcell ((hC.out _).1 hw); go_simp; (first | done | rfl))); (simp only [Act.put, List.setIfInBounds_toArray, List.set_cons_succ, List.set_cons_zero]); (with_reducible refine hK _ ?_); clear hK K))))
      refine wpQuiet_nil ?_
      intro w1 hb1
      replace hb1 := (hC.out _).1 hb1
      clear hC C
      obtain ⟨hc1, hf1⟩ := bcell hb1
      clear hc1 hf1
      go_wp2
      go_roundw
      case rel => exact ⟨mx o (s + len), i + 1, by rw [mx_max], by go_num, by omega, HStep.out, Q0.out.past hb1, pt HQ.out hb1⟩
      case measure => simp [intOf]; omega
    · have HRes := Lib.hid (show lastV ts ss = o by rw [← HRun.out, show ss.length - i = 0 by omega]; rfl)
      clear HRun HV
      go_wp2
      go_ret
      exact ⟨ret_int HRes.out.symm, HQ.out⟩

end Go.Proofs.YtbojmcopagbheaaGreatDoor
end

section
namespace Go.Proofs.YtbojmcopagbheaaGreatDoor
open Go.RowKit


theorem anyE_step (ts : List Task) (ss : List Int) (i : Nat) (k : Nat) (h : k < (afterOf ts i).length) : anyB (earlyB ts ss i) ((afterOf ts i).drop k) = if earlyB ts ss i ((afterOf ts i).getD k 0) = true then true else anyB (earlyB ts ss i) ((afterOf ts i).drop (k + 1)) := anyB_step _ _ _ h
theorem busy_found {ts : List Task} {ss : List Int} {i k : Nat} (hk : k < i) (h : busyB ts ss i k = true) : anyBusy ts ss i i = true := by
  unfold anyBusy
  rw [List.any_eq_true]
  exact ⟨k, List.mem_range.2 hk, h⟩

set_option maxHeartbeats 4000000 in
set_option maxRecDepth 100000 in
theorem refSched_any (B : Nat) (ts : List Task) (ss : List Int) (A A2 : Option Addr) (c c2 : Nat) (m : Int) (w : World) (hr : TasksIn B w A ts) (hr2 : IntsIn B w A2 ss) (hB : B ≤ w.heap.size) (hl : LenOk ts) (hp : PlanOk ts) :
    Calls Tryz.prog 60 #[.agg #[.int .i64 m, .slice A ts.length c], .slice A2 ss.length c2] w fun e w' => e = .returned (.tuple #[.int .i64 ((schedV ts ss).1 : Int), .int .i64 (schedV ts ss).2]) ∧ Below w.heap.size w w' := by
  have h7 := hp.1
  have HR := Lib.hid hr
  have HR2 := Lib.hid hr2
  have HV := Lib.hid (show schedV ts ss = if ss.length ≠ ts.length then (0, 10) else if (scan (rngE ss) ss.length 0).2 ≠ 0 then scan (rngE ss) ss.length 0 else scan (startE ts ss) ss.length 0 from rfl)
  generalize schedV ts ss = V at *
  have HP := Lib.hid hp
  have HL := Lib.hid hl
  have R0 := Lib.hid (show Blk (w.alloc (.cells #[.int .i64 m, .slice A ts.length c] 27)) w.heap.size 27 #[.int .i64 m, .slice A ts.length c] from Blk.newAt rfl)
  clear hr hr2 hp hl
  by_cases hn : ss.length = ts.length
  · have HV2 := Lib.hid (show V = if (scan (rngE ss) ss.length 0).2 ≠ 0 then scan (rngE ss) ss.length 0 else scan (startE ts ss) ss.length 0 by rw [HV.out, if_neg (by simpa using hn)])
    have HN := Lib.hid hn
    have hne : ((ss.length : Int) != (ts.length : Int)) = false := by simp [hn]
    have h7s : ss.length ≤ 7 := by omega
    clear HV hn
    go_enter Tryz.func60, Tryz.ntmps60
    go_wp2
    clear hne
    go_loopw [6] (fun iv wr => ∃ i : Nat, iv = .int .i64 (i : Int) ∧ i ≤ ss.length ∧ scan (rngE ss) ss.length 0 = scan (rngE ss) ss.length i ∧ Blk wr w.heap.size 27 #[.int .i64 m, .slice A ts.length c] ∧ Below w.heap.size w wr) (fun iv _ => ss.length - (intOf iv).toNat)
    case atStart => exact ⟨0, rfl, Nat.zero_le _, rfl, R0.out, pa pr⟩
    case round =>
      obtain ⟨i, rfl, hi, hf, k0, hq⟩ := hrel
      have K0 := Lib.hid k0
      have HQ := Lib.hid hq
      clear k0 hq
      by_cases hlt : i < ss.length
      · obtain ⟨b2, off2, hA2, hbB2, hc2⟩ := HR2.out.at_ hlt
        subst hA2
        have d1 := ((bcell (HQ.out.mono hB)).1 _ _ hbB2).trans (hc2 i hlt)
        have hbw2 : b2 < wr.heap.size := by have := HQ.out.size; omega
        have i0 : (0 : Int) ≤ (i : Int) := by omega
        have i1 : (i : Int) < (ss.length : Int) := by omega
        have HF := Lib.hid (hf.trans (scan_step hlt))
        have HE := Lib.hid (show rngE ss i = unlessV (withinB (ss.getD i 0) 0 700000) 2 from rfl)
        clear hc2 hf
        generalize ss.getD i 0 = x at *
        cases hwx : withinB x 0 700000 with
        | false =>
          have HV5 := Lib.hid (show V = (i, 2) by
            have h1 : rngE ss i = 2 := by rw [HE.out, hwx]; rfl
            have h2 : scan (rngE ss) ss.length 0 = (i, 2) := by rw [HF.out, h1]; rfl
            rw [HV2.out, h2]; rfl)
          go_wp2_with (go_at_call 8; go_must (refine (baseWithin_any _ _ _ _).mono ?_); rintro e w' ⟨rfl, rfl⟩)
          go_ret2
          exact ⟨ret_ii (by rw [HV5.out]) (by rw [HV5.out]), HQ.out⟩
        | true =>
          have HG := Lib.hid (show scan (rngE ss) ss.length 0 = scan (rngE ss) ss.length (i + 1) by
            have h1 : rngE ss i = 0 := by rw [HE.out, hwx]; rfl
            rw [HF.out, if_pos h1])
          go_wp2_with (go_at_call 8; go_must (refine (baseWithin_any _ _ _ _).mono ?_); rintro e w' ⟨rfl, rfl⟩)
          go_roundw
          case rel => exact ⟨i + 1, by go_num, by omega, HG.out, K0.out, HQ.out⟩
          case measure => simp [intOf]; omega
      · have h00 : scan (rngE ss) ss.length 0 = (0, 0) := by rw [hf]; exact scan_end (by omega)
        have HRg := Lib.hid (rng_ok (ss := ss) (by rw [h00]))
        have HV3 := Lib.hid (show V = scan (startE ts ss) ss.length 0 by rw [HV2.out, h00]; rfl)
        clear hf h00
        go_wp2
        clear hi hlt
        obtain ⟨wo, rfl⟩ : ∃ wo : World, wo = wr := ⟨_, rfl⟩
        go_loopw [7] (fun iv wr => ∃ i : Nat, iv = .int .i64 (i : Int) ∧ i ≤ ss.length ∧ V = scan (startE ts ss) ss.length i ∧ Below wo.heap.size wo wr) (fun iv _ => ss.length - (intOf iv).toNat)
        case atStart => exact ⟨0, rfl, Nat.zero_le _, HV3.out, pr⟩
        case round =>
          obtain ⟨i, rfl, hi, hf, hqi⟩ := hrel
          have HQI := Lib.hid hqi
          clear hqi
          by_cases hlt : i < ss.length
          · have hit : i < ts.length := by have := HN.out; omega
            obtain ⟨b, off, hA, hbB, hct⟩ := HR.out.at_ hit
            subst hA
            obtain ⟨b2, off2, hA2, hbB2, hc2⟩ := HR2.out.at_ hlt
            subst hA2
            have HCt := Lib.hid hct
            have HC2 := Lib.hid hc2
            obtain ⟨t0w, t1w, t2w, A3, c3, t3w, tr, _⟩ := hct i hit
            have HTr := Lib.hid (show IntsIn B w A3 (afterOf ts i) from tr)
            have HF := Lib.hid (hf.trans (scan_step hlt))
            have HE := Lib.hid (show startE ts ss i = firstV [unlessV (decide ((ts.getD i default).release ≤ ss.getD i 0)) 22, unlessV (!anyB (earlyB ts ss i) (afterOf ts i)) 9, unlessV (!anyBusy ts ss i i) 17] from rfl)
            have hsi := hc2 i hlt
            have HSi := Lib.hid (HRg.out i hlt)
            have HLi := Lib.hid (HL.out i hit)
            have HEi := Lib.hid (show endAt ts ss i = ss.getD i 0 + (ts.getD i default).length from rfl)
            have i0 : (0 : Int) ≤ (i : Int) := by omega
            have i1 : (i : Int) < (ss.length : Int) := by omega
            have i2 : (i : Int) < (ts.length : Int) := by omega
            have HT1w := Lib.hid (show w.cell? ⟨b, off + i * 4 + 3, none⟩ = some (.slice A3 (afterOf ts i).length c3) from t3w)
            have hla : (afterOf ts i).length ≤ 7 := (HP.out.2 i hit).1
            clear hct hc2 tr t3w hf
            generalize hrl : (ts.getD i default).release = rel at *
            generalize hmi : (ts.getD i default).machine = mi at *
            generalize hln : (ts.getD i default).length = li at *
            generalize hss : ss.getD i 0 = si at *
            have hHid := Lib.hid (And.intro hrl (And.intro hmi (And.intro hln hss)))
            clear hrl hmi hln hss
            have hq := pt HQ.out HQI.out
            have x0 : wr.cell? ⟨b, off + i * 4, none⟩ = some (.int .i64 mi) := ((bcell (hq.mono hB)).1 _ _ hbB).trans t0w
            have x1 : wr.cell? ⟨b, off + i * 4 + 1, none⟩ = some (.int .i64 li) := ((bcell (hq.mono hB)).1 _ _ hbB).trans t1w
            have x2 : wr.cell? ⟨b, off + i * 4 + 2, none⟩ = some (.int .i64 rel) := ((bcell (hq.mono hB)).1 _ _ hbB).trans t2w
            have x3 : wr.cell? ⟨b, off + i * 4 + 3, none⟩ = some (.slice A3 (afterOf ts i).length c3) := ((bcell (hq.mono hB)).1 _ _ hbB).trans HT1w.out
            have e1 : wr.cell? ⟨w.heap.size, 1, none⟩ = some (.slice (some ⟨b, off, none⟩) ts.length c) := (K0.out.past HQI.out).cellAt 1 rfl
            have hbw : b < wr.heap.size := by have := hq.size; omega
            have HQW := Lib.hid hq
            have HHS := Lib.hid hsi
            clear hq t0w t1w t2w hsi
            go_wp2
            obtain ⟨wi, rfl⟩ : ∃ wi : World, wi = wr := ⟨_, rfl⟩
            obtain ⟨wa, hwa⟩ : ∃ wa : World, wa = wi.alloc (.cells #[.int .i64 mi, .int .i64 li, .int .i64 rel, .slice A3 (afterOf ts i).length c3] 41) := ⟨_, rfl⟩
            have RT := Lib.hid (show Blk wa wi.heap.size 41 #[.int .i64 mi, .int .i64 li, .int .i64 rel, .slice A3 (afterOf ts i).length c3] by rw [hwa]; exact Blk.newAt rfl)
            have HWA := Lib.hid (show Below wi.heap.size wi wa by rw [hwa]; exact pa pr)
            rw [← hwa]
            clear hwa x0 x1 x2 x3 e1 hbw
            have HFa := Lib.hid (show ∀ W, Below wa.heap.size wa W → W.cell? ⟨wi.heap.size, 0, none⟩ = some (.int .i64 mi) ∧ W.cell? ⟨wi.heap.size, 1, none⟩ = some (.int .i64 li) ∧ W.cell? ⟨wi.heap.size, 2, none⟩ = some (.int .i64 rel) ∧ W.cell? ⟨wi.heap.size, 3, none⟩ = some (.slice A3 (afterOf ts i).length c3) ∧ W.cell? ⟨w.heap.size, 1, none⟩ = some (.slice (some ⟨b, off, none⟩) ts.length c) ∧ W.cell? ⟨b2, off2 + i, none⟩ = some (.int .i64 si) ∧ wi.heap.size < W.heap.size ∧ w.heap.size < W.heap.size ∧ b < W.heap.size ∧ b2 < W.heap.size ∧ Below w.heap.size w W ∧ Below wo.heap.size wo W from fun W hW => by
              have q0 := RT.out.past hW
              have h1 : Below wo.heap.size wo W := pt (pt HQI.out HWA.out) hW
              have h2 : Below w.heap.size w W := pt HQ.out h1
              have q1 := K0.out.past h1
              have hsz := h2.size
              exact ⟨q0.cellAt 0 rfl, q0.cellAt 1 rfl, q0.cellAt 2 rfl, q0.cellAt 3 rfl, q1.cellAt 1 rfl, ((bcell (h2.mono hB)).1 _ _ hbB2).trans HHS.out, q0.lt, q1.lt, by omega, by omega, h2, h1⟩)
            obtain ⟨f0, f1, f2, f3, e1, s1, z0, z1, z2, z3, hbW, hbO⟩ := HFa.out wa pr
            by_cases hrs : si < rel
            · have HV5 := Lib.hid (show V = (i, 22) by
                have h1 : startE ts ss i = 22 := by rw [HE.out, decide_eq_false (by omega)]; rfl
                rw [HF.out, h1]; rfl)
              go_quiet (fail)
              go_wp2
              go_ret2
              exact ⟨ret_ii (by rw [HV5.out]) (by rw [HV5.out]), below_drewN' hbW nq⟩
            · have HR1 := Lib.hid (show decide (rel ≤ si) = true from decide_eq_true (by omega))
              go_quiet (fail)
              have HQ1 := Lib.hid (show Below wa.heap.size wa (wa.drewN nq) from below_drewN' pr nq); clear f0 f1 f2 f3 e1 s1 z0 z1 z2 z3 hbW hbO; generalize wa.drewN nq = wr at *; obtain ⟨f0, f1, f2, f3, e1, s1, z0, z1, z2, z3, hbW, hbO⟩ := HFa.out _ HQ1.out
              go_wp2
              go_loopw [9] (fun iv wr => ∃ j : Nat, iv = .int .i64 (j : Int) ∧ j ≤ (afterOf ts i).length ∧ anyB (earlyB ts ss i) (afterOf ts i) = anyB (earlyB ts ss i) ((afterOf ts i).drop j) ∧ Below wa.heap.size wa wr) (fun iv _ => (afterOf ts i).length - (intOf iv).toNat)
              case atStart => exact ⟨0, rfl, Nat.zero_le _, rfl, HQ1.out⟩
              case round =>
                obtain ⟨j, rfl, hj, hg, hqj⟩ := hrel
                have HQJ := Lib.hid hqj
                clear hqj f0 f1 f2 f3 e1 s1 z0 z1 z2 z3 hbW hbO
                obtain ⟨f0, f1, f2, f3, e1, s1, z0, z1, z2, z3, hbW, hbO⟩ := HFa.out _ HQJ.out
                have HBW := Lib.hid hbW
                clear hbW hbO
                by_cases hlj : j < (afterOf ts i).length
                · obtain ⟨b3, off3, hA3, hbB3, hc3⟩ := HTr.out.at_ hlj
                  subst hA3
                  have g3 : wr.cell? ⟨b3, off3 + j, none⟩ = some (.int .i64 ((afterOf ts i).getD j 0)) := ((bcell (HBW.out.mono hB)).1 _ _ hbB3).trans (hc3 j hlj)
                  have z4 : b3 < wr.heap.size := by have := HBW.out.size; omega
                  have HIn := Lib.hid (after_in HP.out hit ((afterOf ts i).getD j 0) (getD_mem hlj))
                  have HG := Lib.hid (hg.trans (anyE_step ts ss i j hlj))
                  have HEB := Lib.hid (show ∀ n : Int, earlyB ts ss i n = decide (ss.getD i 0 < endAt ts ss n.toNat) from fun _ => rfl)
                  clear hc3 hg
                  obtain ⟨n, hn⟩ : ∃ n : Nat, (afterOf ts i).getD j 0 = (n : Int) := ⟨((afterOf ts i).getD j 0).toNat, by have := HIn.out; omega⟩
                  have HNn := Lib.hid hn
                  rw [hn] at g3
                  have hnt : n < ts.length := by have := HIn.out; omega
                  have hns : n < ss.length := by have := HN.out; omega
                  have n0 : (0 : Int) ≤ (n : Int) := by omega
                  have n1 : (n : Int) < (ts.length : Int) := by omega
                  have n2 : (n : Int) < (ss.length : Int) := by omega
                  obtain ⟨_, t1n, _, _, _, _, _, _⟩ := HCt.out n hnt
                  have g4 := ((bcell (HBW.out.mono hB)).1 _ _ hbB2).trans (HC2.out n hns)
                  have g5 := ((bcell (HBW.out.mono hB)).1 _ _ hbB).trans t1n
                  have HEn := Lib.hid (show endAt ts ss n = ss.getD n 0 + (ts.getD n default).length from rfl)
                  have hw := IntWalk.i64_in (ss.getD n 0 + (ts.getD n default).length) (by have := HRg.out n hns; have := HL.out n hnt; omega)
                  have j0 : (0 : Int) ≤ (j : Int) := by omega
                  have j1 : (j : Int) < ((afterOf ts i).length : Int) := by omega
                  clear t1n hn
                  generalize hsn : ss.getD n 0 = sn at *
                  generalize hln : (ts.getD n default).length = ln at *
                  have hHid2 := Lib.hid (And.intro hsn hln)
                  clear hsn hln
                  by_cases hea : si < sn + ln
                  · have HEA := Lib.hid (show anyB (earlyB ts ss i) (afterOf ts i) = true by
                      have h1 : earlyB ts ss i ((afterOf ts i).getD j 0) = true := by rw [HNn.out, HEB.out, hHid.out.2.2.2]; exact decide_eq_true (by rw [show ((n : Int)).toNat = n from by omega, HEn.out]; exact hea)
                      rw [HG.out, if_pos h1])
                    have HV5 := Lib.hid (show V = (i, 9) by
                      have h1 : startE ts ss i = 9 := by rw [HE.out, HR1.out, HEA.out]; rfl
                      rw [HF.out, h1]; rfl)
                    go_wp2
                    go_quiet (fail)
                    go_wp2
                    go_ret2
                    exact ⟨ret_ii (by rw [HV5.out]) (by rw [HV5.out]), below_drewN' HBW.out nq⟩
                  · have HEA := Lib.hid (show anyB (earlyB ts ss i) (afterOf ts i) = anyB (earlyB ts ss i) ((afterOf ts i).drop (j + 1)) by
                      have h1 : ¬ earlyB ts ss i ((afterOf ts i).getD j 0) = true := by rw [HNn.out, HEB.out, hHid.out.2.2.2, decide_eq_true_eq, show ((n : Int)).toNat = n from by omega, HEn.out]; exact hea
                      rw [HG.out, if_neg h1])
                    go_wp2
                    go_quiet (fail)
                    go_wp2
                    go_roundw
                    case rel => exact ⟨j + 1, by go_num, by omega, HEA.out, below_drewN' HQJ.out nq⟩
                    case measure => simp [intOf]; omega
                · have HR2 := Lib.hid (show anyB (earlyB ts ss i) (afterOf ts i) = false by rw [hg, List.drop_eq_nil_of_le (by omega)]; rfl)
                  clear hg
                  go_wp2
                  clear hj hlj
                  obtain ⟨wb, rfl⟩ : ∃ wb : World, wb = wr := ⟨_, rfl⟩
                  go_loopw [10] (fun kv wr => ∃ k : Nat, kv = .int .i64 (k : Int) ∧ k ≤ i ∧ anyBusy ts ss i k = false ∧ Below wa.heap.size wa wr) (fun kv _ => i - (intOf kv).toNat)
                  case atStart => exact ⟨0, rfl, Nat.zero_le _, rfl, HQJ.out⟩
                  case round =>
                    obtain ⟨k, rfl, hk, hby, hqk⟩ := hrel
                    have HQK := Lib.hid hqk
                    clear hqk f0 f1 f2 f3 e1 s1 z0 z1 z2 z3
                    obtain ⟨f0, f1, f2, f3, e1, s1, z0, z1, z2, z3, hbW, hbO⟩ := HFa.out _ HQK.out
                    have HBW2 := Lib.hid hbW
                    have HBO2 := Lib.hid hbO
                    clear hbW hbO
                    by_cases hlk : k < i
                    · have hkt : k < ts.length := by omega
                      have hks : k < ss.length := by omega
                      obtain ⟨m0k, m1k, _, _, _, _, _, _⟩ := HCt.out k hkt
                      have g4 := ((bcell (HBW2.out.mono hB)).1 _ _ hbB2).trans (HC2.out k hks)
                      have g5 := ((bcell (HBW2.out.mono hB)).1 _ _ hbB).trans m0k
                      have g6 := ((bcell (HBW2.out.mono hB)).1 _ _ hbB).trans m1k
                      have HSt := Lib.hid (anyBusy_succ ts ss i k)
                      have HFd := Lib.hid (fun h => busy_found (ts := ts) (ss := ss) hlk h)
                      have HBy := Lib.hid (show busyB ts ss i k = (decide ((ts.getD k default).machine = (ts.getD i default).machine) && (decide (ss.getD k 0 < endAt ts ss i) && decide (ss.getD i 0 < endAt ts ss k))) from rfl)
                      have HEk := Lib.hid (show endAt ts ss k = ss.getD k 0 + (ts.getD k default).length from rfl)
                      have hwk := IntWalk.i64_in (ss.getD k 0 + (ts.getD k default).length) (by have := HRg.out k hks; have := HL.out k hkt; omega)
                      have hwi := IntWalk.i64_in (si + li) (by have := HSi.out; have := HLi.out; omega)
                      have k0' : (0 : Int) ≤ (k : Int) := by omega
                      have k1 : (k : Int) < (ts.length : Int) := by omega
                      have k2 : (k : Int) < (ss.length : Int) := by omega
                      clear m0k m1k
                      rw [HEk.out, HEi.out, hHid.out.2.1, hHid.out.2.2.2] at HBy
                      generalize ss.getD k 0 = sk at *
                      generalize (ts.getD k default).length = lk at *
                      generalize (ts.getD k default).machine = mk at *
                      have HBV := Lib.hid (show V = (i, 17) ∨ busyB ts ss i k = false by
                        cases hb : busyB ts ss i k with
                        | false => exact .inr rfl
                        | true => exact .inl (by
                            have h1 : startE ts ss i = 17 := by rw [HE.out, HR1.out, HR2.out, HFd.out hb]; rfl
                            rw [HF.out, h1]; rfl))
                      clear HFd
                      have HNo := Lib.hid (show busyB ts ss i k = false → anyBusy ts ss i (k + 1) = false from fun h => by rw [HSt.out, hby, h]; rfl)
                      clear HSt hby
                      by_cases hmm : mk = mi
                      · subst hmm
                        by_cases h1 : si < sk + lk
                        · by_cases h2 : sk < si + li
                          · have HV5 := Lib.hid (show V = (i, 17) by
                              rcases HBV.out with h | h
                              · exact h
                              · rw [HBy.out, decide_eq_true h1, decide_eq_true h2] at h; simp at h)
                            clear HBV
                            go_wp2
                            go_quiet (fail)
                            go_wp2
                            go_ret2
                            exact ⟨ret_ii (by rw [HV5.out]) (by rw [HV5.out]), below_drewN' HBW2.out nq⟩
                          · have HS := Lib.hid (HNo.out (by rw [HBy.out, decide_eq_false h2]; simp))
                            clear HBV HBy HNo
                            go_wp2
                            go_quiet (fail)
                            go_wp2
                            go_roundw
                            case rel => exact ⟨k + 1, by go_num, by omega, HS.out, below_drewN' HQK.out nq⟩
                            case measure => simp [intOf]; omega
                        · have HS := Lib.hid (HNo.out (by rw [HBy.out, decide_eq_false h1]; simp))
                          have hd1 : decide (si < sk + lk) = false := decide_eq_false h1
                          clear HBV HBy HNo
                          go_wp2
                          go_quiet (fail)
                          go_wp2
                          go_roundw
                          case rel => exact ⟨k + 1, by go_num, by omega, HS.out, below_drewN' HQK.out nq⟩
                          case measure => simp [intOf]; omega
                      · have HS := Lib.hid (HNo.out (by rw [HBy.out, decide_eq_false hmm]; simp))
                        have hmb : (mk == mi) = false := by simpa using hmm
                        clear HBV HBy HNo
                        go_wp2
                        go_quiet (fail)
                        go_wp2
                        go_roundw
                        case rel => exact ⟨k + 1, by go_num, by omega, HS.out, below_drewN' HQK.out nq⟩
                        case measure => simp [intOf]; omega
                    · obtain rfl : k = i := by omega
                      have HS := Lib.hid (show V = scan (startE ts ss) ss.length (k + 1) by
                        have h1 : startE ts ss k = 0 := by rw [HE.out, HR1.out, HR2.out, hby]; rfl
                        rw [HF.out, if_pos h1])
                      clear hby
                      go_wp2
                      go_roundw
                      case rel => exact ⟨k + 1, by go_num, by omega, HS.out, HBO2.out⟩
                      case measure => simp [intOf]; omega
          · have HV5 := Lib.hid (show V = (0, 0) by rw [hf]; exact scan_end (by omega))
            have e1 : wr.cell? ⟨w.heap.size, 1, none⟩ = some (.slice A ts.length c) := (K0.out.past HQI.out).cellAt 1 rfl
            clear hf
            go_wp2
            go_ret2
            exact ⟨ret_ii (by rw [HV5.out]; rfl) (by rw [HV5.out]), pt HQ.out HQI.out⟩
  · have HV5 := Lib.hid (show V = (0, 10) by rw [HV.out, if_pos hn])
    have hne : ((ss.length : Int) != (ts.length : Int)) = true := by rw [bne_iff_ne]; omega
    clear HV hn
    go_enter Tryz.func60, Tryz.ntmps60
    go_wp2
    go_ret2
    exact ⟨ret_ii (by rw [HV5.out]; rfl) (by rw [HV5.out]), pa pr⟩

end Go.Proofs.YtbojmcopagbheaaGreatDoor
end

section
namespace Go.Proofs.YtbojmcopagbheaaGreatDoor
open Go.RowKit

/-- What CheckSchedule says of a plan and starts. -/
def planSchedV (m : Int) (ts : List Task) (ss : List Int) : Nat × Int := if (openV m ts).2 = 0 then schedV ts ss else (0, (openV m ts).2)

theorem starts_ok {ts : List Task} {ss : List Int} (h : (schedV ts ss).2 = 0) : StartsOk ts ss := by
  unfold schedV at h
  by_cases hn : ss.length = ts.length
  · rw [if_neg (by simpa using hn)] at h
    by_cases h2 : (scan (rngE ss) ss.length 0).2 = 0
    · exact ⟨hn, rng_ok h2⟩
    · rw [if_pos h2] at h
      exact absurd h h2
  · rw [if_pos hn] at h
    exact absurd h (by decide)

theorem refScheduleErr_any (B : Nat) (ts : List Task) (ss : List Int) (A A2 : Option Addr) (c c2 : Nat) (m : Int) (w : World) (hr : TasksIn B w A ts) (hr2 : IntsIn B w A2 ss) (hB : B ≤ w.heap.size) (hl : LenOk ts) (hp : PlanOk ts) :
    Calls Tryz.prog 17 #[.agg #[.int .i64 m, .slice A ts.length c], .slice A2 ss.length c2] w fun e w' => e = .returned (.int .i64 (schedV ts ss).2) ∧ Below w.heap.size w w' := by
  have HC := Lib.hid (refSched_any B ts ss A A2 c c2 m (w.alloc (.cells #[.int .i64 m, .slice A ts.length c] 27)) (hr.below ((pa pr).mono hB)) (hr2.below ((pa pr).mono hB)) (Nat.le_trans hB (by simp)) hl hp)
  clear hr hr2 hl hp
  generalize (schedV ts ss).1 = I at *
  generalize (schedV ts ss).2 = E at *
  go_enter Tryz.func17, Tryz.ntmps17
  go_wp2_with (go_at_call 60; go_must (refine HC.out.mono ?_); rintro e w1 ⟨rfl, hb1⟩)
  go_ret
  exact ⟨rfl, pt (pa pr) hb1⟩

/-- What EndOf says of a plan and starts. -/
def planEndV (m : Int) (ts : List Task) (ss : List Int) : Int := if (planSchedV m ts ss).2 = 0 then lastV ts ss else 0

end Go.Proofs.YtbojmcopagbheaaGreatDoor
end
