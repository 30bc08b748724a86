/- Contracts: the specification's CheckPlan and PlanErr, and the program's CheckPlan, over the same value. -/
import Derived.Test.YtlgioldmjohhlaaP5DependsOn
import Derived.Test.YtlgioldmjohhlaaP3Few
namespace Go.Proofs.Ytlgioldmjohhlaa
open Go.RowKit

theorem anyB_step (p : Int → Bool) (xs : List Int) (k : Nat) (h : k < xs.length) : anyB p (xs.drop k) = if p (xs.getD k 0) = true then true else anyB p (xs.drop (k + 1)) := by
  have e : xs.getD k 0 = xs[k] := by simp [List.getD, h]
  rw [List.drop_eq_getElem_cons h, e]
  unfold anyB
  rw [List.any_cons]
  cases p xs[k] <;> simp



set_option maxHeartbeats 4000000 in
set_option maxRecDepth 100000 in
theorem refCheckPlan_any (B : Nat) (ts : List Task) (A : Option Addr) (c : Nat) (m : Int) (w : World) (hr : TasksIn B w A ts) (hB : B ≤ w.heap.size) (hs : SmallPlan ts) :
    Calls Try.prog 64 #[.agg #[.int .i64 m, .slice A ts.length c]] w fun e w' => e = .returned (.tuple #[.int .i64 ((openV m ts).1 : Int), .int .i64 (openV m ts).2]) ∧ Below w.heap.size w w' := by
  have HR := Lib.hid hr
  have HS := Lib.hid hs
  have hs1 := hs.1
  have HV := Lib.hid (show openV m ts = if openE0 m ts.length ≠ 0 then (0, openE0 m ts.length) else if (scan (openE1 m ts) ts.length 0).2 ≠ 0 then scan (openE1 m ts) ts.length 0 else scan (openE2 ts) ts.length 0 from rfl)
  have HPL := Lib.hid (@planOk_of m ts)
  have HE0 := Lib.hid (show openE0 m ts.length = firstV [unlessV (withinB m 1 4) 2, unlessV (decide ((ts.length : Int) ≤ 7)) 8] from rfl)
  generalize openV m ts = V at *
  clear hr hs
  cases hm : withinB m 1 4 with
  | false =>
    have HV5 := Lib.hid (show V = (0, 2) by
      have h0 : openE0 m ts.length = 2 := by rw [HE0.out, hm]; rfl
      rw [HV.out, h0]; rfl)
    clear HV HPL HE0
    go_enter Try.func64, Try.ntmps64
    go_wp2_with (go_at_call 32; go_must (refine (baseWithin_any _ _ _ _).mono ?_); rintro e w' ⟨rfl, rfl⟩)
    go_ret2
    exact ⟨ret_ii (by rw [HV5.out]; rfl) (by rw [HV5.out]), pa pr⟩
  | true =>
    by_cases h7 : (7 : Int) < (ts.length : Int)
    · have HV5 := Lib.hid (show V = (0, 8) by
        have h0 : openE0 m ts.length = 8 := by rw [HE0.out, hm, decide_eq_false (show ¬ (ts.length : Int) ≤ 7 by omega)]; rfl
        rw [HV.out, h0]; rfl)
      have h7n : 7 < ts.length := by omega
      clear HV HPL HE0
      go_enter Try.func64, Try.ntmps64
      go_wp2_with (go_at_call 32; go_must (refine (baseWithin_any _ _ _ _).mono ?_); rintro e w' ⟨rfl, rfl⟩)
      go_ret2
      exact ⟨ret_ii (by rw [HV5.out]; rfl) (by rw [HV5.out]), pa pr⟩
    · have h0 : openE0 m ts.length = 0 := by rw [HE0.out, hm, decide_eq_true (show (ts.length : Int) ≤ 7 by omega)]; rfl
      have HV2 := Lib.hid (show V = if (scan (openE1 m ts) ts.length 0).2 ≠ 0 then scan (openE1 m ts) ts.length 0 else scan (openE2 ts) ts.length 0 by rw [HV.out, h0]; rfl)
      have HPL2 := Lib.hid (HPL.out h0)
      have hl7 : ts.length ≤ 7 := by omega
      have h7d : decide ((7 : Int) < (ts.length : Int)) = false := decide_eq_false h7
      have h7n : ¬ 7 < ts.length := by omega
      clear HV HPL HE0 h0
      go_enter Try.func64, Try.ntmps64
      go_wp2_with (go_at_call 32; go_must (refine (baseWithin_any _ _ _ _).mono ?_); rintro e w' ⟨rfl, rfl⟩)
      clear h7d h7n h7 hm
      have r0 : Blk (w.alloc (.cells #[.int .i64 m, .slice A ts.length c] 24)) w.heap.size 24 #[.int .i64 m, .slice A ts.length c] := Blk.newAt rfl
      have HR0 := Lib.hid r0
      clear r0
      go_loopw [4] (fun iv wr => ∃ i : Nat, iv = .int .i64 (i : Int) ∧ i ≤ ts.length ∧ scan (openE1 m ts) ts.length 0 = scan (openE1 m ts) ts.length i ∧ Blk wr w.heap.size 24 #[.int .i64 m, .slice A ts.length c] ∧ Below w.heap.size w wr) (fun iv _ => ts.length - (intOf iv).toNat)
      case atStart => exact ⟨0, rfl, Nat.zero_le _, rfl, HR0.out, pa pr⟩
      case round =>
        clear HR0
        obtain ⟨i, rfl, hi, hf, k0, hq⟩ := hrel
        have e0 : wr.cell? ⟨w.heap.size, 0, none⟩ = some (.int .i64 m) := k0.cellAt 0 rfl
        have e1 : wr.cell? ⟨w.heap.size, 1, none⟩ = some (.slice A ts.length c) := k0.cellAt 1 rfl
        have x0 := k0.lt
        have HQ := Lib.hid hq
        have K0 := Lib.hid k0
        clear hq k0
        by_cases hlt : i < ts.length
        · obtain ⟨b, off, hA, hbB, hct⟩ := HR.out.at_ hlt
          subst hA
          obtain ⟨t0w, t1w, t2w, A3, c3, t3w, tr, tc⟩ := hct i hlt
          have t0 := ((bcell (HQ.out.mono hB)).1 _ _ hbB).trans t0w
          have t1 := ((bcell (HQ.out.mono hB)).1 _ _ hbB).trans t1w
          have t2 := ((bcell (HQ.out.mono hB)).1 _ _ hbB).trans t2w
          have t3 := ((bcell (HQ.out.mono hB)).1 _ _ hbB).trans t3w
          have n0 : (0 : Int) ≤ (i : Int) := by omega
          have n1 : (i : Int) < (ts.length : Int) := by omega
          have hbw : b < wr.heap.size := by have := HQ.out.size; omega
          have hsm := HS.out.2 i hlt
          have HF := Lib.hid (hf.trans (scan_step hlt))
          have HE := Lib.hid (show openE1 m ts i = firstV [taskE (ts.getD i default), unlessV (decide ((ts.getD i default).machine < m) && !anyB (geB ts.length) (ts.getD i default).after) 6] from rfl)
          have HTe := Lib.hid fun W (hW : Below w.heap.size w W) => refTaskErr_any B (ts.getD i default) A3 _ c3 W rfl (tr.below (hW.mono hB)) (Nat.le_trans hB hW.size) hsm
          have HTr := Lib.hid tr
          clear hct t0w t1w t2w t3w hf tr tc
          generalize ts.getD i default = x at *
          by_cases hz : taskE x = 0
          · have HTz := Lib.hid (show ∀ W, Below w.heap.size w W → Calls Try.prog 117 #[.agg #[.int .i64 x.machine, .int .i64 x.length, .int .i64 x.release, .slice A3 x.after.length c3]] W fun e w' => e = .returned (.int .i64 0) ∧ Below W.heap.size W w' from fun W hW => by
              have q := HTe.out W hW
              rw [hz] at q
              exact q)
            have HE2 := Lib.hid (show openE1 m ts i = unlessV (decide (x.machine < m) && !anyB (geB ts.length) x.after) 6 by
              rw [HE.out, hz]
              show firstV [unlessV (decide (x.machine < m) && !anyB (geB ts.length) x.after) 6] = _
              simp only [firstV]
              split <;> simp_all)
            clear hz HE HTe
            by_cases hmm : m ≤ x.machine
            · have HV5 := Lib.hid (show V = (i, 6) by
                have h1 : openE1 m ts i = 6 := by rw [HE2.out, decide_eq_false (show ¬ x.machine < m by omega)]; rfl
                have h2 : scan (openE1 m ts) ts.length 0 = (i, 6) := by rw [HF.out, h1]; rfl
                rw [HV2.out, h2]; rfl)
              have hd : decide (m ≤ x.machine) = true := decide_eq_true hmm
              go_wp2_with (go_at_call 117; go_must (refine (HTz.out _ (pa HQ.out)).mono ?_); rintro e w1 ⟨rfl, hb1⟩; have HB1 := Lib.hid hb1; have k5 : Blk w1 wr.heap.size 101 #[.int .i64 x.machine, .int .i64 x.length, .int .i64 x.release, .slice A3 x.after.length c3] := (Blk.new wr _ _).past hb1; have K5 := Lib.hid k5; have k01 := (K0.out.alloc (o := .cells #[.int .i64 x.machine, .int .i64 x.length, .int .i64 x.release, .slice A3 x.after.length c3] 101)).past hb1; have K01 := Lib.hid k01; have s0 : w1.cell? ⟨wr.heap.size, 0, none⟩ = some (.int .i64 x.machine) := k5.cellAt 0 rfl; have s3 : w1.cell? ⟨wr.heap.size, 3, none⟩ = some (.slice A3 x.after.length c3) := k5.cellAt 3 rfl; have g0 : w1.cell? ⟨w.heap.size, 0, none⟩ = some (.int .i64 m) := k01.cellAt 0 rfl; have g1 : w1.cell? ⟨w.heap.size, 1, none⟩ = some (.slice (some ⟨b, off, none⟩) ts.length c) := k01.cellAt 1 rfl; have s5 := k5.lt; have s6 := k01.lt; clear hb1 k5 k01)
              go_ret2
              exact ⟨ret_ii (by rw [HV5.out]) (by rw [HV5.out]), pt (pa HQ.out) HB1.out⟩
            · have hd : decide (m ≤ x.machine) = false := decide_eq_false hmm
              have HE3 := Lib.hid (show openE1 m ts i = unlessV (!anyB (geB ts.length) x.after) 6 by rw [HE2.out, decide_eq_true (show x.machine < m by omega), Bool.true_and])
              go_wp2_with (go_at_call 117; go_must (refine (HTz.out _ (pa HQ.out)).mono ?_); rintro e w1 ⟨rfl, hb1⟩; have HB1 := Lib.hid hb1; have k5 : Blk w1 wr.heap.size 101 #[.int .i64 x.machine, .int .i64 x.length, .int .i64 x.release, .slice A3 x.after.length c3] := (Blk.new wr _ _).past hb1; have K5 := Lib.hid k5; have k01 := (K0.out.alloc (o := .cells #[.int .i64 x.machine, .int .i64 x.length, .int .i64 x.release, .slice A3 x.after.length c3] 101)).past hb1; have K01 := Lib.hid k01; have s0 : w1.cell? ⟨wr.heap.size, 0, none⟩ = some (.int .i64 x.machine) := k5.cellAt 0 rfl; have s3 : w1.cell? ⟨wr.heap.size, 3, none⟩ = some (.slice A3 x.after.length c3) := k5.cellAt 3 rfl; have g0 : w1.cell? ⟨w.heap.size, 0, none⟩ = some (.int .i64 m) := k01.cellAt 0 rfl; have g1 : w1.cell? ⟨w.heap.size, 1, none⟩ = some (.slice (some ⟨b, off, none⟩) ts.length c) := k01.cellAt 1 rfl; have s5 := k5.lt; have s6 := k01.lt; clear hb1 k5 k01)
              clear t0 t1 t2 t3 e0 e1 s0 s3 g0 g1 hd hmm
              obtain ⟨wo, rfl⟩ : ∃ wo : World, wo = wr := ⟨_, rfl⟩
              go_loopw [7] (fun jv wr => ∃ j : Nat, jv = .int .i64 (j : Int) ∧ j ≤ x.after.length ∧ anyB (geB ts.length) x.after = anyB (geB ts.length) (x.after.drop j) ∧ Below w1.heap.size w1 wr) (fun jv _ => x.after.length - (intOf jv).toNat)
              case atStart => exact ⟨0, rfl, Nat.zero_le _, rfl, pr⟩
              case round =>
                obtain ⟨j, rfl, hj, hfj, hqj⟩ := hrel
                have HQJ := Lib.hid (pt (pt (pa HQ.out) HB1.out) hqj)
                have s3 : wr.cell? ⟨wo.heap.size, 3, none⟩ = some (.slice A3 x.after.length c3) := (K5.out.past hqj).cellAt 3 rfl
                have g1 : wr.cell? ⟨w.heap.size, 1, none⟩ = some (.slice (some ⟨b, off, none⟩) ts.length c) := (K01.out.past hqj).cellAt 1 rfl
                have y1 := (K5.out.past hqj).lt
                have y2 := (K01.out.past hqj).lt
                have HqJ := Lib.hid hqj
                clear hqj
                by_cases hlj : j < x.after.length
                · obtain ⟨b4, o4, hA4, hb4, hc4⟩ := (HTr.out.below (HQJ.out.mono hB)).at_ hlj
                  subst hA4
                  have d4 := hc4 j hlj
                  have hb4w : b4 < wr.heap.size := by have := HQJ.out.size; omega
                  have j0 : (0 : Int) ≤ (j : Int) := by omega
                  have j1 : (j : Int) < (x.after.length : Int) := by omega
                  have HJ := Lib.hid (hfj.trans (anyB_step (geB ts.length) x.after j hlj))
                  have hl1000 : x.after.length ≤ 1000 := hsm
                  clear hc4 hfj
                  generalize x.after.getD j 0 = y at *
                  by_cases hy : (ts.length : Int) ≤ y
                  · have HV5 := Lib.hid (show V = (i, 6) by
                      have hge : geB ts.length y = true := decide_eq_true hy
                      have h0 : anyB (geB ts.length) x.after = true := by rw [HJ.out, if_pos hge]
                      have h1 : openE1 m ts i = 6 := by rw [HE3.out, h0]; rfl
                      have h2 : scan (openE1 m ts) ts.length 0 = (i, 6) := by rw [HF.out, h1]; rfl
                      rw [HV2.out, h2]; rfl)
                    have hd : decide ((ts.length : Int) ≤ y) = true := decide_eq_true hy
                    go_wp2
                    go_quiet (fail)
                    have hbq : Below wr.heap.size wr (wr.drewN nq) := below_drewN' (Below.refl _ _) nq
                    go_wp2
                    go_ret2
                    exact ⟨ret_ii (by rw [HV5.out]) (by rw [HV5.out]), pt HQJ.out hbq⟩
                  · have hd : decide ((ts.length : Int) ≤ y) = false := decide_eq_false hy
                    have HJ2 := Lib.hid (show anyB (geB ts.length) x.after = anyB (geB ts.length) (x.after.drop (j + 1)) by rw [HJ.out, if_neg (by simpa [geB] using hy)])
                    go_wp2
                    go_quiet (fail)
                    have hbq : Below wr.heap.size wr (wr.drewN nq) := below_drewN' (Below.refl _ _) nq
                    go_wp2
                    go_roundw
                    case rel => exact ⟨j + 1, by go_num, by omega, HJ2.out, pt HqJ.out hbq⟩
                    case measure => simp [intOf]; omega
                · have HG := Lib.hid (show scan (openE1 m ts) ts.length 0 = scan (openE1 m ts) ts.length (i + 1) by
                    have h0 : anyB (geB ts.length) x.after = false := by rw [hfj, List.drop_eq_nil_of_le (by omega)]; rfl
                    have h1 : openE1 m ts i = 0 := by rw [HE3.out, h0]; rfl
                    rw [HF.out, if_pos h1])
                  have KJ := Lib.hid (K01.out.past HqJ.out)
                  clear hfj
                  go_wp2
                  go_roundw
                  case rel => exact ⟨i + 1, by go_num, by omega, HG.out, KJ.out, HQJ.out⟩
                  case measure => simp [intOf]; omega
          · have hne : (taskE x != 0) = true := by simpa using hz
            have HV5 := Lib.hid (show V = (i, taskE x) by
              have h1 : openE1 m ts i = taskE x := by rw [HE.out]; show (if taskE x = 0 then _ else taskE x) = _; rw [if_neg hz]
              have h2 : scan (openE1 m ts) ts.length 0 = (i, taskE x) := by rw [HF.out, h1, if_neg hz]
              rw [HV2.out, h2, if_pos hz])
            clear HE hz
            generalize taskE x = E at *
            go_wp2_with (go_at_call 117; go_must (refine (HTe.out _ (pa HQ.out)).mono ?_); rintro e w1 ⟨rfl, hb1⟩; have HB1 := Lib.hid hb1; clear hb1)
            go_ret2
            exact ⟨ret_ii (by rw [HV5.out]) (by rw [HV5.out]), pt (pa HQ.out) HB1.out⟩
        · have h00 : scan (openE1 m ts) ts.length 0 = (0, 0) := by rw [hf]; exact scan_end (by omega)
          have HP := Lib.hid (HPL2.out (by rw [h00]))
          have HV3 := Lib.hid (show V = scan (openE2 ts) ts.length 0 by rw [HV2.out, h00]; rfl)
          clear hf h00
          go_wp2
          clear e0 e1 hi hlt
          obtain ⟨wo, rfl⟩ : ∃ wo : World, wo = wr := ⟨_, rfl⟩
          go_loopw [8] (fun iv wr => ∃ i : Nat, iv = .int .i64 (i : Int) ∧ i ≤ ts.length ∧ V = scan (openE2 ts) ts.length i ∧ Below wo.heap.size wo wr) (fun iv _ => ts.length - (intOf iv).toNat)
          case atStart => exact ⟨0, rfl, Nat.zero_le _, HV3.out, pr⟩
          case round =>
            obtain ⟨i, rfl, hi, hf, hqi⟩ := hrel
            have KI := K0.out.past hqi
            have e0 : wr.cell? ⟨w.heap.size, 0, none⟩ = some (.int .i64 m) := KI.cellAt 0 rfl
            have e1 : wr.cell? ⟨w.heap.size, 1, none⟩ = some (.slice A ts.length c) := KI.cellAt 1 rfl
            have x1 := KI.lt
            have HQI := Lib.hid (pt HQ.out hqi)
            have HqI := Lib.hid hqi
            clear hqi KI
            by_cases hlt : i < ts.length
            · have HF := Lib.hid (hf.trans (scan_step hlt))
              have HE := Lib.hid (show openE2 ts i = if (needsV ts i).testBit i then 13 else 0 from rfl)
              have HDp := Lib.hid fun W (hW : Below w.heap.size w W) => dependsOn_any B ts A c m i W (HR.out.below (hW.mono hB)) (Nat.le_trans hB hW.size) hlt HP.out
              clear hf
              cases htb : (needsV ts i).testBit i with
              | true =>
                have HV5 := Lib.hid (show V = (i, 13) by
                  have h1 : openE2 ts i = 13 := by rw [HE.out, htb]; rfl
                  rw [HF.out, h1]; rfl)
                go_wp2_with (first
                  | (go_at_call 118; go_must (refine (HDp.out _ HQI.out).mono ?_); rintro e w1 ⟨A5, c5, out, rfl, hi5, h14, hhas, hb1⟩; have HB1 := Lib.hid hb1; have HHas := Lib.hid (htb ▸ hhas i ▸ baseHas_n out.length w1.heap.size A5 c5 out (i : Int) w1 hi5 rfl (by omega)); clear hb1 hi5 hhas)
                  | (go_at_call 33; go_must (refine HHas.out.mono ?_); rintro e w' ⟨rfl, rfl⟩))
                go_ret2
                exact ⟨ret_ii (by rw [HV5.out]) (by rw [HV5.out]), pt HQI.out HB1.out⟩
              | false =>
                have HV5 := Lib.hid (show V = scan (openE2 ts) ts.length (i + 1) by
                  have h1 : openE2 ts i = 0 := by rw [HE.out, htb]; rfl
                  rw [HF.out, if_pos h1])
                go_wp2_with (first
                  | (go_at_call 118; go_must (refine (HDp.out _ HQI.out).mono ?_); rintro e w1 ⟨A5, c5, out, rfl, hi5, h14, hhas, hb1⟩; have HB1 := Lib.hid hb1; have HHas := Lib.hid (htb ▸ hhas i ▸ baseHas_n out.length w1.heap.size A5 c5 out (i : Int) w1 hi5 rfl (by omega)); clear hb1 hi5 hhas)
                  | (go_at_call 33; go_must (refine HHas.out.mono ?_); rintro e w' ⟨rfl, rfl⟩))
                go_roundw
                case rel => exact ⟨i + 1, by go_num, by omega, HV5.out, pt HqI.out HB1.out⟩
                case measure => simp [intOf]; omega
            · have HV5 := Lib.hid (show V = (0, 0) by rw [hf]; exact scan_end (by omega))
              clear hf
              go_wp2
              go_ret2
              exact ⟨ret_ii (by rw [HV5.out]; rfl) (by rw [HV5.out]), HQI.out⟩

theorem refPlanErr_any (B : Nat) (ts : List Task) (A : Option Addr) (c : Nat) (m : Int) (w : World) (hr : TasksIn B w A ts) (hB : B ≤ w.heap.size) (hs : SmallPlan ts) :
    Calls Try.prog 17 #[.agg #[.int .i64 m, .slice A ts.length c]] w fun e w' => e = .returned (.int .i64 (openV m ts).2) ∧ Below w.heap.size w w' := by
  have HC := Lib.hid (refCheckPlan_any B ts A c m (w.alloc (.cells #[.int .i64 m, .slice A ts.length c] 24)) (hr.below ((pa pr).mono hB)) (Nat.le_trans hB (by simp)) hs)
  clear hr hs
  generalize (openV m ts).1 = I at *
  generalize (openV m ts).2 = E at *
  go_enter Try.func17, Try.ntmps17
  go_wp2_with (go_at_call 64; go_must (refine HC.out.mono ?_); rintro e w1 ⟨rfl, hb1⟩)
  go_ret
  exact ⟨rfl, pt (pa pr) hb1⟩

theorem checkPlan_any (B : Nat) (ts : List Task) (A : Option Addr) (c : Nat) (m : Int) (w : World) (hr : TasksIn B w A ts) (hB : B ≤ w.heap.size) (hs : SmallPlan ts) :
    Calls Try.prog 61 #[.agg #[.int .i64 m, .slice A ts.length c]] w fun e w' => e = .returned (.tuple #[.int .i64 ((openV m ts).1 : Int), .int .i64 (openV m ts).2]) ∧ Below w.heap.size w w' := by
  have HC := Lib.hid (fun W (hW : Below w.heap.size w W) => open_any B ts A c m W (hr.below (hW.mono hB)) (Nat.le_trans hB hW.size) hs)
  clear hr hs
  generalize (openV m ts).1 = I at *
  generalize (openV m ts).2 = E at *
  go_enter Try.func61, Try.ntmps61
  go_wp2_with (go_at_call 115; go_must (refine (HC.out _ (by first | exact pr | exact pa pr)).mono ?_); rintro e w1 ⟨rfl, hb1⟩)
  go_ret2
  exact ⟨rfl, by first | exact pa (pt (pa pr) hb1) | exact pt (pa pr) hb1 | exact pa hb1 | exact hb1⟩

end Go.Proofs.Ytlgioldmjohhlaa
