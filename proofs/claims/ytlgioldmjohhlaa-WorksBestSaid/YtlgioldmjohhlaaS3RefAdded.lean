/- Contract: the specification's earliest start of a task, when those of an order have started. Valid plans. -/
import Derived.Test.YtlgioldmjohhlaaS2RefEnd
import Derived.Test.YtlgioldmjohhlaaMB
namespace Go.Proofs.Ytlgioldmjohhlaa
open Go.RowKit

/-- Starts of a schedule in the making: all in range. -/
def AddOk (ts : List Task) (order ss : List Int) : Prop := ss.length = ts.length ∧ (∀ j, 0 ≤ ss.getD j 0 ∧ ss.getD j 0 ≤ 90000) ∧ (∀ x ∈ order, 0 ≤ x ∧ x.toNat < ts.length) ∧ order.length ≤ 7

theorem addA_step (ts : List Task) (order ss l : List Int) (a : Int) (j : Nat) (h : j < l.length) : addA ts order ss (l.drop j) a = if hasB order (l.getD j 0) = true then addA ts order ss (l.drop (j + 1)) (max a (endAt ts ss (l.getD j 0).toNat)) else (0, false) := by
  rw [List.drop_eq_getElem_cons h, addA]
  simp [List.getD, h]
theorem addM_step (ts : List Task) (ss l : List Int) (m a : Int) (j : Nat) (h : j < l.length) : addM ts ss m (l.drop j) a = addM ts ss m (l.drop (j + 1)) (if (ts.getD (l.getD j 0).toNat default).machine = m then max a (endAt ts ss (l.getD j 0).toNat) else a) := by
  have e : l.getD j 0 = l[j] := by simp [List.getD, h]
  rw [List.drop_eq_getElem_cons h, addM, e]

theorem ret_ib {k : IntKind} {a b : Int} {c d : Bool} (h : a = b) (h2 : c = d) : Ending.returned (.tuple #[.int k a, .bool c]) = .returned (.tuple #[.int k b, .bool d]) := by rw [h, h2]


set_option maxHeartbeats 4000000 in
set_option maxRecDepth 100000 in
theorem refAdded_any (B : Nat) (ts : List Task) (order ss : List Int) (A Ao As : Option Addr) (c co cs : Nat) (m : Int) (i : Nat) (w : World) (hr : TasksIn B w A ts) (hro : IntsIn B w Ao order) (hrs : IntsIn B w As ss) (hB : B ≤ w.heap.size) (hl : LenOk ts) (hp : PlanOk ts) (hi : i < ts.length) (hok : AddOk ts order ss) :
    Calls Try.prog 132 #[.agg #[.int .i64 m, .slice A ts.length c], .slice Ao order.length co, .slice As ss.length cs, .int .i64 (i : Int)] w fun e w' => e = .returned (.tuple #[.int .i64 (addedV ts order ss i).1, .bool (addedV ts order ss i).2]) ∧ Below w.heap.size w w' := by
  have h7 := hp.1
  obtain ⟨hsl, hsr, hox, ho7⟩ := hok
  have hla : (ts.getD i default).after.length ≤ 7 := (hp.2 i hi).1
  have HAfter := Lib.hid (after_in hp hi)
  have HR := Lib.hid hr
  have HO := Lib.hid hro
  have HS := Lib.hid hrs
  have HL := Lib.hid hl
  have HSL := Lib.hid hsl
  have HSR := Lib.hid hsr
  have HOX := Lib.hid hox
  have HV := Lib.hid (show addedV ts order ss i = if (addA ts order ss (ts.getD i default).after (ts.getD i default).release).2 = true then (addM ts ss (ts.getD i default).machine order (addA ts order ss (ts.getD i default).after (ts.getD i default).release).1, true) else (0, false) from rfl)
  generalize addedV ts order ss i = V at *
  obtain ⟨b, off, hA, hbB, hct⟩ := hr.at_ hi
  subst hA
  have HCt := Lib.hid hct
  obtain ⟨t0, t1, t2, A3, c3, t3, tr, _⟩ := hct i hi
  have HTr := Lib.hid tr
  have hli := hl i hi
  have HHas := Lib.hid fun (x : Int) W (hW : Below w.heap.size w W) => baseHas_any B Ao co order x W (hro.below (hW.mono hB)) (by omega)
  clear hr hro hrs hp hsl hsr hox hct tr
  generalize (ts.getD i default).after = aft at *
  generalize (ts.getD i default).machine = mi at *
  generalize (ts.getD i default).length = li at *
  generalize (ts.getD i default).release = rel at *
  have hbw : b < w.heap.size := by omega
  have i0 : (0 : Int) ≤ (i : Int) := by omega
  have i2 : (i : Int) < (ts.length : Int) := by omega
  have hlw : ss.length ≤ 7 := by have := HSL.out; omega
  obtain ⟨wa, hwa⟩ : ∃ wa : World, wa = (w.alloc (.cells #[.int .i64 m, .slice (some ⟨b, off, none⟩) ts.length c] 24)).alloc (.cells #[.int .i64 mi, .int .i64 li, .int .i64 rel, .slice A3 aft.length c3] 101) := ⟨_, rfl⟩
  have HFa := Lib.hid (show ∀ W, Below wa.heap.size wa W → W.cell? ⟨w.heap.size + 1, 0, none⟩ = some (.int .i64 mi) ∧ W.cell? ⟨w.heap.size + 1, 1, none⟩ = some (.int .i64 li) ∧ W.cell? ⟨w.heap.size + 1, 2, none⟩ = some (.int .i64 rel) ∧ W.cell? ⟨w.heap.size + 1, 3, none⟩ = some (.slice A3 aft.length c3) ∧ W.cell? ⟨w.heap.size, 1, none⟩ = some (.slice (some ⟨b, off, none⟩) ts.length c) ∧ w.heap.size + 1 < W.heap.size ∧ w.heap.size < W.heap.size ∧ b < W.heap.size ∧ Below w.heap.size w W from fun W hW => by
    have q0 : Blk wa (w.heap.size + 1) 101 #[.int .i64 mi, .int .i64 li, .int .i64 rel, .slice A3 aft.length c3] := by rw [hwa]; exact Blk.newAt (by simp)
    have q1 : Blk wa w.heap.size 24 #[.int .i64 m, .slice (some ⟨b, off, none⟩) ts.length c] := by rw [hwa]; exact (Blk.newAt rfl).alloc
    have q2 : Below w.heap.size w wa := by rw [hwa]; exact pa (pa pr)
    have q0 := q0.past hW
    have q1 := q1.past hW
    exact ⟨q0.cellAt 0 rfl, q0.cellAt 1 rfl, q0.cellAt 2 rfl, q0.cellAt 3 rfl, q1.cellAt 1 rfl, q0.lt, q1.lt, by have := q1.lt; omega, pt q2 hW⟩)
  have HWA := Lib.hid hwa
  clear hwa
  go_enter Try.func132, Try.ntmps132
  go_wp2
  rw [← HWA.out]
  obtain ⟨f0, f1, f2, f3, e1, z0, z1, z2, hbW⟩ := HFa.out wa pr
  have HS0 := Lib.hid (show 0 ≤ rel ∧ rel ≤ 100000 by omega)
  go_loopw [11, 12] (fun av kv wr => ∃ (a : Int) (k : Nat), av = .int .i64 a ∧ kv = .int .i64 (k : Int) ∧ k ≤ aft.length ∧ addA ts order ss aft rel = addA ts order ss (aft.drop k) a ∧ (0 ≤ a ∧ a ≤ 100000) ∧ Below wa.heap.size wa wr) (fun _ kv _ => aft.length - (intOf kv).toNat)
  case atStart => exact ⟨rel, 0, rfl, rfl, Nat.zero_le _, rfl, HS0.out, pr⟩
  case round =>
    obtain ⟨a, k, rfl, rfl, hk, hg, hab, hq⟩ := hrel
    have HQ := Lib.hid hq
    clear hq f0 f1 f2 f3 e1 z0 z1 z2 hbW HS0
    obtain ⟨f0, f1, f2, f3, e1, z0, z1, z2, hbW⟩ := HFa.out _ HQ.out
    have HBW := Lib.hid hbW
    clear hbW
    by_cases hlk : k < aft.length
    · obtain ⟨b3, off3, hA3, hbB3, hc3⟩ := HTr.out.at_ hlk
      subst hA3
      have g3 : wr.cell? ⟨b3, off3 + k, none⟩ = some (.int .i64 (aft.getD k 0)) := ((bcell (HBW.out.mono hB)).1 _ _ hbB3).trans (hc3 k hlk)
      have z4 : b3 < wr.heap.size := by have := HBW.out.size; omega
      have HG := Lib.hid (hg.trans (addA_step ts order ss aft a k hlk))
      have HIn := Lib.hid (HAfter.out (aft.getD k 0) (getD_mem hlk))
      have k0 : (0 : Int) ≤ (k : Int) := by omega
      have k1 : (k : Int) < (aft.length : Int) := by omega
      clear hc3 hg
      generalize aft.getD k 0 = x at *
      obtain ⟨n, rfl⟩ : ∃ n : Nat, x = (n : Int) := ⟨x.toNat, by have := HIn.out; omega⟩
      cases hhx : hasB order (n : Int) with
      | false =>
        have HHas2 := HHas.out (n : Int)
        rw [hhx] at HHas2
        have HH := Lib.hid HHas2
        clear HHas2
        go_wp2_with (go_at_call 33; refine (HH.out _ HBW.out).mono ?_; rintro e w' ⟨rfl, rfl⟩)
        go_ret2
        have hV : V = (0, false) := by rw [HV.out, HG.out, hhx]; rfl
        exact ⟨ret_ib (by rw [hV]) (by rw [hV]), HBW.out⟩
      | true =>
        have HHas2 := HHas.out (n : Int)
        rw [hhx] at HHas2
        have HH := Lib.hid HHas2
        clear HHas2
        have hnt : n < ts.length := by have := HIn.out; omega
        have hns : n < ss.length := by have := HSL.out; omega
        have n0 : (0 : Int) ≤ (n : Int) := by omega
        have n1 : (n : Int) < (ts.length : Int) := by omega
        have n2 : (n : Int) < (ss.length : Int) := by omega
        obtain ⟨b2, off2, hA2, hbB2, hc2⟩ := HS.out.at_ hns
        subst hA2
        obtain ⟨_, t1n, _, _, _, _, _, _⟩ := HCt.out n hnt
        have g4 := ((bcell (HBW.out.mono hB)).1 _ _ hbB2).trans (hc2 n hns)
        have g5 := ((bcell (HBW.out.mono hB)).1 _ _ hbB).trans t1n
        have z5 : b2 < wr.heap.size := by have := HBW.out.size; omega
        have hbd : 0 ≤ ss.getD n 0 + (ts.getD n default).length ∧ ss.getD n 0 + (ts.getD n default).length ≤ 100000 := by have := HSR.out n; have := HL.out n hnt; omega
        have hw := IntWalk.i64_in (ss.getD n 0 + (ts.getD n default).length) (by omega)
        have HG2 := Lib.hid (show addA ts order ss aft rel = addA ts order ss (aft.drop (k + 1)) (max a (ss.getD n 0 + (ts.getD n default).length)) by
          rw [HG.out, if_pos hhx]; rfl)
        clear t1n hc2
        generalize ss.getD n 0 = sn at *
        generalize (ts.getD n default).length = ln at *
        go_wp2_with (go_at_call 33; refine (HH.out _ HBW.out).mono ?_; rintro e w' ⟨rfl, rfl⟩)
        go_quiet (fail)
        go_wp2
        go_roundw
        case rel => exact ⟨max a (sn + ln), k + 1, by go_num, by go_num, by omega, HG2.out, by omega, below_drewN' HQ.out nq⟩
        case measure => simp [intOf]; omega
    · have HA1 := Lib.hid (show addA ts order ss aft rel = (a, true) by rw [hg, List.drop_eq_nil_of_le (by omega)]; rfl)
      have HV2 := Lib.hid (show V = (addM ts ss mi order a, true) by rw [HV.out, HA1.out]; rfl)
      clear hg HV
      go_wp2
      clear hk hlk f0 f1 f2 f3 e1 z0 z1 z2
      generalize hwo : wr = wo at *
      obtain ⟨wo, rfl⟩ : ∃ wo : World, wo = wr := ⟨_, rfl⟩
      go_loopw [11, 13] (fun av kv wr => ∃ (a2 : Int) (k : Nat), av = .int .i64 a2 ∧ kv = .int .i64 (k : Int) ∧ k ≤ order.length ∧ addM ts ss mi order a = addM ts ss mi (order.drop k) a2 ∧ (0 ≤ a2 ∧ a2 ≤ 100000) ∧ Below wa.heap.size wa wr) (fun _ kv _ => order.length - (intOf kv).toNat)
      case atStart => exact ⟨a, 0, rfl, rfl, Nat.zero_le _, rfl, hab, HQ.out⟩
      case round =>
        obtain ⟨a2, k, rfl, rfl, hk, hg, hab2, hq2⟩ := hrel
        have HQ2 := Lib.hid hq2
        clear hq2 hab
        obtain ⟨f0, f1, f2, f3, e1, z0, z1, z2, hbW⟩ := HFa.out _ HQ2.out
        have HBW2 := Lib.hid hbW
        clear hbW
        by_cases hlk : k < order.length
        · obtain ⟨b3, off3, hA3, hbB3, hc3⟩ := HO.out.at_ hlk
          subst hA3
          have g3 : wr.cell? ⟨b3, off3 + k, none⟩ = some (.int .i64 (order.getD k 0)) := ((bcell (HBW2.out.mono hB)).1 _ _ hbB3).trans (hc3 k hlk)
          have z4 : b3 < wr.heap.size := by have := HBW2.out.size; omega
          have HG := Lib.hid (hg.trans (addM_step ts ss order mi a2 k hlk))
          have HIn := Lib.hid (HOX.out (order.getD k 0) (getD_mem hlk))
          have k0 : (0 : Int) ≤ (k : Int) := by omega
          have k1 : (k : Int) < (order.length : Int) := by omega
          clear hc3 hg
          generalize order.getD k 0 = x at *
          obtain ⟨n, rfl⟩ : ∃ n : Nat, x = (n : Int) := ⟨x.toNat, by have := HIn.out; omega⟩
          have hnt : n < ts.length := by have := HIn.out; omega
          have hns : n < ss.length := by have := HSL.out; omega
          have n0 : (0 : Int) ≤ (n : Int) := by omega
          have n1 : (n : Int) < (ts.length : Int) := by omega
          have n2 : (n : Int) < (ss.length : Int) := by omega
          obtain ⟨b2, off2, hA2, hbB2, hc2⟩ := HS.out.at_ hns
          subst hA2
          obtain ⟨t0n, t1n, _, _, _, _, _, _⟩ := HCt.out n hnt
          have g4 := ((bcell (HBW2.out.mono hB)).1 _ _ hbB2).trans (hc2 n hns)
          have g5 := ((bcell (HBW2.out.mono hB)).1 _ _ hbB).trans t1n
          have g6 := ((bcell (HBW2.out.mono hB)).1 _ _ hbB).trans t0n
          have z5 : b2 < wr.heap.size := by have := HBW2.out.size; omega
          have hbd : 0 ≤ ss.getD n 0 + (ts.getD n default).length ∧ ss.getD n 0 + (ts.getD n default).length ≤ 100000 := by have := HSR.out n; have := HL.out n hnt; omega
          have hw := IntWalk.i64_in (ss.getD n 0 + (ts.getD n default).length) (by omega)
          have HG1 := Lib.hid (show (ts.getD n default).machine = mi → addM ts ss mi order a = addM ts ss mi (order.drop (k + 1)) (max a2 (ss.getD n 0 + (ts.getD n default).length)) from fun h => by
            rw [HG.out, Int.toNat_natCast, if_pos h]; rfl)
          have HG2 := Lib.hid (show ¬ (ts.getD n default).machine = mi → addM ts ss mi order a = addM ts ss mi (order.drop (k + 1)) a2 from fun h => by
            rw [HG.out, Int.toNat_natCast, if_neg h])
          clear t1n t0n hc2 HG
          generalize ss.getD n 0 = sn at *
          generalize (ts.getD n default).length = ln at *
          generalize (ts.getD n default).machine = mn at *
          by_cases hmm : mn = mi
          · have HG3 := Lib.hid (HG1.out hmm)
            clear HG1 HG2
            subst hmm
            have hbt : ((mn : Int) == mn) = true := by simp
            go_wp2
            go_quiet (fail)
            go_wp2
            go_quiet (fail)
            go_wp2
            go_roundw
            case rel => exact ⟨max a2 (sn + ln), k + 1, by go_num, by go_num, by omega, HG3.out, by omega, below_drewN' HQ2.out _⟩
            case measure => simp [intOf]; omega
          · have HG3 := Lib.hid (HG2.out hmm)
            have hbt : ((mn : Int) == mi) = false := by simpa using hmm
            clear HG1 HG2 hmm
            go_wp2
            go_quiet (fail)
            go_wp2
            go_roundw
            case rel => exact ⟨a2, k + 1, by go_num, by go_num, by omega, HG3.out, by omega, below_drewN' HQ2.out nq⟩
            case measure => simp [intOf]; omega
        · have HV3 := Lib.hid (show V = (a2, true) by rw [HV2.out, hg, List.drop_eq_nil_of_le (by omega)]; rfl)
          clear hg
          go_wp2
          go_ret2
          exact ⟨ret_ib (by rw [HV3.out]) (by rw [HV3.out]), HBW2.out⟩

end Go.Proofs.Ytlgioldmjohhlaa
