/- Contract: the iterator over all tasks, as order_seq says; what a round is handed is a task of the plan. -/
import Derived.Test.YtbojmcopagbheaaGreatDoorQ9
namespace Go.Proofs.YtbojmcopagbheaaGreatDoor
open Go.RowKit Go.Shelf
attribute [local go_sem] Oper.semAt_some undef

set_option maxRecDepth 100000 in
set_option maxHeartbeats 2000000 in
theorem order_seq2 (B n : Nat) (ts : List Task) (A : Option Addr) (c : Nat) (m : Int) (w0 : World) (hr : TasksIn B w0 A ts) (hB : B ≤ w0.heap.size) (ha : AcyOk ts) :
    SeqP n Tryz.prog 96 #[.agg #[.int .i64 m, .slice A ts.length c]] #[] ordEnc (fun i _ => i < ts.length) (OrdKp B)
      (fun xs => xs = orderV ts) (fun pre => pre ≠ [] ∧ pre <+: orderV ts) (orderV ts).length w0 := by
  intro l J Jx W hW hJ hJx hY h0
  have h7 := ha.1.1
  obtain ⟨F, hF⟩ : ∃ F, F = 2 ^ ts.length - 1 := ⟨_, rfl⟩
  have hF1 : 2 ^ ts.length = F + 1 := by have := Nat.two_pow_pos ts.length; omega
  have hF2 : F + 1 ≤ 128 := by rw [← hF1]; exact Nat.pow_le_pow_right (by decide) h7
  have eF : IntKind.i64.wrap (2 ^ ts.length) = (F : Int) + 1 := by
    rw [wrap_bit (by omega)]
    unfold bitV
    rw [hF1]; simp
  have HF1 := Lib.hid hF1
  have HA := Lib.hid ha
  have HY := Lib.hid hY
  have HJ := Lib.hid hJ
  have hr1 := hr.below (hW.mono hB)
  have hB1 := Nat.le_trans hB hW.size
  clear hF hF1 ha hY hJ hJx hr hW hB
  refine callsIn_of_wp Tryz.func96 rfl trivial ?_ rfl
  simp only [undef, Tryz.ntmps96, List.size_toArray, List.length_cons, List.length_nil, Nat.reduceAdd, Nat.reduceSub, Array.replicate_succ, Array.replicate_zero, List.push_toArray, List.append_toArray, List.nil_append, List.cons_append]
  gi_wp2
  gi_loopw [4] (fun dn wr => ∃ (D f : Nat) (p : List Nat), dn = .int .i64 (D : Int) ∧ D ≤ F ∧ p ++ orderF ts f D = orderV ts ∧ F - D < f ∧ J p wr ∧ Blk wr W.heap.size 102 #[.int .i64 m, .slice A ts.length c] ∧ TasksIn B wr A ts ∧ B ≤ wr.heap.size) (fun dn _ => 128 - (intOf dn).toNat)
  case atStart => exact ⟨0, 130, [], rfl, Nat.zero_le _, rfl, by omega, abides_past HJ.out h0 (pa pr), Blk.newAt rfl, hr1.below ((pa (Below.refl _ W)).mono hB1), by simp; omega⟩
  case round =>
    obtain ⟨D, f, p, rfl, hD, hrun, hf, hj, q0, hT, hBr⟩ := hrel
    clear h0 hr1 hB1
    have d0 := q0.cellAt 0 rfl
    have d1 := q0.cellAt 1 rfl
    have x0 := q0.lt
    have HT := Lib.hid hT
    have HRun := Lib.hid hrun
    clear hT hrun
    by_cases hDF : D = F
    · have hend : p = orderV ts := by
        rw [← HRun.out]
        obtain ⟨f', rfl⟩ : ∃ f', f = f' + 1 := ⟨f - 1, by omega⟩
        simp [orderF, HF1.out, hDF]
      have HEnd := Lib.hid hend
      subst hDF
      clear hend
      gi_wp2
      go_end0
      exact ⟨⟨_, rfl⟩, .inl ⟨p, HEnd.out, hj⟩⟩
    · have hb : ((D : Int) != (F : Int)) = true := by
        rw [bne_iff_ne]; omega
      have hstep : p ++ (passF ts ts.length 0 D).1 ++ orderF ts (f - 1) (passF ts ts.length 0 D).2 = orderV ts := by
        rw [← HRun.out, List.append_assoc]
        obtain ⟨f', rfl⟩ : ∃ f', f = f' + 1 := ⟨f - 1, by omega⟩
        simp only [orderF, HF1.out, Nat.add_sub_cancel, if_neg hDF]
      have HStep := Lib.hid hstep
      have HGt := Lib.hid (pass_gt HA.out (d := D) (by rw [HF1.out]; omega) (by rw [HF1.out]; simpa using hDF))
      have HLt := Lib.hid ((pass_spec (ts := ts) ts.length 0 D (by omega) (by rw [HF1.out]; omega)).2.1)
      clear hDF hstep HRun
      gi_wp2
      obtain ⟨wo, rfl⟩ : ∃ wo : World, wo = wr := ⟨_, rfl⟩
      gi_loopw [4, 18] (fun dn ix wr => ∃ (i D2 : Nat) (p2 : List Nat), i ≤ ts.length ∧ ix = .int .i64 (i : Int) ∧ dn = .int .i64 (D2 : Int) ∧ D2 ≤ F ∧ p2 ++ (passF ts (ts.length - i) i D2).1 ++ orderF ts (f - 1) (passF ts (ts.length - i) i D2).2 = orderV ts ∧ (passF ts (ts.length - i) i D2).2 = (passF ts ts.length 0 D).2 ∧
          J p2 wr ∧ Blk wr W.heap.size 102 #[.int .i64 m, .slice A ts.length c] ∧ TasksIn B wr A ts ∧ B ≤ wr.heap.size) (fun _ ix _ => ts.length - (intOf ix).toNat)
      case atStart => exact ⟨0, D, p, Nat.zero_le _, rfl, rfl, hD, HStep.out, rfl, hj, q0, HT.out, hBr⟩
      case round =>
        obtain ⟨i, D2, p2, hi, rfl, rfl, hD2, hrun, hsame, hj2, s0, hT2, hB2⟩ := hrel
        clear hj q0 d0 d1 x0
        have d0 := s0.cellAt 0 rfl
        have d1 := s0.cellAt 1 rfl
        have x0 := s0.lt
        have HT2 := Lib.hid hT2
        have HRun := Lib.hid hrun
        have HSame := Lib.hid hsame
        clear hT2 hrun hsame
        by_cases hlt : i < ts.length
        · have hm : ts.length - i = (ts.length - (i + 1)) + 1 := by omega
          have hpass : passF ts (ts.length - i) i D2 = if readyB ts D2 i then (i :: (passF ts (ts.length - (i + 1)) (i + 1) (D2 ||| 2 ^ i)).1, (passF ts (ts.length - (i + 1)) (i + 1) (D2 ||| 2 ^ i)).2) else passF ts (ts.length - (i + 1)) (i + 1) D2 := by rw [hm, passF]
          have HPass := Lib.hid hpass
          have e1 : IntKind.i64.wrap (2 ^ i) = bitV i := wrap_bit (by omega)
          have n0 : (0 : Int) ≤ (i : Int) := by omega
          have hne := bitV_ne i
          have hneeds := fun k => (callsIn_wide (n := k)).2 (needs_any B ts A c m i wr HT2.out hB2 hlt HA.out.1)
          have HNeeds := Lib.hid hneeds
          have hK := needsV_lt HA.out.1 hlt
          clear hm hpass hneeds
          cases ht : D2.testBit i with
          | true =>
            have e2 := bits_and_yes (K := D2) (j := i) (by omega) (by omega) ht
            have hnr : readyB ts D2 i = false := by simp [readyB, ht]
            have HR2 := Lib.hid (show passF ts (ts.length - i) i D2 = passF ts (ts.length - (i + 1)) (i + 1) D2 by rw [HPass.out, hnr]; rfl)
            clear ht hnr HPass
            gi_wp2_with (refine ⟨(trivial : Fence.wide.fn 147), ?_⟩; fail_if_success (refine ⟨(fun h => nomatch h), ?_⟩))
            go_roundw
            case rel => exact ⟨i + 1, D2, p2, by omega, by go_num, rfl, hD2, by rw [← HR2.out]; exact HRun.out, by rw [← HR2.out]; exact HSame.out, hj2, s0, HT2.out, hB2⟩
            case measure => simp [intOf]; omega
          | false =>
            have e2 := bits_and_no (K := D2) (j := i) (by omega) (by omega) ht
            rcases Classical.em (∀ j, (needsV ts i).testBit j = true → D2.testBit j = true) with hs | hs
            · have hrd : readyB ts D2 i = true := readyB_iff.2 ⟨ht, hs⟩
              have e3 := andNot_zero (K := needsV ts i) (D := D2) (by omega) (by omega) hs
              obtain ⟨D3, hD3⟩ : ∃ D3, D3 = D2 ||| 2 ^ i := ⟨_, rfl⟩
              have e4 : bits .or .i64 (D2 : Int) (bitV i) = (D3 : Int) := by rw [hD3]; exact bits_or (by omega) (by omega)
              have hD3F : D3 ≤ F := by
                have : D3 < 2 ^ ts.length := by rw [hD3]; exact Nat.or_lt_two_pow (by rw [HF1.out]; omega) (Nat.pow_lt_pow_right (by decide) hlt)
                rw [HF1.out] at this
                omega
              have HR2 := Lib.hid (show passF ts (ts.length - i) i D2 = (i :: (passF ts (ts.length - (i + 1)) (i + 1) D3).1, (passF ts (ts.length - (i + 1)) (i + 1) D3).2) by rw [HPass.out, hrd, hD3]; rfl)
              have hlen : p2.length < (orderV ts).length := by rw [← HRun.out, HR2.out]; simp
              clear ht hs hrd hD3 HPass
              gi_wp2_with (refine ⟨trivial, (fun h => nomatch h), ?_⟩; gi_at_call 99; refine (HNeeds.out _).mono ?_; rintro e w1 ⟨rfl, hbn⟩; obtain ⟨fn, tmps, assign, body, hy, hR⟩ := HY.out p2 i w1 (abides_past HJ.out hj2 hbn) hlt hlen; unfold ordEnc at hy)
              refine ⟨(fun h => nomatch h), (roundIn_any hR).mono ?_⟩
              rintro e W3 (⟨rfl, hJ3, hk3, hk4⟩ | ⟨rfl, hJx3⟩)
              · gi_wp2
                go_roundw
                case rel => exact ⟨i + 1, D3, p2 ++ [i], by omega, by go_num, rfl, hD3F, by have h := HRun.out; rw [HR2.out] at h; simpa using h, by have h := HSame.out; rw [HR2.out] at h; exact h, hJ3, hk4 _ _ (s0.past hbn), (HT2.out.below (hbn.mono hB2)).below hk3, Nat.le_trans (Nat.le_trans hB2 hbn.size) hk3.size⟩
                case measure => simp [intOf]; omega
              · gi_wp2
                refine bodyPost_ret (results_none rfl _ _ _) rfl ?_
                exact ⟨⟨_, rfl⟩, .inr ⟨p2 ++ [i], ⟨by simp, by have h := HRun.out; rw [HR2.out] at h; exact ⟨(passF ts (ts.length - (i + 1)) (i + 1) D3).1 ++ orderF ts (f - 1) (passF ts (ts.length - (i + 1)) (i + 1) D3).2, by rw [← h]; simp⟩⟩, hJx3⟩⟩
            · have hrd : readyB ts D2 i = false := by
                cases h : readyB ts D2 i with
                | false => rfl
                | true => exact absurd (readyB_iff.1 h).2 hs
              have hex : ∃ j, (needsV ts i).testBit j = true ∧ D2.testBit j = false := by
                rcases Classical.em (∃ j, (needsV ts i).testBit j = true ∧ D2.testBit j = false) with h | h
                · exact h
                · exact absurd (fun j hj => by
                    cases hb : D2.testBit j with
                    | true => rfl
                    | false => exact absurd ⟨j, hj, hb⟩ h) hs
              obtain ⟨j, hj1, hj3⟩ := hex
              have e3 := andNot_ne (K := needsV ts i) (D := D2) (by omega) (by omega) hj1 hj3
              have HR2 := Lib.hid (show passF ts (ts.length - i) i D2 = passF ts (ts.length - (i + 1)) (i + 1) D2 by rw [HPass.out, hrd]; rfl)
              clear ht hs hrd hj1 hj3 HPass
              gi_wp2_with (refine ⟨trivial, (fun h => nomatch h), ?_⟩; gi_at_call 99; refine (HNeeds.out _).mono ?_; rintro e w1 ⟨rfl, hbn⟩)
              go_roundw
              case rel => exact ⟨i + 1, D2, p2, by omega, by go_num, rfl, hD2, by rw [← HR2.out]; exact HRun.out, by rw [← HR2.out]; exact HSame.out, abides_past HJ.out hj2 hbn, s0.past hbn, HT2.out.below (hbn.mono hB2), Nat.le_trans hB2 hbn.size⟩
              case measure => simp [intOf]; omega
        · have hz : ts.length - i = 0 := by omega
          have hD2' : D2 = (passF ts ts.length 0 D).2 := by rw [← HSame.out, hz]; rfl
          have HEnd := Lib.hid (show p2 ++ orderF ts (f - 1) D2 = orderV ts by have h := HRun.out; rw [hz] at h; simpa [passF] using h)
          have hDlt : D < D2 := by rw [hD2']; exact HGt.out
          clear hD2' hz
          gi_wp2
          go_roundw
          case rel => exact ⟨D2, f - 1, p2, rfl, hD2, HEnd.out, by omega, hj2, s0, HT2.out, hB2⟩
          case measure => simp [intOf]; omega

end Go.Proofs.YtbojmcopagbheaaGreatDoor
