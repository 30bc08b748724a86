/- Contracts: the specification's error of sources; lowest terms, small fractions, whole numbers, remainders. -/
import Derived.Test.YtpdkbhjcpddnpaaGreatDoorOc5
import Derived.Test.YtpdkbhjcpddnpaaGreatDoorOd8
import Derived.Test.YtpdkbhjcpddnpaaGreatDoorOd2

section
namespace Go.Proofs.YtpdkbhjcpddnpaaGreatDoor
open Go.RowKit
attribute [local go_sem ↓] Go.wp_at_zero Go.wp_at_succ

set_option maxHeartbeats 1000000 in
theorem whole_any (n : Int) (w : World) :
    Calls Tryz.prog 33 #[.int .i64 n] w fun e w' => e = .returned (.agg #[.int .i64 n, .int .i64 1]) ∧ Below w.heap.size w w' := by
  go_enter Tryz.func33, Tryz.ntmps33
  go_wp2_with ((with_reducible refine store_blk (T := 59) (x := .tmp 2) (y := .tmp 4) (vs := #[.int .i64 n, .int .i64 1]) (show Blk _ w.heap.size _ #[.int .i64 0, .int .i64 0] from Blk.newAt rfl) ?_ ?_ ?_ ?_ ?_ ?_); (focus rfl); (focus exact (show (Tryz.prog.info? 59).map (·.size) = some 2 by kernel_rfl)); (focus (simp [Value.oneCell']; done)); (focus rfl); (focus rfl); intro WF RF PF)
  have g0 := RF.cellAt 0 rfl
  have g1 := RF.cellAt 1 rfl
  exact bodyPost_ret (v := .agg #[.int .i64 n, .int .i64 1]) (by simp [results, Tryz.results33, go_sem, g0, g1]) rfl ⟨rfl, pp (pa (pr (w := w))) PF (Nat.le_refl _)⟩

def fsmallB (n d : Int) : Bool := withinB n (-1000000000) 1000000000 && withinB d 1 1000000000
set_option maxHeartbeats 1000000 in
theorem isSmall_any (n d : Int) (w : World) :
    Calls Tryz.prog 50 #[.agg #[.int .i64 n, .int .i64 d]] w fun e w' => e = .returned (.bool (fsmallB n d)) ∧ Below w.heap.size w w' := by
  have H1 := Lib.hid (fun w => refWithin_any n (-1000000000) 1000000000 w)
  have H2 := Lib.hid (fun w => refWithin_any d 1 1000000000 w)
  unfold fsmallB
  generalize withinB n (-1000000000) 1000000000 = a at *
  generalize withinB d 1 1000000000 = b at *
  cases a
  all_goals
    simp only [Bool.false_and, Bool.true_and]
    go_enter Tryz.func50, Tryz.ntmps50
    go_wp2_with (go_at_call 20; (first | (with_reducible refine (H1.out _).mono ?_) | (with_reducible refine (H2.out _).mono ?_)); rintro e w' ⟨rfl, rfl⟩)
    go_ret
    exact ⟨rfl, pa pr⟩

set_option maxHeartbeats 8000000 in
set_option maxRecDepth 100000 in
theorem refSourcesErr_any (B : Nat) (ls : List Src) (A : Option Addr) (c : Nat) (w : World) (hr : SrcsIn B w A ls) (hB : B ≤ w.heap.size) (h64 : ∀ s ∈ ls, Src64 s) :
    Calls Tryz.prog 11 #[.slice A ls.length c] w fun r w' => r = .returned (.int .i64 (sourcesE ls)) ∧ Below w.heap.size w w' := by
  rcases Nat.eq_zero_or_pos ls.length with h0 | h0
  · have e : sourcesE ls = 10 := by
      have : ls = [] := List.eq_nil_of_length_eq_zero h0
      subst this; rfl
    rw [e]
    clear hr h64 e
    generalize ls.length = n at *
    subst h0
    go_enter Tryz.func11, Tryz.ntmps11
    go_wp2
    go_ret
    exact ⟨rfl, pr⟩
  · have n0 : ¬ (ls.length : Int) = 0 := by omega
    have n1 : ((ls.length : Int) == 0) = false := beq_eq_false_iff_ne.2 n0
    by_cases h4 : 4 < ls.length
    · have e : sourcesE ls = 8 := by
        unfold sourcesE countE
        rw [decide_eq_true (show 0 < ls.length by omega), decide_eq_false (show ¬ ls.length ≤ 4 by omega)]
        rfl
      rw [e]
      have n2 : (4 : Int) < (ls.length : Int) := by omega
      clear hr h64 e
      generalize ls.length = n at *
      go_enter Tryz.func11, Tryz.ntmps11
      go_wp2
      go_ret
      exact ⟨rfl, pr⟩
    · have e : sourcesE ls = srcsE ls := by
        unfold sourcesE
        rw [if_pos (countE_ok.2 ⟨by omega, by omega⟩)]
      rw [e]
      have n2 : ¬ (4 : Int) < (ls.length : Int) := by omega
      have n3 : ¬ 4 < ls.length := h4
      have n4 : ls.length ≤ 4 := by omega
      have HX := Lib.hid (fun W (hb : Below w.heap.size w W) => ((hr.more hB).below hb).more hb.size)
      have H64 := Lib.hid h64
      generalize hRv : srcsE ls = R
      have HRv := Lib.hid hRv
      clear hr h64 hB e hRv h4
      go_enter Tryz.func11, Tryz.ntmps11
      go_wp2
      go_loopw [3] (fun iv wr => ∃ i : Nat, iv = .int .i64 (i : Int) ∧ i ≤ ls.length ∧ R = srcsE (ls.drop i) ∧ Below w.heap.size w wr) (fun iv _ => ls.length - (intOf iv).toNat)
      case atStart => exact ⟨0, rfl, Nat.zero_le _, HRv.out.symm, pr⟩
      case round =>
        as_aux_lemma =>
        obtain ⟨i, rfl, hi, hs, hq⟩ := hrel
        have HQ := Lib.hid hq
        have HS := Lib.hid hs
        have i0 := src_cast i
        clear hq hs
        by_cases hlt : i < ls.length
        · have i1 := src_lt hlt
          have i9 : (i : Int) ≤ 4 := by omega
          obtain ⟨b, off, hA, hb, hct⟩ := (HX.out _ HQ.out).at_ hlt
          subst hA
          obtain ⟨u0, u1, u2, u3⟩ := hct i hlt
          have hs64 := H64.out (ls.getD i default) (cur_mem hlt)
          have HN := Lib.hid (srcsE_at hlt)
          have HI := Lib.hid hlt
          clear hct
          generalize ls.getD i default = s at *
          obtain ⟨sp, sq, sn, sd⟩ := s
          have u0 : wr.cell? ⟨b, off + i * 4, none⟩ = some (.int .i64 sp) := u0
          have u1 : wr.cell? ⟨b, off + i * 4 + 1, none⟩ = some (.int .i64 sq) := u1
          have u2 : wr.cell? ⟨b, off + i * 4 + 2, none⟩ = some (.int .i64 sn) := u2
          have u3 : wr.cell? ⟨b, off + i * 4 + 3, none⟩ = some (.int .i64 sd) := u3
          have HP := Lib.hid (fun w' => refPhasorErr_any sp sq w')
          have HL := Lib.hid (fun w' => refIsLowest_all sn sd hs64.2.2.1 hs64.2.2.2 w')
          have HW := Lib.hid (fun w' => refWithin_any sn 1 100 w')
          have HEs := Lib.hid (show srcE ⟨sp, sq, sn, sd⟩ = firstV [phE sp sq, unlessV (lowestB sn sd) 3, unlessV (withinB sn 1 100 && decide (sd ≤ 100)) 2] from rfl)
          have HCl := Lib.hid (show ∀ W, Below wr.heap.size wr W → W.cell? ⟨b, off + i * 4 + 2, none⟩ = some (.int .i64 sn) ∧ W.cell? ⟨b, off + i * 4 + 3, none⟩ = some (.int .i64 sd) ∧ b < W.heap.size from fun W hW => ⟨((bcell hW).1 _ _ hb).trans u2, ((bcell hW).1 _ _ hb).trans u3, Nat.lt_of_lt_of_le hb hW.size⟩)
          clear hs64
          generalize srcE ⟨sp, sq, sn, sd⟩ = E at *
          generalize phE sp sq = E1 at *
          generalize lowestB sn sd = E2 at *
          generalize withinB sn 1 100 = E3 at *
          have HD := Lib.hid (fun h : ¬ E = 0 => show R = E by rw [HS.out, HN.out, if_neg h])
          have HG := Lib.hid (fun h : E = 0 => show R = srcsE (ls.drop (i + 1)) by rw [HS.out, HN.out, if_pos h])
          clear HN HS HRv hb
          by_cases h1 : E1 = 0
          · subst h1
            cases E2 with
            | false =>
              have HR := Lib.hid (show R = 3 from (HD.out (by rw [HEs.out]; show ¬ (3 : Int) = 0; decide)).trans (by rw [HEs.out]; rfl))
              go_wp2_with (first
                | (go_at_call 12; (with_reducible refine (HP.out _).mono ?_); rintro e w1 ⟨rfl, hb1⟩; obtain ⟨v2, v3, vl⟩ := HCl.out _ hb1; have HQ1 := Lib.hid (pt HQ.out hb1); clear hb1 u0 u1 u2 u3)
                | (go_at_call 21; (with_reducible refine (HL.out _).mono ?_); rintro e w2 ⟨rfl, hb2⟩))
              go_ret
              exact ⟨by first | (rw [HR.out]; done) | (rw [HR.out]; rfl), pt HQ1.out hb2⟩
            | true =>
              cases E3 with
              | false =>
                have HR := Lib.hid (show R = 2 from (HD.out (by rw [HEs.out]; show ¬ (2 : Int) = 0; decide)).trans (by rw [HEs.out]; rfl))
                go_wp2_with (first
                  | (go_at_call 12; (with_reducible refine (HP.out _).mono ?_); rintro e w1 ⟨rfl, hb1⟩; obtain ⟨v2, v3, vl⟩ := HCl.out _ hb1; have HQ1 := Lib.hid (pt HQ.out hb1); have HB1 := Lib.hid hb1; clear hb1 u0 u1 u2 u3)
                  | (go_at_call 21; (with_reducible refine (HL.out _).mono ?_); rintro e w2 ⟨rfl, hb2⟩; clear v2 v3 vl; obtain ⟨v2, v3, vl⟩ := HCl.out _ (pt HB1.out hb2); have HQ2 := Lib.hid (pt HQ1.out hb2); clear hb2)
                  | (go_at_call 20; (with_reducible refine (HW.out _).mono ?_); rintro e w' ⟨rfl, rfl⟩))
                go_ret
                exact ⟨by first | (rw [HR.out]; done) | (rw [HR.out]; rfl), HQ2.out⟩
              | true =>
                by_cases hd : sd ≤ 100
                · have hd2 : ¬ 100 < sd := by omega
                  have HR := Lib.hid (HG.out (by rw [HEs.out, decide_eq_true hd]; rfl))
                  go_wp2_with (first
                    | (go_at_call 12; (with_reducible refine (HP.out _).mono ?_); rintro e w1 ⟨rfl, hb1⟩; obtain ⟨v2, v3, vl⟩ := HCl.out _ hb1; have HQ1 := Lib.hid (pt HQ.out hb1); have HB1 := Lib.hid hb1; clear hb1 u0 u1 u2 u3)
                    | (go_at_call 21; (with_reducible refine (HL.out _).mono ?_); rintro e w2 ⟨rfl, hb2⟩; clear v2 v3 vl; obtain ⟨v2, v3, vl⟩ := HCl.out _ (pt HB1.out hb2); have HQ2 := Lib.hid (pt HQ1.out hb2); clear hb2)
                    | (go_at_call 20; (with_reducible refine (HW.out _).mono ?_); rintro e w' ⟨rfl, rfl⟩))
                  go_roundw
                  case rel => exact ⟨i + 1, src_succ _, Nat.succ_le_of_lt HI.out, HR.out, HQ2.out⟩
                  case measure => exact src_meas HI.out
                · have hd2 : 100 < sd := by omega
                  have HR := Lib.hid (show R = 2 from (HD.out (by rw [HEs.out, decide_eq_false hd]; show ¬ (2 : Int) = 0; decide)).trans (by rw [HEs.out, decide_eq_false hd]; rfl))
                  go_wp2_with (first
                    | (go_at_call 12; (with_reducible refine (HP.out _).mono ?_); rintro e w1 ⟨rfl, hb1⟩; obtain ⟨v2, v3, vl⟩ := HCl.out _ hb1; have HQ1 := Lib.hid (pt HQ.out hb1); have HB1 := Lib.hid hb1; clear hb1 u0 u1 u2 u3)
                    | (go_at_call 21; (with_reducible refine (HL.out _).mono ?_); rintro e w2 ⟨rfl, hb2⟩; clear v2 v3 vl; obtain ⟨v2, v3, vl⟩ := HCl.out _ (pt HB1.out hb2); have HQ2 := Lib.hid (pt HQ1.out hb2); clear hb2)
                    | (go_at_call 20; (with_reducible refine (HW.out _).mono ?_); rintro e w' ⟨rfl, rfl⟩))
                  go_ret
                  exact ⟨by first | (rw [HR.out]; done) | (rw [HR.out]; rfl), HQ2.out⟩
          · have h1b : (E1 == 0) = false := beq_eq_false_iff_ne.2 h1
            have h1c : (E1 != 0) = true := by simpa using h1
            have hEE : E = E1 := by rw [HEs.out]; simp [firstV, h1]
            have HR := Lib.hid (show R = E1 by rw [HD.out (by rw [hEE]; exact h1), hEE])
            clear hEE
            go_wp2_with (go_at_call 12; (with_reducible refine (HP.out _).mono ?_); rintro e w1 ⟨rfl, hb1⟩)
            go_ret
            exact ⟨by first | (rw [HR.out]; done) | (rw [HR.out]; rfl), pt HQ.out hb1⟩
        · obtain rfl : i = ls.length := Nat.le_antisymm hi (Nat.le_of_not_lt hlt)
          have HR := Lib.hid (show R = 0 by rw [HS.out, List.drop_length]; rfl)
          go_wp2
          go_ret
          exact ⟨by first | (rw [HR.out]; done) | (rw [HR.out]; rfl), HQ.out⟩

end Go.Proofs.YtpdkbhjcpddnpaaGreatDoor
end
