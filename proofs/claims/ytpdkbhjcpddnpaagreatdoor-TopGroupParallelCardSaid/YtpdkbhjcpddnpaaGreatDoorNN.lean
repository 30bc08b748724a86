/- Contracts: the specification's error of sources; lowest terms, small fractions, whole numbers, remainders.
Contract: the examples of chapter 1 in the chapter's tops hold (groupAwake). -/
import Derived.Test.YtpdkbhjcpddnpaaGreatDoorNK
import Derived.Test.YtpdkbhjcpddnpaaGreatDoorN9
import Derived.Test.YtpdkbhjcpddnpaaGreatDoorNA
import Derived.Test.YtpdkbhjcpddnpaaGreatDoorNI
import Derived.Test.YtpdkbhjcpddnpaaGreatDoorNa4
import Derived.Test.YtpdkbhjcpddnpaaGreatDoorN7

section
namespace Go.Proofs.YtpdkbhjcpddnpaaGreatDoor
open Go.RowKit
attribute [local go_sem ↓] Go.wp_at_zero Go.wp_at_succ

def fsmallB (n d : Int) : Bool := withinB n (-1000000000) 1000000000 && withinB d 1 1000000000
set_option maxHeartbeats 2000000 in
set_option maxRecDepth 100000 in
theorem baseLowest_any (a b : Int) (ha : Sm 4000000000000000000 a) (hb : Sm 4000000000000000000 b) (h0 : 0 < b) (w : World) :
    Calls Tryz.prog 55 #[.int .i64 a, .int .i64 b] w fun e w' => e = .returned (.agg #[.int .i64 (loN a b), .int .i64 (loD a b)]) ∧ Below w.heap.size w w' := by
  obtain ⟨g1, g2⟩ := gcd_sm (a := a) hb (by omega)
  have d1 := tdiv_sm (b := gcdI a b) ha (by decide)
  have d2 := tdiv_sm (b := gcdI a b) hb (by decide)
  have HC := Lib.hid (refGcd_all a b (by unfold Sm at ha; unfold W64; omega) (by unfold Sm at hb ⊢; omega) (by omega))
  unfold loN loD
  generalize gcdI a b = g at *
  unfold Sm at d1 d2
  have w1 : IntKind.i64.wrap (a.tdiv g) = a.tdiv g := IntWalk.i64_in _ (by omega)
  have w2 : IntKind.i64.wrap (b.tdiv g) = b.tdiv g := IntWalk.i64_in _ (by omega)
  have hg : (g == 0) = false := by simp; omega
  have hg2 : ¬ g = 0 := by omega
  have hn : ¬ b < 0 := by omega
  clear ha hb d1 d2
  go_enter Tryz.func55, Tryz.ntmps55
  go_wp2_with (go_at_call 59; refine (HC.out _).mono ?_; rintro e w1 ⟨rfl, hb1⟩)
  have R1 : Blk w1 w.heap.size 59 #[.int .i64 0, .int .i64 0] := (Blk.newAt rfl).past hb1
  have S1 := pt (pa (o := .cells #[.int .i64 0, .int .i64 0] 59) pr) hb1
  clear hb1
  refine region_below 7 follows_mixed (by kernel_rfl) ?_
  intro C hC
  simp only [List.take_succ_cons, List.take_zero, List.drop_succ_cons, List.drop_zero]
  repeat (first
    | ((with_reducible refine quiet_plain rfl (fun K hK => ?_)); (focus (apply quiet_val; (focus (intro w' hw; obtain ⟨hcq, hfq⟩ := bcell ((hC.out _).1 hw); go_simp; (first | done | rfl))); (simp only [Act.put, List.setIfInBounds_toArray, List.set_cons_succ, List.set_cons_zero]); (with_reducible refine hK _ ?_); clear hK K)))
    | ((with_reducible refine quiet_skip ?_ ?_); (focus (first | (simp [Region.wanted, yielded]; done) | (simp [Region.wanted, yielded, undef]; done))); simp only [Act.put, List.setIfInBounds_toArray, List.set_cons_succ, List.set_cons_zero])
    | ((with_reducible refine quiet_go ?_ (fun K hK => ?_)); (focus (first | (simp [Region.wanted, yielded]; done) | (simp [Region.wanted, yielded, undef]; done))); (focus (apply quiet_val; (focus (intro w' hw; obtain ⟨hcq, hfq⟩ := bcell ((hC.out _).1 hw); go_simp; (first | done | rfl))); (simp only [Act.put, List.setIfInBounds_toArray, List.set_cons_succ, List.set_cons_zero]); (with_reducible refine hK _ ?_); clear hK K))))
  refine wpQuiet_nil ?_
  intro w1 hb1
  replace hb1 := (hC.out _).1 hb1
  clear hC C
  obtain ⟨hc1, hf1⟩ := bcell hb1
  have R2 := R1.past hb1
  have S2 := pt S1 hb1
  have c0 := R2.cellAt 0 rfl
  have c1 := R2.cellAt 1 rfl
  have f0 := R2.frozen 0
  have f1 := R2.frozen 1
  have rl2 := R2.lt
  clear hc1 hf1 hb1
  go_wp2
  exact bodyPost_ret (v := .agg #[.int .i64 (a.tdiv g), .int .i64 (b.tdiv g)]) (by simp [results, Tryz.results55, go_sem, c0, c1]) rfl ⟨rfl, ps (ps S2 (by simp)) (by simp)⟩

set_option maxHeartbeats 8000000 in
set_option maxRecDepth 100000 in
theorem refSourcesErr_any (B : Nat) (ls : List Src) (A : Option Addr) (c : Nat) (w : World) (hr : SrcsIn B w A ls) (hB : B ≤ w.heap.size) (h64 : ∀ s ∈ ls, Src64 s) :
    Calls Tryz.prog 11 #[.slice A ls.length c] w fun r w' => r = .returned (.int .i64 (sourcesE ls)) ∧ Below w.heap.size w w' := by
  rcases Nat.eq_zero_or_pos ls.length with h0 | h0
  · have e : sourcesE ls = 10 := by
      have : ls = [] := List.eq_nil_of_length_eq_zero h0
      subst this; rfl
    rw [e]
    clear hr h64 e
    generalize ls.length = n at *
    subst h0
    go_enter Tryz.func11, Tryz.ntmps11
    go_wp2
    go_ret
    exact ⟨rfl, pr⟩
  · have n0 : ¬ (ls.length : Int) = 0 := by omega
    have n1 : ((ls.length : Int) == 0) = false := beq_eq_false_iff_ne.2 n0
    by_cases h4 : 4 < ls.length
    · have e : sourcesE ls = 8 := by
        unfold sourcesE countE
        rw [decide_eq_true (show 0 < ls.length by omega), decide_eq_false (show ¬ ls.length ≤ 4 by omega)]
        rfl
      rw [e]
      have n2 : (4 : Int) < (ls.length : Int) := by omega
      clear hr h64 e
      generalize ls.length = n at *
      go_enter Tryz.func11, Tryz.ntmps11
      go_wp2
      go_ret
      exact ⟨rfl, pr⟩
    · have e : sourcesE ls = srcsE ls := by
        unfold sourcesE
        rw [if_pos (countE_ok.2 ⟨by omega, by omega⟩)]
      rw [e]
      have n2 : ¬ (4 : Int) < (ls.length : Int) := by omega
      have n3 : ¬ 4 < ls.length := h4
      have n4 : ls.length ≤ 4 := by omega
      have HX := Lib.hid (fun W (hb : Below w.heap.size w W) => ((hr.more hB).below hb).more hb.size)
      have H64 := Lib.hid h64
      generalize hRv : srcsE ls = R
      have HRv := Lib.hid hRv
      clear hr h64 hB e hRv h4
      go_enter Tryz.func11, Tryz.ntmps11
      go_wp2
      go_loopw [3] (fun iv wr => ∃ i : Nat, iv = .int .i64 (i : Int) ∧ i ≤ ls.length ∧ R = srcsE (ls.drop i) ∧ Below w.heap.size w wr) (fun iv _ => ls.length - (intOf iv).toNat)
      case atStart => exact ⟨0, rfl, Nat.zero_le _, HRv.out.symm, pr⟩
      case round =>
        as_aux_lemma =>
        obtain ⟨i, rfl, hi, hs, hq⟩ := hrel
        have HQ := Lib.hid hq
        have HS := Lib.hid hs
        have i0 := src_cast i
        clear hq hs
        by_cases hlt : i < ls.length
        · have i1 := src_lt hlt
          have i9 : (i : Int) ≤ 4 := by omega
          obtain ⟨b, off, hA, hb, hct⟩ := (HX.out _ HQ.out).at_ hlt
          subst hA
          obtain ⟨u0, u1, u2, u3⟩ := hct i hlt
          have hs64 := H64.out (ls.getD i default) (cur_mem hlt)
          have HN := Lib.hid (srcsE_at hlt)
          have HI := Lib.hid hlt
          clear hct
          generalize ls.getD i default = s at *
          obtain ⟨sp, sq, sn, sd⟩ := s
          have u0 : wr.cell? ⟨b, off + i * 4, none⟩ = some (.int .i64 sp) := u0
          have u1 : wr.cell? ⟨b, off + i * 4 + 1, none⟩ = some (.int .i64 sq) := u1
          have u2 : wr.cell? ⟨b, off + i * 4 + 2, none⟩ = some (.int .i64 sn) := u2
          have u3 : wr.cell? ⟨b, off + i * 4 + 3, none⟩ = some (.int .i64 sd) := u3
          have HP := Lib.hid (fun w' => refPhasorErr_any sp sq w')
          have HL := Lib.hid (fun w' => refIsLowest_all sn sd hs64.2.2.1 hs64.2.2.2 w')
          have HW := Lib.hid (fun w' => refWithin_any sn 1 100 w')
          have HEs := Lib.hid (show srcE ⟨sp, sq, sn, sd⟩ = firstV [phE sp sq, unlessV (lowestB sn sd) 3, unlessV (withinB sn 1 100 && decide (sd ≤ 100)) 2] from rfl)
          have HCl := Lib.hid (show ∀ W, Below wr.heap.size wr W → W.cell? ⟨b, off + i * 4 + 2, none⟩ = some (.int .i64 sn) ∧ W.cell? ⟨b, off + i * 4 + 3, none⟩ = some (.int .i64 sd) ∧ b < W.heap.size from fun W hW => ⟨((bcell hW).1 _ _ hb).trans u2, ((bcell hW).1 _ _ hb).trans u3, Nat.lt_of_lt_of_le hb hW.size⟩)
          clear hs64
          generalize srcE ⟨sp, sq, sn, sd⟩ = E at *
          generalize phE sp sq = E1 at *
          generalize lowestB sn sd = E2 at *
          generalize withinB sn 1 100 = E3 at *
          have HD := Lib.hid (fun h : ¬ E = 0 => show R = E by rw [HS.out, HN.out, if_neg h])
          have HG := Lib.hid (fun h : E = 0 => show R = srcsE (ls.drop (i + 1)) by rw [HS.out, HN.out, if_pos h])
          clear HN HS HRv hb
          by_cases h1 : E1 = 0
          · subst h1
            cases E2 with
            | false =>
              have HR := Lib.hid (show R = 3 from (HD.out (by rw [HEs.out]; show ¬ (3 : Int) = 0; decide)).trans (by rw [HEs.out]; rfl))
              go_wp2_with (first
                | (go_at_call 12; (with_reducible refine (HP.out _).mono ?_); rintro e w1 ⟨rfl, hb1⟩; obtain ⟨v2, v3, vl⟩ := HCl.out _ hb1; have HQ1 := Lib.hid (pt HQ.out hb1); clear hb1 u0 u1 u2 u3)
                | (go_at_call 21; (with_reducible refine (HL.out _).mono ?_); rintro e w2 ⟨rfl, hb2⟩))
              go_ret
              exact ⟨by first | (rw [HR.out]; done) | (rw [HR.out]; rfl), pt HQ1.out hb2⟩
            | true =>
              cases E3 with
              | false =>
                have HR := Lib.hid (show R = 2 from (HD.out (by rw [HEs.out]; show ¬ (2 : Int) = 0; decide)).trans (by rw [HEs.out]; rfl))
                go_wp2_with (first
                  | (go_at_call 12; (with_reducible refine (HP.out _).mono ?_); rintro e w1 ⟨rfl, hb1⟩; obtain ⟨v2, v3, vl⟩ := HCl.out _ hb1; have HQ1 := Lib.hid (pt HQ.out hb1); have HB1 := Lib.hid hb1; clear hb1 u0 u1 u2 u3)
                  | (go_at_call 21; (with_reducible refine (HL.out _).mono ?_); rintro e w2 ⟨rfl, hb2⟩; clear v2 v3 vl; obtain ⟨v2, v3, vl⟩ := HCl.out _ (pt HB1.out hb2); have HQ2 := Lib.hid (pt HQ1.out hb2); clear hb2)
                  | (go_at_call 20; (with_reducible refine (HW.out _).mono ?_); rintro e w' ⟨rfl, rfl⟩))
                go_ret
                exact ⟨by first | (rw [HR.out]; done) | (rw [HR.out]; rfl), HQ2.out⟩
              | true =>
                by_cases hd : sd ≤ 100
                · have hd2 : ¬ 100 < sd := by omega
                  have HR := Lib.hid (HG.out (by rw [HEs.out, decide_eq_true hd]; rfl))
                  go_wp2_with (first
                    | (go_at_call 12; (with_reducible refine (HP.out _).mono ?_); rintro e w1 ⟨rfl, hb1⟩; obtain ⟨v2, v3, vl⟩ := HCl.out _ hb1; have HQ1 := Lib.hid (pt HQ.out hb1); have HB1 := Lib.hid hb1; clear hb1 u0 u1 u2 u3)
                    | (go_at_call 21; (with_reducible refine (HL.out _).mono ?_); rintro e w2 ⟨rfl, hb2⟩; clear v2 v3 vl; obtain ⟨v2, v3, vl⟩ := HCl.out _ (pt HB1.out hb2); have HQ2 := Lib.hid (pt HQ1.out hb2); clear hb2)
                    | (go_at_call 20; (with_reducible refine (HW.out _).mono ?_); rintro e w' ⟨rfl, rfl⟩))
                  go_roundw
                  case rel => exact ⟨i + 1, src_succ _, Nat.succ_le_of_lt HI.out, HR.out, HQ2.out⟩
                  case measure => exact src_meas HI.out
                · have hd2 : 100 < sd := by omega
                  have HR := Lib.hid (show R = 2 from (HD.out (by rw [HEs.out, decide_eq_false hd]; show ¬ (2 : Int) = 0; decide)).trans (by rw [HEs.out, decide_eq_false hd]; rfl))
                  go_wp2_with (first
                    | (go_at_call 12; (with_reducible refine (HP.out _).mono ?_); rintro e w1 ⟨rfl, hb1⟩; obtain ⟨v2, v3, vl⟩ := HCl.out _ hb1; have HQ1 := Lib.hid (pt HQ.out hb1); have HB1 := Lib.hid hb1; clear hb1 u0 u1 u2 u3)
                    | (go_at_call 21; (with_reducible refine (HL.out _).mono ?_); rintro e w2 ⟨rfl, hb2⟩; clear v2 v3 vl; obtain ⟨v2, v3, vl⟩ := HCl.out _ (pt HB1.out hb2); have HQ2 := Lib.hid (pt HQ1.out hb2); clear hb2)
                    | (go_at_call 20; (with_reducible refine (HW.out _).mono ?_); rintro e w' ⟨rfl, rfl⟩))
                  go_ret
                  exact ⟨by first | (rw [HR.out]; done) | (rw [HR.out]; rfl), HQ2.out⟩
          · have h1b : (E1 == 0) = false := beq_eq_false_iff_ne.2 h1
            have h1c : (E1 != 0) = true := by simpa using h1
            have hEE : E = E1 := by rw [HEs.out]; simp [firstV, h1]
            have HR := Lib.hid (show R = E1 by rw [HD.out (by rw [hEE]; exact h1), hEE])
            clear hEE
            go_wp2_with (go_at_call 12; (with_reducible refine (HP.out _).mono ?_); rintro e w1 ⟨rfl, hb1⟩)
            go_ret
            exact ⟨by first | (rw [HR.out]; done) | (rw [HR.out]; rfl), pt HQ.out hb1⟩
        · obtain rfl : i = ls.length := Nat.le_antisymm hi (Nat.le_of_not_lt hlt)
          have HR := Lib.hid (show R = 0 by rw [HS.out, List.drop_length]; rfl)
          go_wp2
          go_ret
          exact ⟨by first | (rw [HR.out]; done) | (rw [HR.out]; rfl), HQ.out⟩

end Go.Proofs.YtpdkbhjcpddnpaaGreatDoor
end

section
namespace Go.Proofs.YtpdkbhjcpddnpaaGreatDoor
open Go.RowKit
attribute [local go_sem ↓] Go.wp_at_zero Go.wp_at_succ

theorem wholeM_any (n : Int) (w : World) : Calls Tryz.prog 33 #[.int .i64 n] w fun e w' => e = .returned (.agg #[.int .i64 n, .int .i64 1]) ∧ Below w.heap.size w w' := by
  go_enter Tryz.func33, Tryz.ntmps33
  go_wp2
  exact bodyPost_ret (v := .agg #[.int .i64 n, .int .i64 1]) (by simp [results, Tryz.results33, go_sem]) rfl ⟨rfl, by repeat (first | exact pr | refine pa ?_ | refine ps ?_ (by simp))⟩

def exU : List UInt8 := [100, 43, 48, 47, 49, 48, 32, 121, 43, 48, 47, 49, 48, 32, 48]
def exS : List Src := [⟨12, 0, 1, 1⟩, ⟨9, 0, 1, 1⟩]
theorem exU_parse : unitOut (parseU exU) = (unitV ⟨1, 10, 0, false⟩ ⟨0, 10, 0, false⟩ 0, 0) := by
  have h : parseU exU = some (⟨1, 10, 0, false⟩, ⟨0, 10, 0, false⟩, 0) := by decide +kernel
  rw [h]
  unfold unitOut
  dsimp only
  rw [if_pos (by decide)]
theorem exS_64 : ∀ s ∈ exS, Src64 s := by
  intro s hs
  unfold exS at hs
  rcases List.mem_cons.1 hs with rfl | hs
  · unfold Src64 W64; decide
  · rcases List.mem_cons.1 hs with rfl | hs
    · unfold Src64 W64; decide
    · cases hs
theorem exS_load : loadE exS 0 0 = 0 := by decide +kernel
theorem exS_small : allSmall exS 0 0 := by
  unfold allSmall exS
  decide +kernel
theorem exS_cur : curCs exS 0 0 = [⟨3, 2, 0, 1⟩, ⟨-3, 2, 0, 1⟩] := by
  have h1 : curC exS 0 0 ⟨12, 0, 1, 1⟩ = ⟨3, 2, 0, 1⟩ := by
    have a : (curR exS Src.p 0 ⟨12, 0, 1, 1⟩).num = 3 := by decide +kernel
    have b : ((curR exS Src.p 0 ⟨12, 0, 1, 1⟩).den : Int) = 2 := by decide +kernel
    have c : (curR exS Src.q 0 ⟨12, 0, 1, 1⟩).num = 0 := by decide +kernel
    have d : ((curR exS Src.q 0 ⟨12, 0, 1, 1⟩).den : Int) = 1 := by decide +kernel
    unfold curC
    rw [a, b, c, d]
  have h2 : curC exS 0 0 ⟨9, 0, 1, 1⟩ = ⟨-3, 2, 0, 1⟩ := by
    have a : (curR exS Src.p 0 ⟨9, 0, 1, 1⟩).num = -3 := by decide +kernel
    have b : ((curR exS Src.p 0 ⟨9, 0, 1, 1⟩).den : Int) = 2 := by decide +kernel
    have c : (curR exS Src.q 0 ⟨9, 0, 1, 1⟩).num = 0 := by decide +kernel
    have d : ((curR exS Src.q 0 ⟨9, 0, 1, 1⟩).den : Int) = 1 := by decide +kernel
    unfold curC
    rw [a, b, c, d]
  show [curC exS 0 0 ⟨12, 0, 1, 1⟩, curC exS 0 0 ⟨9, 0, 1, 1⟩] = _
  rw [h1, h2]

theorem exParse (w : World) (hS : StrIn w) (hP : PatIn w) : Calls Tryz.prog 29 #[.string ⟨#[100, 43, 48, 47, 49, 48, 32, 121, 43, 48, 47, 49, 48, 32, 48]⟩] w fun e w' => e = .returned (.tuple #[.agg #[.int .i64 1, .int .i64 10, .int .i64 0, .bool false, .int .i64 0, .int .i64 10, .int .i64 0, .bool false, .int .i64 0], .int .i64 0]) ∧ Below w.heap.size w w' := by
  have h := ParseUnit_any exU (by decide) w hS hP
  rw [exU_parse] at h
  exact h
theorem exCur (v w : World) (hv : v.alloc (.cells #[.int .i64 12, .int .i64 0, .int .i64 1, .int .i64 1, .int .i64 9, .int .i64 0, .int .i64 1, .int .i64 1] 87) = w) : Calls Tryz.prog 7 #[.slice (some ⟨v.heap.size, 0, none⟩) 2 2, .agg #[.int .i64 0, .int .i64 0]] w fun e w' => ∃ (b o c : Nat), e = .returned (.tuple #[.slice (some ⟨b, o, none⟩) 2 c, .int .i64 0]) ∧ b < w'.heap.size ∧ w'.cell? ⟨b, o, none⟩ = some (.int .i64 3) ∧ w'.cell? ⟨b, o + 1, none⟩ = some (.int .i64 2) ∧ 2 ≤ c ∧ Below w.heap.size w w' := by
  subst hv
  have hc : CellsIn (v.alloc (.cells #[.int .i64 12, .int .i64 0, .int .i64 1, .int .i64 1, .int .i64 9, .int .i64 0, .int .i64 1, .int .i64 1] 87)).heap.size (v.alloc (.cells #[.int .i64 12, .int .i64 0, .int .i64 1, .int .i64 1, .int .i64 9, .int .i64 0, .int .i64 1, .int .i64 1] 87)) (some ⟨v.heap.size, 0, none⟩) (srcCells exS) :=
    cellsIn_of_own (base := v.heap.size) (e := 87) (size := 4) (n := 2) (c := 2) (World.ownsRow_lit v #[.int .i64 12, .int .i64 0, .int .i64 1, .int .i64 1, .int .i64 9, .int .i64 0, .int .i64 1, .int .i64 1] 2 (Nat.le_refl _) (by decide) rfl)
  have h := CurrentsOf_ok _ exS _ 2 0 0 _ hc.srcs (Nat.le_refl _) exS_64 exS_load
  refine h.mono ?_
  rintro e w' (⟨_, A, c, rfl, hcu, hl, hb⟩ | ⟨hn, _⟩)
  · rw [exS_cur] at hcu
    rcases hcu with h0 | ⟨b, o, rfl, hb1, hcell⟩
    · exact absurd h0 (by decide)
    · exact ⟨b, o, c, rfl, hb1, hcell 0 (by decide), hcell 1 (by decide), hl, hb⟩
  · exact absurd exS_small hn

set_option maxHeartbeats 8000000 in
set_option maxRecDepth 100000 in
theorem topAwake_any (w : World) (hT : TwIn w) (hP : PatIn w) (hS : StrIn w) :
    Calls Tryz.prog 16 #[] w fun e w' => e = .returned (.bool true) ∧ Below w.heap.size w w' := by
  have HT := Lib.hid (fun w' (h : Below w.heap.size w w') => hT.below h)
  have HP := Lib.hid (fun w' (h : Below w.heap.size w w') => hP.below h)
  have HL := Lib.hid (baseLowest_any 3 2 ⟨by decide, by decide⟩ ⟨by decide, by decide⟩ (by decide))
  rw [show loN 3 2 = 3 by decide +kernel, show loD 3 2 = 2 by decide +kernel] at HL
  have HPa := Lib.hid (exParse w hS hP)
  clear hT hP hS
  go_enter Tryz.func16, Tryz.ntmps16
  go_wp2_with (first
    | (go_at_call 29; refine HPa.out.mono ?_; rintro e w1 ⟨rfl, hb1⟩; have S1 := hb1)
    | (go_at_call 39; refine (NameOf_c _ (HT.out _ (pa S1)) (HP.out _ (pa S1))).mono ?_; rintro e w5 ⟨rfl, hb5⟩; have S5 := pt (pa S1) hb5)
    | (go_at_call 33; (first | (have tok1 := S5; (with_reducible refine (wholeM_any 1 _).mono ?_); rintro e w6 ⟨rfl, hb6⟩; have S6 := pt S5 hb6; clear S5 tok1) | ((with_reducible refine (wholeM_any 1 _).mono ?_); rintro e w7 ⟨rfl, hb7⟩; have S7 := pt S6 hb7)))
    | (go_at_call 7; refine (exCur w7 _ rfl).mono ?_; rintro e w8 ⟨b, o, c, rfl, hb, o0, o1, hc, hb8⟩; have S8 := pt (pa S7) hb8))
  refine region_below 27 follows_mixed (by kernel_rfl) ?_
  intro C hC
  simp only [List.take_succ_cons, List.take_zero, List.drop_succ_cons, List.drop_zero]
  repeat (first
    | ((with_reducible refine quiet_plain rfl (fun K hK => ?_)); (focus (apply quiet_val; (focus (intro w' hw; obtain ⟨hcq, hfq⟩ := bcell ((hC.out _).1 hw); go_simp; (first | done | rfl | (with_reducible exact call_below hC hw (HL.out _))))); (simp only [Act.put, List.setIfInBounds_toArray, List.set_cons_succ, List.set_cons_zero]); (with_reducible refine hK _ ?_); clear hK K)))
    | ((with_reducible refine quiet_skip ?_ ?_); (focus (first | (simp [Region.wanted, yielded]; done) | (simp [Region.wanted, yielded, undef]; done))); simp only [Act.put, List.setIfInBounds_toArray, List.set_cons_succ, List.set_cons_zero])
    | ((with_reducible refine quiet_go ?_ (fun K hK => ?_)); (focus (first | (simp [Region.wanted, yielded]; done) | (simp [Region.wanted, yielded, undef]; done))); (focus (apply quiet_val; (focus (intro w' hw; obtain ⟨hcq, hfq⟩ := bcell ((hC.out _).1 hw); go_simp; (first | done | rfl | (with_reducible exact call_below hC hw (HL.out _))))); (simp only [Act.put, List.setIfInBounds_toArray, List.set_cons_succ, List.set_cons_zero]); (with_reducible refine hK _ ?_); clear hK K))))
  refine wpQuiet_nil ?_
  intro w1 hb1
  replace hb1 := (hC.out _).1 hb1
  clear hC C
  obtain ⟨hc1, hf1⟩ := bcell hb1
  go_wp2
  go_ret
  exact ⟨rfl, pt S8 hb1⟩

end Go.Proofs.YtpdkbhjcpddnpaaGreatDoor
end
