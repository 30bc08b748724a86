/- Contracts: CheckNet, netErr (package field). -/
import Derived.Test.YtapegimghfflhaaMi

section
namespace Go.Proofs.Ytapegimghfflhaa
open Go.RowKit

theorem withinFd_w (x lo hi : Int) (v : Bool) (h : withinB x lo hi = v) (w : World) :
    Calls Try.prog 31 #[.int .i64 x, .int .i64 lo, .int .i64 hi] w fun r w' => r = .returned (.bool v) ∧ w = w' := by
  subst h
  exact withinFd_any _ _ _ _
theorem isNode_any (N k : Int) (hN : 1 ≤ N ∧ N ≤ 5) (A : Option Addr) (n c : Nat) (v : Bool) (hv : isNodeB N k = v) (w : World) :
    Calls Try.prog 63 #[.agg #[.int .i64 N, .slice A n c], .int .i64 k] w fun r w' => r = .returned (.bool v) ∧ Below w.heap.size w w' := by
  have HV := Lib.hid (show withinB k 0 (N - 1) = v from hv)
  have w1 : wrap64 (N - 1) = N - 1 := w64 (by omega)
  have w1i : IntKind.i64.wrap (N - 1) = N - 1 := IntWalk.i64_in _ (by omega)
  clear hv
  go_enter Try.func63, Try.ntmps63
  go_wp2_with (go_at_call 31; (with_reducible refine (withinFd_w _ _ _ _ HV.out _).mono ?_); rintro e w' ⟨rfl, rfl⟩)
  go_ret
  exact ⟨rfl, pa pr⟩
theorem isReluctance_any (n : Int) (v : Bool) (hv : withinB n 1 20 = v) (w : World) :
    Calls Try.prog 57 #[.int .i64 n] w fun r w' => r = .returned (.bool v) ∧ w = w' := by
  have HV := Lib.hid hv
  clear hv
  go_enter Try.func57, Try.ntmps57
  go_wp2_with (go_at_call 31; (with_reducible refine (withinFd_w _ _ _ _ HV.out _).mono ?_); rintro e w' ⟨rfl, rfl⟩)
  go_ret
  exact ⟨rfl, rfl⟩
theorem isTurns_any (n : Int) (v : Bool) (hv : withinB n (-50) 50 = v) (w : World) :
    Calls Try.prog 59 #[.int .i64 n] w fun r w' => r = .returned (.bool v) ∧ w = w' := by
  subst hv
  go_enter Try.func59, Try.ntmps59
  go_wp2_with (go_at_call 28; refine (isSizedFd_any _ _ (by decide) (by decide) _).mono ?_; rintro e w' ⟨rfl, rfl⟩)
  go_ret
  exact ⟨rfl, rfl⟩
theorem net_ok {N : Nat} {bs : List FBr} (h : (netE (N : Int) bs).2 = 0) : NetOk N bs := by
  unfold netE at h
  by_cases h1 : netE1 (N : Int) bs.length = 0
  · rw [if_neg (by simpa using h1)] at h
    obtain ⟨g1, g2⟩ := firstV_zero.1 h1
    have g1 := (unless_ne (by decide)).1 g1
    have g2 := (unless_ne (by decide)).1 (firstV_zero.1 g2).1
    unfold withinB at g1
    simp only [Bool.and_eq_true, decide_eq_true_eq] at g1 g2
    refine ⟨by omega, by omega, fun x hx => ?_⟩
    obtain ⟨k, hk, e⟩ := List.getElem_of_mem hx
    have h2 := scan_noneF (m := bs.length) (k := 0) rfl h k (Nat.zero_le _) hk
    have e2 : bs.getD k default = x := by rw [List.getD_eq_getElem?_getD, List.getElem?_eq_getElem hk]; exact e
    rw [e2] at h2
    unfold brErr at h2
    obtain ⟨f1, f2⟩ := firstV_zero.1 h2
    obtain ⟨f2, f3⟩ := firstV_zero.1 f2
    have f1 := (unless_ne (by decide)).1 f1
    have f2 := (unless_ne (by decide)).1 f2
    have f3 := (unless_ne (by decide)).1 (firstV_zero.1 f3).1
    unfold isNodeB withinB at f1
    unfold withinB at f3
    simp only [Bool.and_eq_true, decide_eq_true_eq, bne_iff_ne, ne_eq] at f1 f2 f3
    refine ⟨by omega, by omega, f2, by omega, by omega⟩
  · rw [if_pos h1] at h
    exact absurd h h1

set_option maxHeartbeats 4000000 in
set_option maxRecDepth 100000 in
theorem CheckNet_any (B : Nat) (N : Int) (bs : List FBr) (A : Option Addr) (n c : Nat) (w : World) (hr : CellsIn B w A (brsC bs)) (hB : B ≤ w.heap.size) (hn : bs.length = n) (hm : n ≤ 1000) :
    Calls Try.prog 50 #[.agg #[.int .i64 N, .slice A n c]] w fun e w' => e = .returned (.tuple #[.int .i64 ((netE N bs).1 : Int), .int .i64 (netE N bs).2]) ∧ Below w.heap.size w w' := by
  have HT := Lib.hid (show netE N bs = if netE1 N n ≠ 0 then (0, netE1 N n) else scan (fun k => brErr N (bs.getD k default)) n 0 from by rw [← hn]; rfl)
  have HR := Lib.hid hr
  have HV1 := Lib.hid (show firstV [unlessV (withinB N 1 5) 2, unlessV (decide ((n : Int) ≤ 7)) 8] = netE1 N n from rfl)
  have HNd := Lib.hid (fun (h : netE1 N n = 0) => (show 1 ≤ N ∧ N ≤ 5 from by
    have g1 := (unless_ne (by decide)).1 (firstV_zero.1 h).1
    unfold withinB at g1
    simpa using g1))
  have HN := Lib.hid hn
  have R0 := Lib.hid (show Blk (w.alloc (.cells #[.int .i64 N, .slice A n c] 49)) w.heap.size 49 #[.int .i64 N, .slice A n c] from Blk.newAt rfl)
  have HB0 := Lib.hid (show Below w.heap.size w (w.alloc (.cells #[.int .i64 N, .slice A n c] 49)) from pa pr)
  have x0 := R0.out.cellAt 0 rfl
  have x1 := R0.out.cellAt 1 rfl
  have xl := R0.out.lt
  clear hr hn
  generalize netE N bs = R at *
  generalize netE1 N n = E1 at *
  by_cases hE : E1 = 0
  · have hNd := HNd.out hE
    subst hE
    have HE := Lib.hid (show R = scan (fun k => brErr N (bs.getD k default)) n 0 by rw [HT.out, if_neg (by simp)])
    clear HT HNd
    go_enter Try.func50, Try.ntmps50
    go_wp2
    refine region_below 9 follows_mixed (by kernel_rfl) ?_
    intro C hC
    simp only [List.take_succ_cons, List.take_zero, List.drop_succ_cons, List.drop_zero]
    repeat (first
      | ((with_reducible refine quiet_plain rfl (fun K hK => ?_)); (focus (apply quiet_val; (focus (intro w' hw; obtain ⟨hcq, hfq⟩ := bcell ((hC.out _).1 hw); go_simp; (first | done | rfl | (with_reducible exact call_same hw (unlessFd_any _ _ _)) | (with_reducible exact call_same hw (withinFd_any _ _ _ _))))); (simp only [Act.put, List.setIfInBounds_toArray, List.set_cons_succ, List.set_cons_zero]); (with_reducible refine hK _ ?_); clear hK K)))
      | ((with_reducible refine quiet_skip ?_ ?_); (focus (first | (simp [Region.wanted, yielded]; done) | (simp [Region.wanted, yielded, undef]; done))); simp only [Act.put, List.setIfInBounds_toArray, List.set_cons_succ, List.set_cons_zero])
      | ((with_reducible refine quiet_go ?_ (fun K hK => ?_)); (focus (first | (simp [Region.wanted, yielded]; done) | (simp [Region.wanted, yielded, undef]; done))); (focus (apply quiet_val; (focus (intro w' hw; obtain ⟨hcq, hfq⟩ := bcell ((hC.out _).1 hw); go_simp; (first | done | rfl | (with_reducible exact call_same hw (unlessFd_any _ _ _)) | (with_reducible exact call_same hw (withinFd_any _ _ _ _))))); (simp only [Act.put, List.setIfInBounds_toArray, List.set_cons_succ, List.set_cons_zero]); (with_reducible refine hK _ ?_); clear hK K))))
    refine wpQuiet_nil ?_
    intro w1 hb1
    replace hb1 := (hC.out _).1 hb1
    clear hC C
    obtain ⟨hc1, hf1⟩ := bcell hb1
    have HB1 := Lib.hid (pt HB0.out hb1)
    have R1 := Lib.hid (R0.out.past hb1)
    clear hc1 hf1 hb1 x0 x1 xl
    have x0 := R1.out.cellAt 0 rfl
    have x1 := R1.out.cellAt 1 rfl
    have xl := R1.out.lt
    go_wp2_with (go_at_call 25; refine (first2Fd _ _ _ _ _ (by first | (go_simp; done) | (go_simp; rfl)) (by first | (go_simp; done) | (go_simp; rfl)) _ HV1.out).mono ?_; rintro e w' ⟨rfl, rfl⟩)
    clear x0 x1 xl
    generalize hv : World.alloc w1 _ = v
    have HQv := Lib.hid (show Below w.heap.size w v from by rw [← hv]; exact pa HB1.out)
    have Rv := Lib.hid (show Blk v w.heap.size 49 #[.int .i64 N, .slice A n c] from by rw [← hv]; exact R1.out.alloc)
    clear hv HB1 R1 HB0 R0
    go_loopw [25] (fun iv wr => ∃ k : Nat, k ≤ n ∧ iv = .int .i64 (k : Int) ∧ scan (fun k => brErr N (bs.getD k default)) n 0 = scan (fun k => brErr N (bs.getD k default)) n k ∧ Below v.heap.size v wr) (fun iv _ => n - (intOf iv).toNat)
    case atStart => exact ⟨0, Nat.zero_le _, rfl, rfl, pr⟩
    case round =>
      obtain ⟨k, hk, rfl, hf, hq⟩ := hrel
      have HQ := Lib.hid (pt HQv.out hq)
      have HQ1 := Lib.hid hq
      have Rr := Lib.hid (Rv.out.past hq)
      clear hq
      by_cases hlt : k < n
      · have hk' : k < bs.length := by rw [HN.out]; exact hlt
        obtain ⟨b, off, rfl, hb, hct⟩ := brs_at (HR.out.below (HQ.out.mono hB)) hk'
        obtain ⟨u0, u1, u2, u3⟩ := hct k hk'
        have HS := Lib.hid (hf.trans (scan_step hlt))
        have HPt : brErr N (bs.getD k default) = firstV [unlessV (isNodeB N (bs.getD k default).a && isNodeB N (bs.getD k default).b) 6, unlessV ((bs.getD k default).a != (bs.getD k default).b) 3, unlessV (withinB (bs.getD k default).r 1 20 && withinB (bs.getD k default).t (-50) 50) 2] := rfl
        have hbw : b < wr.heap.size := Nat.lt_of_lt_of_le hb (Nat.le_trans hB HQ.out.size)
        clear hct hf
        generalize brErr N (bs.getD k default) = e at *
        generalize bs.getD k default = x at *
        obtain ⟨xa, xb, xr, xt⟩ := x
        dsimp only at *
        replace HPt := Lib.hid HPt.symm
        have HI1 := Lib.hid (fun W => isNode_any N xa hNd (some ⟨b, off, none⟩) n c _ rfl W)
        have HI2 := Lib.hid (fun W => isNode_any N xb hNd (some ⟨b, off, none⟩) n c _ rfl W)
        have HI3 := Lib.hid (fun W => isReluctance_any xr _ rfl W)
        have HI4 := Lib.hid (fun W => isTurns_any xt _ rfl W)
        generalize isNodeB N xa = a1 at *
        generalize isNodeB N xb = a2 at *
        generalize withinB xr 1 20 = a3 at *
        generalize withinB xt (-50) 50 = a4 at *
        cases a1
        all_goals cases a3
        all_goals
          have HW := Lib.hid HPt.out
          simp only [Bool.true_and, Bool.false_and] at HW
          have HB1 := Lib.hid (show Below v.heap.size v (wr.alloc (.cells #[.int .i64 xa, .int .i64 xb, .int .i64 xr, .int .i64 xt] 79)) from pa HQ1.out)
          have HP1 := Lib.hid (show Blk (wr.alloc (.cells #[.int .i64 xa, .int .i64 xb, .int .i64 xr, .int .i64 xt] 79)) wr.heap.size 79 #[.int .i64 xa, .int .i64 xb, .int .i64 xr, .int .i64 xt] from Blk.newAt rfl)
          have HR1 := Lib.hid (Rr.out.alloc (o := .cells #[.int .i64 xa, .int .i64 xb, .int .i64 xr, .int .i64 xt] 79))
          go_wp2
          generalize wr.alloc (.cells #[.int .i64 xa, .int .i64 xb, .int .i64 xr, .int .i64 xt] 79) = wp at *
          have x0 := HR1.out.cellAt 0 rfl
          have x1 := HR1.out.cellAt 1 rfl
          have xl := HR1.out.lt
          have y0 := HP1.out.cellAt 0 rfl
          have y1 := HP1.out.cellAt 1 rfl
          have y2 := HP1.out.cellAt 2 rfl
          have y3 := HP1.out.cellAt 3 rfl
          have yl := HP1.out.lt
          refine region_below 26 follows_mixed (by kernel_rfl) ?_
          intro C hC
          simp only [List.take_succ_cons, List.take_zero, List.drop_succ_cons, List.drop_zero]
          repeat (first
            | ((with_reducible refine quiet_plain rfl (fun K hK => ?_)); (focus (apply quiet_val; (focus (intro w' hw; obtain ⟨hcq, hfq⟩ := bcell ((hC.out _).1 hw); go_simp; (first | done | rfl | (with_reducible exact call_same hw (unlessFd_any _ _ _)) | (with_reducible exact call_below hC hw (HI1.out _)) | (with_reducible exact call_below hC hw (HI2.out _)) | (with_reducible exact call_same hw (HI3.out _)) | (with_reducible exact call_same hw (HI4.out _))))); (simp only [Act.put, List.setIfInBounds_toArray, List.set_cons_succ, List.set_cons_zero]); (with_reducible refine hK _ ?_); clear hK K)))
            | ((with_reducible refine quiet_skip ?_ ?_); (focus (first | (simp [Region.wanted, yielded]; done) | (simp [Region.wanted, yielded, undef]; done))); simp only [Act.put, List.setIfInBounds_toArray, List.set_cons_succ, List.set_cons_zero])
            | ((with_reducible refine quiet_go ?_ (fun K hK => ?_)); (focus (first | (simp [Region.wanted, yielded]; done) | (simp [Region.wanted, yielded, undef]; done))); (focus (apply quiet_val; (focus (intro w' hw; obtain ⟨hcq, hfq⟩ := bcell ((hC.out _).1 hw); go_simp; (first | done | rfl | (with_reducible exact call_same hw (unlessFd_any _ _ _)) | (with_reducible exact call_below hC hw (HI1.out _)) | (with_reducible exact call_below hC hw (HI2.out _)) | (with_reducible exact call_same hw (HI3.out _)) | (with_reducible exact call_same hw (HI4.out _))))); (simp only [Act.put, List.setIfInBounds_toArray, List.set_cons_succ, List.set_cons_zero]); (with_reducible refine hK _ ?_); clear hK K))))
          refine wpQuiet_nil ?_
          intro w1 hb1
          replace hb1 := (hC.out _).1 hb1
          clear hC C
          obtain ⟨hc1, hf1⟩ := bcell hb1
          have HB2 := Lib.hid (pt HB1.out hb1)
          clear hc1 hf1 hb1 x0 x1 xl y0 y1 y2 y3 yl u0 u1 u2 u3
          by_cases he : e = 0
          · subst he
            have HS2 := Lib.hid (show scan (fun k => brErr N (bs.getD k default)) n 0 = scan (fun k => brErr N (bs.getD k default)) n (k + 1) by rw [HS.out, if_pos rfl])
            go_wp2_with (go_at_call 25; refine (first3Fd _ _ _ _ _ _ (by first | (go_simp; done) | (go_simp; rfl)) (by first | (go_simp; done) | (go_simp; rfl)) (by first | (go_simp; done) | (go_simp; rfl)) _ HW.out).mono ?_; rintro e w' ⟨rfl, rfl⟩)
            go_roundw
            case rel => exact ⟨k + 1, by omega, by go_num, HS2.out, pa HB2.out⟩
            case measure => simp [intOf]; omega
          · have he1 : (e == 0) = false := by simpa using he
            have he2 : (e != 0) = true := by simpa using he
            have HRs := Lib.hid (show R = (k, e) by rw [HE.out, HS.out, if_neg he])
            go_wp2_with (go_at_call 25; refine (first3Fd _ _ _ _ _ _ (by first | (go_simp; done) | (go_simp; rfl)) (by first | (go_simp; done) | (go_simp; rfl)) (by first | (go_simp; done) | (go_simp; rfl)) _ HW.out).mono ?_; rintro e w' ⟨rfl, rfl⟩)
            go_ret2
            exact ⟨ret_ii (by rw [HRs.out]) (by rw [HRs.out]), pt HQv.out (pa HB2.out)⟩
      · have HRs := Lib.hid (show R = (0, 0) by rw [HE.out, hf, scan_end (by omega)])
        clear hf
        go_wp2
        go_ret2
        exact ⟨ret_ii (by rw [HRs.out]; rfl) (by rw [HRs.out]), HQ.out⟩
  · have hE1 : (E1 == 0) = false := by simpa using hE
    have hE2 : (E1 != 0) = true := by simpa using hE
    have HE := Lib.hid (show R = (0, E1) by rw [HT.out, if_pos hE])
    clear HT
    go_enter Try.func50, Try.ntmps50
    go_wp2
    refine region_below 9 follows_mixed (by kernel_rfl) ?_
    intro C hC
    simp only [List.take_succ_cons, List.take_zero, List.drop_succ_cons, List.drop_zero]
    repeat (first
      | ((with_reducible refine quiet_plain rfl (fun K hK => ?_)); (focus (apply quiet_val; (focus (intro w' hw; obtain ⟨hcq, hfq⟩ := bcell ((hC.out _).1 hw); go_simp; (first | done | rfl | (with_reducible exact call_same hw (unlessFd_any _ _ _)) | (with_reducible exact call_same hw (withinFd_any _ _ _ _))))); (simp only [Act.put, List.setIfInBounds_toArray, List.set_cons_succ, List.set_cons_zero]); (with_reducible refine hK _ ?_); clear hK K)))
      | ((with_reducible refine quiet_skip ?_ ?_); (focus (first | (simp [Region.wanted, yielded]; done) | (simp [Region.wanted, yielded, undef]; done))); simp only [Act.put, List.setIfInBounds_toArray, List.set_cons_succ, List.set_cons_zero])
      | ((with_reducible refine quiet_go ?_ (fun K hK => ?_)); (focus (first | (simp [Region.wanted, yielded]; done) | (simp [Region.wanted, yielded, undef]; done))); (focus (apply quiet_val; (focus (intro w' hw; obtain ⟨hcq, hfq⟩ := bcell ((hC.out _).1 hw); go_simp; (first | done | rfl | (with_reducible exact call_same hw (unlessFd_any _ _ _)) | (with_reducible exact call_same hw (withinFd_any _ _ _ _))))); (simp only [Act.put, List.setIfInBounds_toArray, List.set_cons_succ, List.set_cons_zero]); (with_reducible refine hK _ ?_); clear hK K))))
    refine wpQuiet_nil ?_
    intro w1 hb1
    replace hb1 := (hC.out _).1 hb1
    clear hC C
    obtain ⟨hc1, hf1⟩ := bcell hb1
    have HQ1 := Lib.hid (pt HB0.out hb1)
    clear hc1 hf1 hb1
    go_wp2_with (go_at_call 25; refine (first2Fd _ _ _ _ _ (by first | (go_simp; done) | (go_simp; rfl)) (by first | (go_simp; done) | (go_simp; rfl)) _ HV1.out).mono ?_; rintro e w' ⟨rfl, rfl⟩)
    go_ret2
    exact ⟨ret_ii (by rw [HE.out]; rfl) (by rw [HE.out]), pa HQ1.out⟩
theorem netErr_any (B : Nat) (N : Int) (bs : List FBr) (A : Option Addr) (n c : Nat) (w : World) (hr : CellsIn B w A (brsC bs)) (hB : B ≤ w.heap.size) (hn : bs.length = n) (hm : n ≤ 1000) :
    Calls Try.prog 33 #[.agg #[.int .i64 N, .slice A n c]] w fun e w' => e = .returned (.int .i64 (netE N bs).2) ∧ Below w.heap.size w w' := by
  have HC := Lib.hid (fun W (hW : Below w.heap.size w W) => CheckNet_any B N bs A n c W (hr.below (hW.mono hB)) (Nat.le_trans hB hW.size) hn hm)
  generalize netE N bs = R at *
  go_enter Try.func33, Try.ntmps33
  go_wp2_with (go_at_call 50; refine (HC.out _ (pa pr)).mono ?_; rintro e w' ⟨rfl, hb⟩; have HB := Lib.hid (pt (pa pr) hb); clear hb)
  go_ret
  exact ⟨rfl, HB.out⟩
end Go.Proofs.Ytapegimghfflhaa
end
