/- Contracts: DiameterErr, WidthsErr (the specification of chapter 2). Printed by a program (gen_d3wid.py). -/
import Derived.Test.YtabbehmodmmgoaaDoorOd8
import Derived.Test.YtabbehmodmmgoaaDoorOa6

section
namespace Go.Proofs.YtabbehmodmmgoaaDoor
open Go.RowKit

theorem refDiameterErr_any (d : Int) (w : World) :
    Calls Tryd.prog 18 #[.int .i64 d] w fun e w' => e = .returned (.int .i64 (diamE d)) ∧ w = w' := by
  have HD := Lib.hid (show diamE d = unlessV (withinB d 1 2000) 2 from rfl)
  generalize diamE d = E at *
  cases hb : withinB d 1 2000
  all_goals
    have HE := HD.out
    rw [hb] at HE
    have HE2 := Lib.hid HE
    clear HE
    go_enter Tryd.func18, Tryd.ntmps18
    go_wp2_with (go_at_call 8; refine (refWithin_any _ _ _ _).mono ?_; rintro e w' ⟨rfl, rfl⟩)
    go_ret
    exact ⟨ret_int HE2.out.symm, rfl⟩

set_option maxHeartbeats 4000000 in
set_option maxRecDepth 100000 in
theorem refWidthsErr_any (B : Nat) (d : Int) (ws : List Int) (A : Option Addr) (n c : Nat) (w : World) (hr : IntsIn B w A ws) (hB : B ≤ w.heap.size) (hn : ws.length = n) (hm : n ≤ 1000) :
    Calls Tryd.prog 9 #[.int .i64 d, .slice A n c] w fun e w' => e = .returned (.int .i64 (wE d ws)) ∧ Below w.heap.size w w' := by
  have HR := Lib.hid hr
  have HN := Lib.hid hn
  have HW := Lib.hid (show wE d ws = if n ≤ 12 then (scan (widthErr d ws) n 0).2 else 8 by unfold wE; rw [hn])
  clear hr hn
  generalize wE d ws = E at *
  by_cases h12 : n ≤ 12
  · have hgt : ¬ (12 : Int) < (n : Int) := by omega
    have HE := Lib.hid (show E = (scan (widthErr d ws) n 0).2 by rw [HW.out, if_pos h12])
    clear HW
    go_enter Tryd.func9, Tryd.ntmps9
    go_wp2
    go_loopw [5] (fun i wr => ∃ k : Nat, k ≤ n ∧ i = .int .i64 (k : Int) ∧ scan (widthErr d ws) n 0 = scan (widthErr d ws) n k ∧ Below w.heap.size w wr) (fun i _ => n - (intOf i).toNat)
    case atStart => exact ⟨0, Nat.zero_le _, rfl, rfl, pr⟩
    case round =>
      obtain ⟨k, hk, rfl, hf, hq⟩ := hrel
      have HQ := Lib.hid hq
      by_cases hlt : k < n
      · obtain ⟨b, off, rfl, hb, hct⟩ := (HR.out.below (HQ.out.mono hB)).at_ (k := k) (by rw [HN.out]; exact hlt)
        have d0 := hct k (by rw [HN.out]; exact hlt)
        have d1 := hct (k - 1) (by rw [HN.out]; omega)
        have hbw := Nat.lt_of_lt_of_le hb (Nat.le_trans hB HQ.out.size)
        have HS := Lib.hid (hf.trans (scan_step hlt))
        have HFk := Lib.hid (show firstV [unlessV (withinB (ws.getD k 0) 1 d) 2, unlessV (decide (k = 0) || decide (ws.getD k 0 < ws.getD (k - 1) 0)) 9] = widthErr d ws k from rfl)
        clear hct hf hq
        generalize widthErr d ws k = e at *
        generalize ws.getD k 0 = x at *
        generalize ws.getD (k - 1) 0 = y at *
        cases hwi : withinB x 1 d
        · have HX := Lib.hid (show E = 2 by
            have h := HFk.out
            rw [hwi] at h
            have he : e = 2 := by rw [← h]; rfl
            rw [HE.out, HS.out, he, if_neg (by decide)])
          go_wp2_with (go_at_call 8; refine (refWithin_any _ _ _ _).mono ?_; rintro e w' ⟨rfl, rfl⟩)
          go_ret
          exact ⟨ret_int HX.out.symm, HQ.out⟩
        · have hok2 : firstV [unlessV true 2, unlessV (decide (k = 0) || decide (x < y)) 9] = e := by rw [← HFk.out, hwi]
          by_cases hk0 : k = 0
          · have HX := Lib.hid (show scan (widthErr d ws) n 0 = scan (widthErr d ws) n (k + 1) by
              have he : e = 0 := by rw [← hok2, decide_eq_true hk0]; rfl
              rw [HS.out, he, if_pos rfl])
            have hkz : ¬ (0 : Int) < (k : Int) := by omega
            have hkd : decide (0 < k) = false := decide_eq_false (by omega)
            clear hok2 hk0 d1
            go_wp2_with (go_at_call 8; refine (refWithin_any _ _ _ _).mono ?_; rintro e w' ⟨rfl, rfl⟩)
            refine region_below 13 follows_mixed (by kernel_rfl) ?_
            intro C hC
            simp only [List.take_succ_cons, List.take_zero, List.drop_succ_cons, List.drop_zero]
            repeat (first
              | ((with_reducible refine quiet_plain rfl (fun K hK => ?_)); (focus (apply quiet_val; (focus (intro w' hw; obtain ⟨hcq, hfq⟩ := bcell ((hC.out _).1 hw); go_simp; (first | done | rfl))); (simp only [Act.put, List.setIfInBounds_toArray, List.set_cons_succ, List.set_cons_zero]); (with_reducible refine hK _ ?_); clear hK K)))
              | ((with_reducible refine quiet_skip ?_ ?_); (focus (first | (simp [Region.wanted, yielded]; done) | (simp [Region.wanted, yielded, undef]; done))); simp only [Act.put, List.setIfInBounds_toArray, List.set_cons_succ, List.set_cons_zero])
              | ((with_reducible refine quiet_go ?_ (fun K hK => ?_)); (focus (first | (simp [Region.wanted, yielded]; done) | (simp [Region.wanted, yielded, undef]; done))); (focus (apply quiet_val; (focus (intro w' hw; obtain ⟨hcq, hfq⟩ := bcell ((hC.out _).1 hw); go_simp; (first | done | rfl))); (simp only [Act.put, List.setIfInBounds_toArray, List.set_cons_succ, List.set_cons_zero]); (with_reducible refine hK _ ?_); clear hK K))))
            refine wpQuiet_nil ?_
            intro w1 hb1
            replace hb1 := (hC.out _).1 hb1
            clear hC C
            obtain ⟨hc1, hf1⟩ := bcell hb1
            have HQ2 := Lib.hid (pt HQ.out hb1)
            clear hb1 hc1 hf1
            go_wp2
            go_roundw
            case rel => exact ⟨k + 1, by omega, by go_num, HX.out, HQ2.out⟩
            case measure => simp [intOf]; omega
          · have hkz : (0 : Int) < (k : Int) := by omega
            have hkn : 0 < k := by omega
            have hkd : decide (0 < k) = true := decide_eq_true hkn
            have i3 : ((k : Int) - 1).toNat = k - 1 := by omega
            have i4 : (0 : Int) ≤ (k : Int) - 1 := by omega
            have i5 : (k : Int) - 1 < (n : Int) := by omega
            have i6 : (k : Int) < (n : Int) := by omega
            have i7 : (0 : Int) ≤ (k : Int) := by omega
            have i9 : (1 : Int) ≤ (k : Int) := by omega
            have i10 : (k : Int) < (n : Int) + 1 := by omega
            have i11 : (k : Int) ≤ (n : Int) := by omega
            have i12 : 1 ≤ k := by omega
            have i8 : IntKind.i64.wrap ((k : Int) - 1) = (k : Int) - 1 := IntWalk.i64_in _ (by omega)
            by_cases hxy : x < y
            · have HX := Lib.hid (show scan (widthErr d ws) n 0 = scan (widthErr d ws) n (k + 1) by
                have he : e = 0 := by rw [← hok2, decide_eq_false hk0, decide_eq_true hxy]; rfl
                rw [HS.out, he, if_pos rfl])
              have hge : ¬ y ≤ x := by omega
              clear hok2 hk0
              go_wp2_with (go_at_call 8; refine (refWithin_any _ _ _ _).mono ?_; rintro e w' ⟨rfl, rfl⟩)
              refine region_below 13 follows_mixed (by kernel_rfl) ?_
              intro C hC
              simp only [List.take_succ_cons, List.take_zero, List.drop_succ_cons, List.drop_zero]
              repeat (first
                | ((with_reducible refine quiet_plain rfl (fun K hK => ?_)); (focus (apply quiet_val; (focus (intro w' hw; obtain ⟨hcq, hfq⟩ := bcell ((hC.out _).1 hw); go_simp; (first | done | rfl))); (simp only [Act.put, List.setIfInBounds_toArray, List.set_cons_succ, List.set_cons_zero]); (with_reducible refine hK _ ?_); clear hK K)))
                | ((with_reducible refine quiet_skip ?_ ?_); (focus (first | (simp [Region.wanted, yielded]; done) | (simp [Region.wanted, yielded, undef]; done))); simp only [Act.put, List.setIfInBounds_toArray, List.set_cons_succ, List.set_cons_zero])
                | ((with_reducible refine quiet_go ?_ (fun K hK => ?_)); (focus (first | (simp [Region.wanted, yielded]; done) | (simp [Region.wanted, yielded, undef]; done))); (focus (apply quiet_val; (focus (intro w' hw; obtain ⟨hcq, hfq⟩ := bcell ((hC.out _).1 hw); go_simp; (first | done | rfl))); (simp only [Act.put, List.setIfInBounds_toArray, List.set_cons_succ, List.set_cons_zero]); (with_reducible refine hK _ ?_); clear hK K))))
              refine wpQuiet_nil ?_
              intro w1 hb1
              replace hb1 := (hC.out _).1 hb1
              clear hC C
              obtain ⟨hc1, hf1⟩ := bcell hb1
              have HQ2 := Lib.hid (pt HQ.out hb1)
              clear hb1 hc1 hf1
              go_wp2
              go_roundw
              case rel => exact ⟨k + 1, by omega, by go_num, HX.out, HQ2.out⟩
              case measure => simp [intOf]; omega
            · have HX := Lib.hid (show E = 9 by
                have he : e = 9 := by rw [← hok2, decide_eq_false hk0, decide_eq_false hxy]; rfl
                rw [HE.out, HS.out, he, if_neg (by decide)])
              have hge : y ≤ x := by omega
              clear hok2 hk0
              go_wp2_with (go_at_call 8; refine (refWithin_any _ _ _ _).mono ?_; rintro e w' ⟨rfl, rfl⟩)
              refine region_below 13 follows_mixed (by kernel_rfl) ?_
              intro C hC
              simp only [List.take_succ_cons, List.take_zero, List.drop_succ_cons, List.drop_zero]
              repeat (first
                | ((with_reducible refine quiet_plain rfl (fun K hK => ?_)); (focus (apply quiet_val; (focus (intro w' hw; obtain ⟨hcq, hfq⟩ := bcell ((hC.out _).1 hw); go_simp; (first | done | rfl))); (simp only [Act.put, List.setIfInBounds_toArray, List.set_cons_succ, List.set_cons_zero]); (with_reducible refine hK _ ?_); clear hK K)))
                | ((with_reducible refine quiet_skip ?_ ?_); (focus (first | (simp [Region.wanted, yielded]; done) | (simp [Region.wanted, yielded, undef]; done))); simp only [Act.put, List.setIfInBounds_toArray, List.set_cons_succ, List.set_cons_zero])
                | ((with_reducible refine quiet_go ?_ (fun K hK => ?_)); (focus (first | (simp [Region.wanted, yielded]; done) | (simp [Region.wanted, yielded, undef]; done))); (focus (apply quiet_val; (focus (intro w' hw; obtain ⟨hcq, hfq⟩ := bcell ((hC.out _).1 hw); go_simp; (first | done | rfl))); (simp only [Act.put, List.setIfInBounds_toArray, List.set_cons_succ, List.set_cons_zero]); (with_reducible refine hK _ ?_); clear hK K))))
              refine wpQuiet_nil ?_
              intro w1 hb1
              replace hb1 := (hC.out _).1 hb1
              clear hC C
              obtain ⟨hc1, hf1⟩ := bcell hb1
              have HQ2 := Lib.hid (pt HQ.out hb1)
              clear hb1 hc1 hf1
              go_wp2
              go_ret
              exact ⟨ret_int HX.out.symm, HQ2.out⟩
      · have HX := Lib.hid (show E = 0 by rw [HE.out, hf, scan_end (by omega)])
        clear hf
        go_wp2
        go_ret
        exact ⟨ret_int HX.out.symm, HQ.out⟩
  · have hgt : (12 : Int) < (n : Int) := by omega
    have HE := Lib.hid (show E = 8 by rw [HW.out, if_neg h12])
    go_enter Tryd.func9, Tryd.ntmps9
    go_wp2
    go_ret
    exact ⟨ret_int HE.out.symm, pr⟩

end Go.Proofs.YtabbehmodmmgoaaDoor
end
