/- The law DesignSteps: the main way. Printed by a program (gen_d5steps.py). -/
import Derived.Test.YtabbehmodmmgoaaDoorOg5

section
namespace Go.Proofs.YtabbehmodmmgoaaDoor
open Go.RowKit

set_option maxRecDepth 100000 in
set_option maxHeartbeats 8000000 in
theorem steps_main (B : Nat) (d : Int) (ws : List Int) (A : Option Addr) (n c mt : Nat) (w : World) (hU : UnitIn w) (hQ : TabS 2 qWords w) (hW : TabS 0 uWords w) (hr : IntsIn B w A ws) (hB : B ≤ w.heap.size) (hn : ws.length = n) (hz : ¬ n = 0) (h8 : n ≤ 8) (hdE : diamE d = 0) (he : wE d ws = 0) (hm : 1 ≤ mt ∧ mt ≤ 11) :
    Calls Tryd.prog 5 #[.int .i64 d, .slice A n c, .int .i64 (mt : Int)] w fun e w' => e = .returned (.bool true) ∧ Below w.heap.size w w' := by
  have hd := diamE_ok.1 hdE
  have HAw := Lib.hid (awake_any w hU hQ hW)
  have HDe := Lib.hid (fun W => refDiameterErr_any d W)
  have HWe := Lib.hid (fun W (hW : Below w.heap.size w W) => refWidthsErr_any B d ws A n c W (hr.below (hW.mono hB)) (Nat.le_trans hB hW.size) hn (by omega))
  rw [hdE] at HDe
  rw [he] at HWe
  subst hn
  have hok := (wE_ok he).1
  obtain ⟨hwe, hse⟩ := stepsE_of (m := (mt : Int)) hd he (by omega) (by omega)
  obtain ⟨-, hse2⟩ := stepsE_of (m := (mt : Int) + 1) hd he (by omega) (by omega)
  have hsb : stepsB d ws (mt : Int) = bestD d ws mt := by unfold stepsB; rw [if_pos hse]; simp
  have hsb2 : stepsB d ws ((mt : Int) + 1) = bestD d ws (mt + 1) := by unfold stepsB; rw [if_pos hse2]; rfl
  have HCo := Lib.hid (fun W (hW : Below w.heap.size w W) => (copyInts_any B A ws.length c ws W (hr.below (hW.mono hB)) rfl (Nat.le_trans hB hW.size) (by omega)).mono (fun _ _ h => copy_formS h))
  have HBs := Lib.hid (fun (W : World) (A' : Option Addr) (c' : Nat) (h : IntsIn W.heap.size W A' ws) => bestSteps_any W.heap.size d ws A' ws.length c' (mt : Int) W h (Nat.le_refl _) rfl (by omega))
  have HBt := Lib.hid (fun (W : World) (A' : Option Addr) (c' : Nat) (h : IntsIn W.heap.size W A' ws) => bestSteps_any W.heap.size d ws A' ws.length c' ((mt : Int) + 1) W h (Nat.le_refl _) rfl (by omega))
  simp only [hsb, hse] at HBs
  simp only [hsb2, hse2] at HBt
  have hBF := best_facts (most := mt) hd.1 hok
  have hmo := best_more (d := d) (ws := ws) (most := mt)
  have HOn := Lib.hid (fun v (hv : v ∈ ws) => best_one (d := d) (ws := ws) (most := mt) hm.1 hv)
  have hall : ws.length ≤ mt → areaD d ws ≤ (bestD d ws mt).2 := fun h => best_all h
  have HAr := Lib.hid (fun (W : World) (A' : Option Addr) (c' : Nat) (h : IntsIn W.heap.size W A' ws) => AreaOf_any W.heap.size d ws A' ws.length c' W h (Nat.le_refl _) rfl (by omega))
  simp only [hwe, if_true] at HAr
  obtain ⟨hS1, hS2, hS3, hS4, hS5, hS6⟩ := hBF
  have hwS := widths_len hd hS1 (by omega)
  have HAs := Lib.hid (fun (W : World) (A' : Option Addr) (c' : Nat) (h : IntsIn W.heap.size W A' (bestD d ws mt).1) => AreaOf_any W.heap.size d (bestD d ws mt).1 A' (bestD d ws mt).1.length c' W h (Nat.le_refl _) rfl (by omega))
  simp only [hwS, hS4, if_true] at HAs
  clear hS4 hwS hsb hsb2 hse hse2 hwe
  generalize (bestD d ws mt).1 = S at *
  generalize (bestD d ws mt).2 = G at *
  generalize (bestD d ws (mt + 1)).1 = S2 at *
  generalize (bestD d ws (mt + 1)).2 = G2 at *
  generalize areaD d ws = T at *
  have HCs := Lib.hid (fun W A' c' (h : IntsIn W.heap.size W A' S) => (copyInts_any W.heap.size A' S.length c' S W h rfl (Nat.le_refl _) (by omega)).mono (fun _ _ h => copy_formS h))
  have hz1 : ((ws.length : Int) == 0) = false := beq_eq_false_iff_ne.2 (by omega)
  have hz2 : ¬ (8 : Int) < (ws.length : Int) := by omega
  have hz3 : ¬ (mt : Int) < (S.length : Int) := by omega
  have hz4 : ¬ G2 < G := by omega
  have hsq := sq_bd (n := d) (m := 2000) (by omega) hd.2
  have q1 : wrap64 (d * d) = d * d := w64 (by omega)
  have q2 : wrap64 (d * d - 1) = d * d - 1 := w64 (by omega)
  have q3 : withinB (mt : Int) 1 11 = true := by simp only [withinB, Bool.and_eq_true, decide_eq_true_eq]; omega
  have q4 : withinB G 0 (d * d - 1) = true := by simp only [withinB, Bool.and_eq_true, decide_eq_true_eq]; omega
  have q5 : wrap64 ((mt : Int) + 1) = (mt : Int) + 1 := w64 (by omega)
  have HS := Lib.hid hS1
  have HSm := Lib.hid hS2
  have HOk := Lib.hid hok
  have HAl := Lib.hid hall
  have HR := Lib.hid hr
  have HHe := Lib.hid (fun (v : Int) (hv : 1 ≤ v ∧ v ≤ d) (W : World) => (show Calls Tryd.prog 14 #[.int .i64 d, .int .i64 v] W fun e w' => e = .returned (.tuple #[.int .i64 (hgt d v), .int .i64 0]) ∧ Below W.heap.size W w' by
    have h := HeightOf_any d v W
    rw [firstV_zero.2 ⟨hdE, firstV_zero.2 ⟨(unless_ne (by decide)).2 (by simp only [withinB, Bool.and_eq_true, decide_eq_true_eq]; omega), rfl⟩⟩, if_pos rfl] at h
    exact h))
  have hm12 : S.length ≤ 11 := Nat.le_trans hS3 hm.2
  clear hU hQ hW hr hok hS1 hS2 hall he hdE hmo hS5 hS6
  generalize hN : ws.length = n at *
  have HN := Lib.hid hN
  generalize hM : S.length = m at *
  have HM := Lib.hid hM
  have hz3n : ¬ mt < m := Nat.not_lt.mpr hS3
  have hz3d : decide (mt < m) = false := decide_eq_false hz3n
  clear hN hM
  go_enter Tryd.func5, Tryd.ntmps5
  have M1 := Lib.hid trivial
  have M2 := Lib.hid trivial
  have M3 := Lib.hid trivial
  go_wp2_with (first
    | (go_at_call 17; refine HAw.out.mono ?_; rintro e w1 ⟨rfl, hb1⟩; have HB1 := Lib.hid hb1; clear hb1)
    | (go_at_call 18; refine (HDe.out _).mono ?_; rintro e w' ⟨rfl, rfl⟩)
    | (go_at_call 9; refine (HWe.out _ HB1.out).mono ?_; rintro e w2 ⟨rfl, hb2⟩; have HB2 := Lib.hid (pt HB1.out hb2); clear hb2)
    | (go_at_call 12; have hm1 := M1; clear M1 hm1; refine (HCo.out _ HB2.out).mono ?_; rintro e w3 ⟨A3, c3, rfl, hi, hb⟩; have HI3 := Lib.hid hi; have HB3 := Lib.hid (pt HB2.out hb); clear hi hb)
    | (go_at_call 11; have hm1 := M2; clear M2 hm1; refine (HBs.out _ _ _ HI3.out).mono ?_; rintro e w4 ⟨A4, c4, rfl, hi, hc, hb⟩; rw [HM.out]; have HI4 := Lib.hid hi; have HB4 := Lib.hid (pt HB3.out hb); clear hi hb hc)
    | (go_at_call 12; have hm1 := M3; clear M3 hm1; refine (HCo.out _ HB4.out).mono ?_; rintro e w5 ⟨A5, c5, rfl, hi, hb⟩; have HI5 := Lib.hid hi; have HI45 := Lib.hid ((HI4.out.below hb).more hb.size); have HB5 := Lib.hid (pt HB4.out hb); clear hi hb)
    | (go_at_call 11; refine (HBt.out _ _ _ HI5.out).mono ?_; rintro e w6 ⟨A6, c6, rfl, hi, hc, hb⟩; have HI6 := Lib.hid ((HI45.out.below hb).more hb.size); have HB6 := Lib.hid (pt HB5.out hb); clear hi hb hc)
    | (go_at_call 8; refine (refWithin_any _ _ _ _).mono ?_; rintro e w' ⟨rfl, rfl⟩))
  clear HAw HDe HWe HBs HBt hz1 hz2 hz3 hz4 q1 q2 q3 q4 q5
  go_loopw [13] (fun iv wr => ∃ k : Nat, iv = .int .i64 (k : Int) ∧ k ≤ m ∧ Below w6.heap.size w6 wr) (fun iv _ => m - (intOf iv).toNat)
  case atStart => exact ⟨0, rfl, Nat.zero_le _, pr⟩
  case round =>
    obtain ⟨k, rfl, hk, hab⟩ := hrel
    have HAb := Lib.hid hab
    clear hab
    by_cases hlt : k < m
    · have hlt' : k < S.length := by rw [HM.out]; exact hlt
      obtain ⟨b5, o5, rfl, hb5, hc5⟩ := (HI6.out.below HAb.out).at_ hlt'
      have cc := hc5 k hlt'
      have hb5w : b5 < wr.heap.size := Nat.lt_of_lt_of_le hb5 HAb.out.size
      have HHas := Lib.hid (fun W (hW : Below wr.heap.size wr W) => (show Calls Tryd.prog 23 #[.slice A n c, .int .i64 (S.getD k 0)] W fun e w' => e = .returned (.bool true) ∧ W = w' by
        have h := baseHas_n n B A c ws (S.getD k 0) W (HR.out.below ((pt (pt HB6.out HAb.out) hW).mono hB)) HN.out (by omega)
        rw [mem_has (HSm.out _ (getD_mem hlt'))] at h
        exact h))
      have k0 : (0 : Int) ≤ (k : Int) := by omega
      have k1 : (k : Int) < (m : Int) := by omega
      by_cases hkz : k = 0
      · subst hkz
        simp only [Nat.add_zero] at cc
        clear hc5
        generalize S.getD 0 0 = s at *
        go_wp2
        refine region_below 22 follows_mixed (by kernel_rfl) ?_
        intro C hC
        simp only [List.take_succ_cons, List.take_zero, List.drop_succ_cons, List.drop_zero]
        repeat (first
          | ((with_reducible refine quiet_plain rfl (fun K hK => ?_)); (focus (apply quiet_val; (focus (intro w' hw; obtain ⟨hcq, hfq⟩ := bcell ((hC.out _).1 hw); go_simp; (first | done | rfl | (with_reducible exact call_same hw (HHas.out _ ((hC.out _).1 hw)))))); (simp only [Act.put, List.setIfInBounds_toArray, List.set_cons_succ, List.set_cons_zero]); (with_reducible refine hK _ ?_); clear hK K)))
          | ((with_reducible refine quiet_skip ?_ ?_); (focus (first | (simp [Region.wanted, yielded]; done) | (simp [Region.wanted, yielded, undef]; done))); simp only [Act.put, List.setIfInBounds_toArray, List.set_cons_succ, List.set_cons_zero])
          | ((with_reducible refine quiet_go ?_ (fun K hK => ?_)); (focus (first | (simp [Region.wanted, yielded]; done) | (simp [Region.wanted, yielded, undef]; done))); (focus (apply quiet_val; (focus (intro w' hw; obtain ⟨hcq, hfq⟩ := bcell ((hC.out _).1 hw); go_simp; (first | done | rfl | (with_reducible exact call_same hw (HHas.out _ ((hC.out _).1 hw)))))); (simp only [Act.put, List.setIfInBounds_toArray, List.set_cons_succ, List.set_cons_zero]); (with_reducible refine hK _ ?_); clear hK K))))
        refine wpQuiet_nil ?_
        intro w1 hb1
        replace hb1 := (hC.out _).1 hb1
        clear hC C
        obtain ⟨hc1, hf1⟩ := bcell hb1
        have HAc := Lib.hid (pt HAb.out hb1)
        clear hb1 hc1 hf1
        go_wp2
        go_roundw
        case rel => exact ⟨0 + 1, by go_num, by omega, HAc.out⟩
        case measure => simp [intOf]; omega
      · have c2 := hc5 (k - 1) (by omega)
        have hdn := HS.out.at_ (k - 1) k (by omega) hlt'
        have kz : (0 : Int) < (k : Int) := by omega
        have hkn : 0 < k := by omega
        have i3 : ((k : Int) - 1).toNat = k - 1 := by omega
        have i4 : (0 : Int) ≤ (k : Int) - 1 := by omega
        have i5 : (k : Int) - 1 < (m : Int) := by omega
        have i8 : IntKind.i64.wrap ((k : Int) - 1) = (k : Int) - 1 := IntWalk.i64_in _ (by omega)
        have i9 : (1 : Int) ≤ (k : Int) := by omega
        have i10 : (k : Int) < (m : Int) + 1 := by omega
        have i11 : (k : Int) ≤ (m : Int) := by omega
        have hkd : decide (0 < k) = true := decide_eq_true hkn
        clear hc5
        generalize S.getD k 0 = s at *
        generalize S.getD (k - 1) 0 = t at *
        have hge : ¬ t ≤ s := by omega
        clear hdn
        go_wp2
        refine region_below 22 follows_mixed (by kernel_rfl) ?_
        intro C hC
        simp only [List.take_succ_cons, List.take_zero, List.drop_succ_cons, List.drop_zero]
        repeat (first
          | ((with_reducible refine quiet_plain rfl (fun K hK => ?_)); (focus (apply quiet_val; (focus (intro w' hw; obtain ⟨hcq, hfq⟩ := bcell ((hC.out _).1 hw); go_simp; (first | done | rfl | (with_reducible exact call_same hw (HHas.out _ ((hC.out _).1 hw)))))); (simp only [Act.put, List.setIfInBounds_toArray, List.set_cons_succ, List.set_cons_zero]); (with_reducible refine hK _ ?_); clear hK K)))
          | ((with_reducible refine quiet_skip ?_ ?_); (focus (first | (simp [Region.wanted, yielded]; done) | (simp [Region.wanted, yielded, undef]; done))); simp only [Act.put, List.setIfInBounds_toArray, List.set_cons_succ, List.set_cons_zero])
          | ((with_reducible refine quiet_go ?_ (fun K hK => ?_)); (focus (first | (simp [Region.wanted, yielded]; done) | (simp [Region.wanted, yielded, undef]; done))); (focus (apply quiet_val; (focus (intro w' hw; obtain ⟨hcq, hfq⟩ := bcell ((hC.out _).1 hw); go_simp; (first | done | rfl | (with_reducible exact call_same hw (HHas.out _ ((hC.out _).1 hw)))))); (simp only [Act.put, List.setIfInBounds_toArray, List.set_cons_succ, List.set_cons_zero]); (with_reducible refine hK _ ?_); clear hK K))))
        refine wpQuiet_nil ?_
        intro w1 hb1
        replace hb1 := (hC.out _).1 hb1
        clear hC C
        obtain ⟨hc1, hf1⟩ := bcell hb1
        have HAc := Lib.hid (pt HAb.out hb1)
        clear hb1 hc1 hf1
        go_wp2
        go_roundw
        case rel => exact ⟨k + 1, by go_num, by omega, HAc.out⟩
        case measure => simp [intOf]; omega
    · have hkm : k = m := by omega
      subst hkm
      have HB7 := Lib.hid (pt HB6.out HAb.out)
      have HI7 := Lib.hid ((HI6.out.below HAb.out).more HAb.out.size)
      have M4 := Lib.hid trivial
      have M5 := Lib.hid trivial
      clear HAb HI6 HB6
      by_cases hnm : n ≤ mt
      · have hnm2 : (n : Int) ≤ (mt : Int) := by omega
        have hTG : ¬ G < T := by have := HAl.out hnm; omega
        go_wp2_with (first
          | (go_at_call 12; have hm1 := M4; clear M4 hm1; refine (HCs.out _ _ _ HI7.out).mono ?_; rintro e w8 ⟨A8, c8, rfl, hi, hb⟩; have HI8 := Lib.hid hi; have HB8 := Lib.hid (pt HB7.out hb); clear hi hb)
          | (go_at_call 13; have hm1 := M5; clear M5 hm1; refine (HAs.out _ _ _ HI8.out).mono ?_; rintro e w9 ⟨rfl, hb⟩; have HB9 := Lib.hid (pt HB8.out hb); clear hb)
          | (go_at_call 12; refine (HCo.out _ HB9.out).mono ?_; rintro e wa ⟨Aa, ca, rfl, hi, hb⟩; have HIa := Lib.hid hi; have HBa := Lib.hid (pt HB9.out hb); clear hi hb)
          | (go_at_call 13; refine (HAr.out _ _ _ HIa.out).mono ?_; rintro e wb ⟨rfl, hb⟩; have HBb := Lib.hid (pt HBa.out hb); clear hb))
        clear HCo HCs HAs HAr HI7 HI8 HIa HBa HB9 HB8 HB7 hnm2 hnm hTG
        go_loopw [18] (fun iv wr => ∃ q : Nat, iv = .int .i64 (q : Int) ∧ q ≤ n ∧ Below wb.heap.size wb wr) (fun iv _ => n - (intOf iv).toNat)
        case atStart => exact ⟨0, rfl, Nat.zero_le _, pr⟩
        case round =>
          obtain ⟨q, rfl, hq, hab⟩ := hrel
          have HAb := Lib.hid (pt HBb.out hab)
          have HAq := Lib.hid hab
          clear hab
          by_cases hlq : q < n
          · have hlq' : q < ws.length := by rw [HN.out]; exact hlq
            obtain ⟨b6, o6, rfl, hb6, hc6⟩ := (HR.out.below (HAb.out.mono hB)).at_ hlq'
            have hb6w : b6 < wr.heap.size := Nat.lt_of_lt_of_le hb6 (Nat.le_trans hB HAb.out.size)
            have cc := hc6 q hlq'
            have hmem := getD_mem hlq'
            have hv := HOk.out.mem _ hmem
            obtain ⟨g1, g2, g3⟩ := hgt_spec (d := d) (w := ws.getD q 0) (by omega) hv.2
            have g4 := hgt_lt hv.1 hv.2
            have hon := HOn.out _ hmem
            have HHt := Lib.hid (HHe.out _ hv)
            clear hc6 hmem
            generalize ws.getD q 0 = v at *
            generalize hgt d v = h at *
            have v1 := hv.1
            have v2 := hv.2
            obtain ⟨t1, t2, t3, t4, t5, t6, t7, t8, w1, w2, w3, w4, w5, w6, w7, w8, e1, e2, vf, vg, e3, e4⟩ := steps_nums hd hv g1 g2 g3 g4 hon
            have z0 : (0 : Int) ≤ (q : Int) := by omega
            have z1 : (q : Int) < (n : Int) := by omega

            clear hon g2 g3 g4 hv g1
            go_wp2_with (first
              | (go_at_call 14; refine (HHt.out _).mono ?_; rintro e wc ⟨rfl, hb⟩; have HBc := Lib.hid (pt HAq.out hb); have c7 := (World.cell?_of_block (hb.block b6 hb6w)).trans cc; have hb6c := Nat.lt_of_lt_of_le hb6w hb.size; clear hb cc)
              | (go_at_call 8; refine (refWithin_any _ _ _ _).mono ?_; rintro e w' ⟨rfl, rfl⟩))
            refine region_below 37 follows_mixed (by kernel_rfl) ?_
            intro C hC
            simp only [List.take_succ_cons, List.take_zero, List.drop_succ_cons, List.drop_zero]
            repeat (first
              | ((with_reducible refine quiet_plain rfl (fun K hK => ?_)); (focus (apply quiet_val; (focus (intro w' hw; obtain ⟨hcq, hfq⟩ := bcell ((hC.out _).1 hw); go_simp; (first | done | rfl))); (simp only [Act.put, List.setIfInBounds_toArray, List.set_cons_succ, List.set_cons_zero]); (with_reducible refine hK _ ?_); clear hK K)))
              | ((with_reducible refine quiet_skip ?_ ?_); (focus (first | (simp [Region.wanted, yielded]; done) | (simp [Region.wanted, yielded, undef]; done))); simp only [Act.put, List.setIfInBounds_toArray, List.set_cons_succ, List.set_cons_zero])
              | ((with_reducible refine quiet_go ?_ (fun K hK => ?_)); (focus (first | (simp [Region.wanted, yielded]; done) | (simp [Region.wanted, yielded, undef]; done))); (focus (apply quiet_val; (focus (intro w' hw; obtain ⟨hcq, hfq⟩ := bcell ((hC.out _).1 hw); go_simp; (first | done | rfl))); (simp only [Act.put, List.setIfInBounds_toArray, List.set_cons_succ, List.set_cons_zero]); (with_reducible refine hK _ ?_); clear hK K))))
            refine wpQuiet_nil ?_
            intro w1 hb1
            replace hb1 := (hC.out _).1 hb1
            clear hC C
            obtain ⟨hc1, hf1⟩ := bcell hb1
            have HBd := Lib.hid (pt HBc.out hb1)
            clear hb1 hc1 hf1 c7
            go_wp2
            go_roundw
            case rel => exact ⟨q + 1, by go_num, by omega, HBd.out⟩
            case measure => simp [intOf]; omega
          · go_wp2
            go_ret
            exact ⟨rfl, HAb.out⟩
      · have hnm2 : ¬ (n : Int) ≤ (mt : Int) := by omega
        go_wp2_with (first
          | (go_at_call 12; have hm1 := M4; clear M4 hm1; refine (HCs.out _ _ _ HI7.out).mono ?_; rintro e w8 ⟨A8, c8, rfl, hi, hb⟩; have HI8 := Lib.hid hi; have HB8 := Lib.hid (pt HB7.out hb); clear hi hb)
          | (go_at_call 13; have hm1 := M5; clear M5 hm1; refine (HAs.out _ _ _ HI8.out).mono ?_; rintro e w9 ⟨rfl, hb⟩; have HB9 := Lib.hid (pt HB8.out hb); clear hb)
          | (go_at_call 12; refine (HCo.out _ HB9.out).mono ?_; rintro e wa ⟨Aa, ca, rfl, hi, hb⟩; have HIa := Lib.hid hi; have HBa := Lib.hid (pt HB9.out hb); clear hi hb)
          | (go_at_call 13; refine (HAr.out _ _ _ HIa.out).mono ?_; rintro e wb ⟨rfl, hb⟩; have HBb := Lib.hid (pt HBa.out hb); clear hb))
        clear HCo HCs HAs HAr HI7 HI8 HIa HBa HB9 HB8 HB7 hnm2 hnm
        go_loopw [18] (fun iv wr => ∃ q : Nat, iv = .int .i64 (q : Int) ∧ q ≤ n ∧ Below wb.heap.size wb wr) (fun iv _ => n - (intOf iv).toNat)
        case atStart => exact ⟨0, rfl, Nat.zero_le _, pr⟩
        case round =>
          obtain ⟨q, rfl, hq, hab⟩ := hrel
          have HAb := Lib.hid (pt HBb.out hab)
          have HAq := Lib.hid hab
          clear hab
          by_cases hlq : q < n
          · have hlq' : q < ws.length := by rw [HN.out]; exact hlq
            obtain ⟨b6, o6, rfl, hb6, hc6⟩ := (HR.out.below (HAb.out.mono hB)).at_ hlq'
            have hb6w : b6 < wr.heap.size := Nat.lt_of_lt_of_le hb6 (Nat.le_trans hB HAb.out.size)
            have cc := hc6 q hlq'
            have hmem := getD_mem hlq'
            have hv := HOk.out.mem _ hmem
            obtain ⟨g1, g2, g3⟩ := hgt_spec (d := d) (w := ws.getD q 0) (by omega) hv.2
            have g4 := hgt_lt hv.1 hv.2
            have hon := HOn.out _ hmem
            have HHt := Lib.hid (HHe.out _ hv)
            clear hc6 hmem
            generalize ws.getD q 0 = v at *
            generalize hgt d v = h at *
            have v1 := hv.1
            have v2 := hv.2
            obtain ⟨t1, t2, t3, t4, t5, t6, t7, t8, w1, w2, w3, w4, w5, w6, w7, w8, e1, e2, vf, vg, e3, e4⟩ := steps_nums hd hv g1 g2 g3 g4 hon
            have z0 : (0 : Int) ≤ (q : Int) := by omega
            have z1 : (q : Int) < (n : Int) := by omega

            clear hon g2 g3 g4 hv g1
            go_wp2_with (first
              | (go_at_call 14; refine (HHt.out _).mono ?_; rintro e wc ⟨rfl, hb⟩; have HBc := Lib.hid (pt HAq.out hb); have c7 := (World.cell?_of_block (hb.block b6 hb6w)).trans cc; have hb6c := Nat.lt_of_lt_of_le hb6w hb.size; clear hb cc)
              | (go_at_call 8; refine (refWithin_any _ _ _ _).mono ?_; rintro e w' ⟨rfl, rfl⟩))
            refine region_below 37 follows_mixed (by kernel_rfl) ?_
            intro C hC
            simp only [List.take_succ_cons, List.take_zero, List.drop_succ_cons, List.drop_zero]
            repeat (first
              | ((with_reducible refine quiet_plain rfl (fun K hK => ?_)); (focus (apply quiet_val; (focus (intro w' hw; obtain ⟨hcq, hfq⟩ := bcell ((hC.out _).1 hw); go_simp; (first | done | rfl))); (simp only [Act.put, List.setIfInBounds_toArray, List.set_cons_succ, List.set_cons_zero]); (with_reducible refine hK _ ?_); clear hK K)))
              | ((with_reducible refine quiet_skip ?_ ?_); (focus (first | (simp [Region.wanted, yielded]; done) | (simp [Region.wanted, yielded, undef]; done))); simp only [Act.put, List.setIfInBounds_toArray, List.set_cons_succ, List.set_cons_zero])
              | ((with_reducible refine quiet_go ?_ (fun K hK => ?_)); (focus (first | (simp [Region.wanted, yielded]; done) | (simp [Region.wanted, yielded, undef]; done))); (focus (apply quiet_val; (focus (intro w' hw; obtain ⟨hcq, hfq⟩ := bcell ((hC.out _).1 hw); go_simp; (first | done | rfl))); (simp only [Act.put, List.setIfInBounds_toArray, List.set_cons_succ, List.set_cons_zero]); (with_reducible refine hK _ ?_); clear hK K))))
            refine wpQuiet_nil ?_
            intro w1 hb1
            replace hb1 := (hC.out _).1 hb1
            clear hC C
            obtain ⟨hc1, hf1⟩ := bcell hb1
            have HBd := Lib.hid (pt HBc.out hb1)
            clear hb1 hc1 hf1 c7
            go_wp2
            go_roundw
            case rel => exact ⟨q + 1, by go_num, by omega, HBd.out⟩
            case measure => simp [intOf]; omega
          · go_wp2
            go_ret
            exact ⟨rfl, HAb.out⟩

theorem designSteps_any (B : Nat) (d : Int) (ws : List Int) (A : Option Addr) (n c : Nat) (m : Int) (w : World) (hU : UnitIn w) (hQ : TabS 2 qWords w) (hW : TabS 0 uWords w) (hr : IntsIn B w A ws) (hB : B ≤ w.heap.size) (hn : ws.length = n) :
    Calls Tryd.prog 5 #[.int .i64 d, .slice A n c, .int .i64 m] w fun e w' => e = .returned (.bool true) ∧ Below w.heap.size w w' := by
  by_cases hz : n = 0
  · exact steps_none B d ws A n c m w hU hQ hW hr hB hn hz
  · by_cases h8 : n ≤ 8
    · by_cases hd : diamE d = 0
      · by_cases he : wE d ws = 0
        · cases hm : withinB m 1 11
          · exact steps_off B d ws A n c m w hU hQ hW hr hB hn hz h8 hd he hm
          · have h2 : 1 ≤ m ∧ m ≤ 11 := by simpa [withinB] using hm
            obtain ⟨mt, rfl⟩ : ∃ mt : Nat, m = (mt : Int) := ⟨m.toNat, by omega⟩
            exact steps_main B d ws A n c mt w hU hQ hW hr hB hn hz h8 hd he (by omega)
        · exact steps_bad B d ws A n c m w hU hQ hW hr hB hn hz h8 hd he
      · exact steps_diam B d ws A n c m w hU hQ hW hr hB hn hz h8 hd
    · exact steps_many B d ws A n c m w hU hQ hW hr hB hn hz (by omega)

end Go.Proofs.YtabbehmodmmgoaaDoor
end
