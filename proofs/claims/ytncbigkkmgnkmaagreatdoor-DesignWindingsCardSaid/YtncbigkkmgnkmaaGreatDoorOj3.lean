/- The law DesignWindings: the walk. Printed by a program (gen_d6law.py). -/
import Derived.Test.YtncbigkkmgnkmaaGreatDoorOg3
import Derived.Test.YtncbigkkmgnkmaaGreatDoorOj1

section
namespace Go.Proofs.YtncbigkkmgnkmaaGreatDoor
open Go.RowKit

theorem ints_blk {W : World} {g : Nat} {xs : List Int} (h : IntBlk W g xs) : IntsIn W.heap.size W (some ⟨g, 0, none⟩) xs := .inr ⟨g, 0, rfl, Blk.lt h, fun j hj => by rw [Nat.zero_add]; exact h.cell hj⟩
theorem firstV_headW {x : Int} {l : List Int} (h : x ≠ 0) : firstV (x :: l) = x := if_neg h

set_option maxRecDepth 100000 in
set_option maxHeartbeats 4000000 in
theorem wind_err (t d cd g room : Int) (w : World) (hU : UnitIn w) (hQ : TabS 1 qWords w) (hW : TabS 0 uWords w) (h0 : windE t d cd g ≠ 0) :
    Calls Tryz.prog 6 #[.agg #[.int .i64 t, .int .i64 d, .int .i64 cd, .int .i64 g], .int .i64 room] w fun e w' => e = .returned (.bool true) ∧ Below w.heap.size w w' := by
  have HAw := Lib.hid (awake_any (w.alloc (.cells #[.int .i64 t, .int .i64 d, .int .i64 cd, .int .i64 g] 71)) (hU.below (pa pr)) (hQ.below (pa pr)) (hW.below (pa pr)))
  have HDi := Lib.hid (fun W => discsOf_err t d cd g W h0)
  have HLe := Lib.hid (fun W => lengthOf_err t d cd g W h0)
  have hfe : fewE t d cd g room = windE t d cd g := firstV_headW h0
  have HFe := Lib.hid (fun W => fewest_err t d cd g room W (by rw [hfe]; exact h0))
  rw [hfe] at HFe
  have HWe := Lib.hid (fun W => refWindingErr_any t d cd g W)
  have e1 : (windE t d cd g == 0) = false := by simpa using h0
  have e2 : (windE t d cd g != 0) = true := by simpa using h0
  clear hU hQ hW hfe
  generalize windE t d cd g = E at *
  have R0 := Lib.hid (show Blk (w.alloc (.cells #[.int .i64 t, .int .i64 d, .int .i64 cd, .int .i64 g] 71)) w.heap.size 71 #[.int .i64 t, .int .i64 d, .int .i64 cd, .int .i64 g] from Blk.newAt rfl)
  have HB0 := Lib.hid (show Below w.heap.size w (w.alloc (.cells #[.int .i64 t, .int .i64 d, .int .i64 cd, .int .i64 g] 71)) from pa pr)
  go_enter Tryz.func6, Tryz.ntmps6
  go_wp2_with (first
    | (go_at_call 7; refine HAw.out.mono ?_; rintro e w1 ⟨rfl, hb⟩; have HB1 := Lib.hid (pt HB0.out hb); have R1 := Lib.hid (R0.out.past hb); clear hb; have x0 := R1.out.cellAt 0 rfl; have x1 := R1.out.cellAt 1 rfl; have x2 := R1.out.cellAt 2 rfl; have x3 := R1.out.cellAt 3 rfl; have xl := R1.out.lt)
    | (go_at_call 35; refine (HDi.out _).mono ?_; rintro e w2 ⟨rfl, hb⟩; clear x0 x1 x2 x3 xl; have HB2 := Lib.hid (pt HB1.out hb); have R2 := Lib.hid (R1.out.past hb); clear hb; have x0 := R2.out.cellAt 0 rfl; have x1 := R2.out.cellAt 1 rfl; have x2 := R2.out.cellAt 2 rfl; have x3 := R2.out.cellAt 3 rfl; have xl := R2.out.lt)
    | (go_at_call 36; refine (HLe.out _).mono ?_; rintro e w3 ⟨rfl, hb⟩; clear x0 x1 x2 x3 xl; have HB3 := Lib.hid (pt HB2.out hb); have R3 := Lib.hid (R2.out.past hb); clear hb; have x0 := R3.out.cellAt 0 rfl; have x1 := R3.out.cellAt 1 rfl; have x2 := R3.out.cellAt 2 rfl; have x3 := R3.out.cellAt 3 rfl; have xl := R3.out.lt)
    | (go_at_call 37; refine (HFe.out _).mono ?_; rintro e w4 ⟨rfl, hb⟩; clear x0 x1 x2 x3 xl; have HB4 := Lib.hid (pt HB3.out hb); have R4 := Lib.hid (R3.out.past hb); clear hb; have x0 := R4.out.cellAt 0 rfl; have x1 := R4.out.cellAt 1 rfl; have x2 := R4.out.cellAt 2 rfl; have x3 := R4.out.cellAt 3 rfl; have xl := R4.out.lt)
    | (go_at_call 38; refine (HWe.out _).mono ?_; rintro e w5 ⟨rfl, hb⟩; clear x0 x1 x2 x3 xl; have HB5 := Lib.hid (pt HB4.out hb); have R5 := Lib.hid (R4.out.past hb); clear hb; have x0 := R5.out.cellAt 0 rfl; have x1 := R5.out.cellAt 1 rfl; have x2 := R5.out.cellAt 2 rfl; have x3 := R5.out.cellAt 3 rfl; have xl := R5.out.lt))
  go_ret
  exact ⟨rfl, HB5.out⟩

set_option maxRecDepth 100000 in
set_option maxHeartbeats 8000000 in
theorem wind_bad (t cd g room : Int) (n : Nat) (w : World) (hU : UnitIn w) (hQ : TabS 1 qWords w) (hW : TabS 0 uWords w) (h0 : windE t (n : Int) cd g = 0) (hr : withinB room 1 1000000 = false) :
    Calls Tryz.prog 6 #[.agg #[.int .i64 t, .int .i64 (n : Int), .int .i64 cd, .int .i64 g], .int .i64 room] w fun e w' => e = .returned (.bool true) ∧ Below w.heap.size w w' := by
  have HAw := Lib.hid (awake_any (w.alloc (.cells #[.int .i64 t, .int .i64 (n : Int), .int .i64 cd, .int .i64 g] 71)) (hU.below (pa pr)) (hQ.below (pa pr)) (hW.below (pa pr)))
  have HDi := Lib.hid (fun W => discsOf_any t cd g n W h0)
  have HLe := Lib.hid (fun W => (show Calls Tryz.prog 36 #[.agg #[.int .i64 t, .int .i64 (n : Int), .int .i64 cd, .int .i64 g]] W fun e w' => e = .returned (.tuple #[.int .i64 (lenV (n : Int) cd g), .int .i64 0]) ∧ Below W.heap.size W w' from lengthOf_any t (n : Int) cd g W h0))
  have hfe : fewE t (n : Int) cd g room = 2 := by unfold fewE; rw [h0, hr]; decide
  have HFe := Lib.hid (fun W => fewest_err t (n : Int) cd g room W (by rw [hfe]; decide))
  rw [hfe] at HFe
  clear hfe
  have HWe := Lib.hid (fun W => refWindingErr_any t (n : Int) cd g W)
  rw [h0] at HWe
  have hok := windE_ok h0
  have hn5 : 1 ≤ n ∧ n ≤ 500 := by omega
  have HRd := Lib.hid (fun W => refDiscsOf_any t cd g n W h0)
  have HRl := Lib.hid (fun W => refLengthOf_any t (n : Int) cd g W hok.2.1 hok.2.2.1 hok.2.2.2.1)
  have HRf := Lib.hid (fun W => refFewest_any t cd g n W h0)
  have hDl := discs_len t (n : Int) n
  have HDl := Lib.hid hDl
  have HIn := Lib.hid (fun (W : World) b A2 c2 (h1 : IntBlk W b (discsL t (n : Int) n)) (h2 : IntsIn W.heap.size W A2 (discsL t (n : Int) n)) => (show Calls Tryz.prog 17 #[.slice (some ⟨b, 0, none⟩) n n, .slice A2 n c2] W fun e w' => e = .returned (.bool true) ∧ Below W.heap.size W w' by
    have h := ints_any W.heap.size (some ⟨b, 0, none⟩) A2 n c2 (discsL t (n : Int) n) (discsL t (n : Int) n) W (ints_blk h1) h2 (by omega)
    rw [hDl, show intsB (discsL t (n : Int) n) (discsL t (n : Int) n) = true by simp [intsB]] at h
    exact h))
  have HSn := Lib.hid (fun k => discs_snoc t (n : Int) k)
  have HDt := Lib.hid (fun k (hk : k < n) => discs_at (t := t) (d := (n : Int)) hk)
  have HBd := Lib.hid (fun k hk => discs_bd (t := t) (d := (n : Int)) hok.2.1.1 (by omega) hok.1.2 k hk)
  have HDf := Lib.hid (fun k => disc_diff (t := t) (d := (n : Int)) k)
  have HAl := Lib.hid (discs_all (t := t) (n := n) hn5.1)
  clear hU hQ hW h0 hok hDl
  have R0 := Lib.hid (show Blk (w.alloc (.cells #[.int .i64 t, .int .i64 (n : Int), .int .i64 cd, .int .i64 g] 71)) w.heap.size 71 #[.int .i64 t, .int .i64 (n : Int), .int .i64 cd, .int .i64 g] from Blk.newAt rfl)
  have HB0 := Lib.hid (show Below w.heap.size w (w.alloc (.cells #[.int .i64 t, .int .i64 (n : Int), .int .i64 cd, .int .i64 g] 71)) from pa pr)
  have nz : (0 : Int) < (n : Int) := by omega
  have nz2 : 0 < n := by omega
  go_enter Tryz.func6, Tryz.ntmps6
  go_wp2_with (first
    | (go_at_call 7; refine HAw.out.mono ?_; rintro e w1 ⟨rfl, hb⟩; have HB1 := Lib.hid (pt HB0.out hb); have R1 := Lib.hid (R0.out.past hb); clear hb; have x0 := R1.out.cellAt 0 rfl; have x1 := R1.out.cellAt 1 rfl; have x2 := R1.out.cellAt 2 rfl; have x3 := R1.out.cellAt 3 rfl; have xl := R1.out.lt)
    | (go_at_call 35; refine (HDi.out _).mono ?_; rintro e w2 ⟨gb, rfl, hbk, hgb, hb⟩; clear x0 x1 x2 x3 xl; have K2 := Lib.hid hbk; clear hbk hgb; have HB2 := Lib.hid (pt HB1.out hb); have R2 := Lib.hid (R1.out.past hb); clear hb; have x0 := R2.out.cellAt 0 rfl; have x1 := R2.out.cellAt 1 rfl; have x2 := R2.out.cellAt 2 rfl; have x3 := R2.out.cellAt 3 rfl; have xl := R2.out.lt)
    | (go_at_call 36; refine (HLe.out _).mono ?_; rintro e w3 ⟨rfl, hb⟩; clear x0 x1 x2 x3 xl; have K3 := Lib.hid (show IntBlk w3 gb _ from Blk.past K2.out hb); have HB3 := Lib.hid (pt HB2.out hb); have R3 := Lib.hid (R2.out.past hb); clear hb; have x0 := R3.out.cellAt 0 rfl; have x1 := R3.out.cellAt 1 rfl; have x2 := R3.out.cellAt 2 rfl; have x3 := R3.out.cellAt 3 rfl; have xl := R3.out.lt)
    | (go_at_call 37; refine (HFe.out _).mono ?_; rintro e w4 ⟨rfl, hb⟩; clear x0 x1 x2 x3 xl; have K4 := Lib.hid (show IntBlk w4 gb _ from Blk.past K3.out hb); have HB4 := Lib.hid (pt HB3.out hb); have R4 := Lib.hid (R3.out.past hb); clear hb; have x0 := R4.out.cellAt 0 rfl; have x1 := R4.out.cellAt 1 rfl; have x2 := R4.out.cellAt 2 rfl; have x3 := R4.out.cellAt 3 rfl; have xl := R4.out.lt)
    | (go_at_call 38; refine (HWe.out _).mono ?_; rintro e w5 ⟨rfl, hb⟩; clear x0 x1 x2 x3 xl; have K5 := Lib.hid (show IntBlk w5 gb _ from Blk.past K4.out hb); have HB5 := Lib.hid (pt HB4.out hb); have R5 := Lib.hid (R4.out.past hb); clear hb; have x0 := R5.out.cellAt 0 rfl; have x1 := R5.out.cellAt 1 rfl; have x2 := R5.out.cellAt 2 rfl; have x3 := R5.out.cellAt 3 rfl; have xl := R5.out.lt)
    | (go_at_call 39; refine (HRd.out _).mono ?_; rintro e w6 ⟨A6, c6, rfl, hi, hc, hb⟩; clear x0 x1 x2 x3 xl; have I6 := Lib.hid hi; clear hi hc; have K6 := Lib.hid (show IntBlk w6 gb _ from Blk.past K5.out hb); have HB6 := Lib.hid (pt HB5.out hb); have R6 := Lib.hid (R5.out.past hb); clear hb; have x0 := R6.out.cellAt 0 rfl; have x1 := R6.out.cellAt 1 rfl; have x2 := R6.out.cellAt 2 rfl; have x3 := R6.out.cellAt 3 rfl; have xl := R6.out.lt)
    | (go_at_call 17; refine (HIn.out _ _ _ _ K6.out I6.out).mono ?_; rintro e w7 ⟨rfl, hb⟩; clear x0 x1 x2 x3 xl; have K7 := Lib.hid (show IntBlk w7 gb _ from Blk.past K6.out hb); have HB7 := Lib.hid (pt HB6.out hb); have R7 := Lib.hid (R6.out.past hb); clear hb; have x0 := R7.out.cellAt 0 rfl; have x1 := R7.out.cellAt 1 rfl; have x2 := R7.out.cellAt 2 rfl; have x3 := R7.out.cellAt 3 rfl; have xl := R7.out.lt)
    | (go_at_call 40; refine (HRl.out _).mono ?_; rintro e w8 ⟨rfl, hb⟩; clear x0 x1 x2 x3 xl; have K8 := Lib.hid (show IntBlk w8 gb _ from Blk.past K7.out hb); have HB8 := Lib.hid (pt HB7.out hb); have R8 := Lib.hid (R7.out.past hb); clear hb; have x0 := R8.out.cellAt 0 rfl; have x1 := R8.out.cellAt 1 rfl; have x2 := R8.out.cellAt 2 rfl; have x3 := R8.out.cellAt 3 rfl; have xl := R8.out.lt))
  clear HAw HDi HLe HFe HWe HRd HRl HIn K2 K3 K4 K5 K6 K7 I6 R0 R1 R2 R3 R4 R5 R6 R7 HB0 HB1 HB2 HB3 HB4 HB5 HB6 HB7 x0 x1 x2 x3 xl
  go_loopw [12, 13] (fun sv iv wr => ∃ k : Nat, iv = .int .i64 (k : Int) ∧ k ≤ n ∧ sv = .int .i64 (discsL t (n : Int) k).sum ∧ Below w8.heap.size w8 wr) (fun _ iv _ => n - (intOf iv).toNat)
  case atStart => exact ⟨0, rfl, Nat.zero_le _, rfl, pr⟩
  case round =>
    obtain ⟨k, rfl, hk, rfl, hq⟩ := hrel
    have HQ := Lib.hid hq
    clear hq
    have HK := Lib.hid (show IntBlk wr gb _ from Blk.past K8.out HQ.out)
    by_cases hlt : k < n
    · have c0 := HK.out.cell (j := 0) (by rw [HDl.out]; omega)
      have ck := HK.out.cell (j := k) (by rw [HDl.out]; exact hlt)
      rw [HDt.out 0 (by omega)] at c0
      rw [HDt.out k hlt] at ck
      have hbd := HBd.out k (by omega)
      have hbd0 := HBd.out 0 (by omega)
      have hdf := HDf.out k
      have HSt := Lib.hid (show (discsL t (n : Int) (k + 1)).sum = (discsL t (n : Int) k).sum + discV t (n : Int) k by rw [HSn.out, List.sum_append]; simp)
      have hgl := Blk.lt HK.out
      generalize (discsL t (n : Int) k).sum = sm at *
      generalize hv0 : discV t (n : Int) 0 = v0 at *
      clear hv0
      generalize discV t (n : Int) k = v at *
      have q1 : wrap64 (sm + v) = sm + v := w64 (by omega)
      have q2 : wrap64 (v0 - v) = v0 - v := w64 (by omega)
      have q3 : IntKind.i64.wrap (v0 - v) = v0 - v := IntWalk.i64_in _ (by omega)
      have k0 : (0 : Int) ≤ (k : Int) := by omega
      have k1 : (k : Int) < (n : Int) := by omega
      have hwt : withinB (v0 - v) 0 1 = true := by simp only [withinB, Bool.and_eq_true, decide_eq_true_eq]; omega
      have HWt := Lib.hid (fun W => (show Calls Tryz.prog 41 #[.int .i64 (v0 - v), .int .i64 0, .int .i64 1] W fun e w' => e = .returned (.bool true) ∧ W = w' by
        have h := refWithin_any (v0 - v) 0 1 W
        rw [hwt] at h
        exact h))
      clear hwt hdf hbd hbd0
      go_wp2
      refine region_below 9 follows_mixed (by kernel_rfl) ?_
      intro C hC
      simp only [List.take_succ_cons, List.take_zero, List.drop_succ_cons, List.drop_zero]
      repeat (first
        | ((with_reducible refine quiet_plain rfl (fun K hK => ?_)); (focus (apply quiet_val; (focus (intro w' hw; obtain ⟨hcq, hfq⟩ := bcell ((hC.out _).1 hw); go_simp; (first | done | rfl | (with_reducible exact call_same hw (HWt.out _))))); (simp only [Act.put, List.setIfInBounds_toArray, List.set_cons_succ, List.set_cons_zero]); (with_reducible refine hK _ ?_); clear hK K)))
        | ((with_reducible refine quiet_skip ?_ ?_); (focus (first | (simp [Region.wanted, yielded]; done) | (simp [Region.wanted, yielded, undef]; done))); simp only [Act.put, List.setIfInBounds_toArray, List.set_cons_succ, List.set_cons_zero])
        | ((with_reducible refine quiet_go ?_ (fun K hK => ?_)); (focus (first | (simp [Region.wanted, yielded]; done) | (simp [Region.wanted, yielded, undef]; done))); (focus (apply quiet_val; (focus (intro w' hw; obtain ⟨hcq, hfq⟩ := bcell ((hC.out _).1 hw); go_simp; (first | done | rfl | (with_reducible exact call_same hw (HWt.out _))))); (simp only [Act.put, List.setIfInBounds_toArray, List.set_cons_succ, List.set_cons_zero]); (with_reducible refine hK _ ?_); clear hK K))))
      refine wpQuiet_nil ?_
      intro w1 hb1
      replace hb1 := (hC.out _).1 hb1
      clear hC C
      obtain ⟨hc1, hf1⟩ := bcell hb1
      have HQ2 := Lib.hid (pt HQ.out hb1)
      clear hb1 hc1 hf1
      go_wp2
      go_roundw
      case rel => exact ⟨k + 1, by go_num, by omega, by rw [HSt.out, q1], HQ2.out⟩
      case measure => simp [intOf]; omega
    · have hkn : k = n := by omega
      subst hkn
      have R9 := Lib.hid (R8.out.past HQ.out)
      have HB9 := Lib.hid (pt HB8.out HQ.out)
      have x0 := R9.out.cellAt 0 rfl
      have x1 := R9.out.cellAt 1 rfl
      have x2 := R9.out.cellAt 2 rfl
      have x3 := R9.out.cellAt 3 rfl
      have xl := R9.out.lt
      rw [HAl.out]
      clear HK HSn HDt HBd HDf HAl R8 HB8 K8 HQ
      clear HRf
      go_wp2_with (go_at_call 41; refine (refWithin_any _ _ _ _).mono ?_; rintro e w' ⟨rfl, rfl⟩; rw [hr])
      go_ret
      exact ⟨rfl, HB9.out⟩

set_option maxRecDepth 100000 in
set_option maxHeartbeats 8000000 in
theorem wind_long (t cd g room : Int) (n : Nat) (w : World) (hU : UnitIn w) (hQ : TabS 1 qWords w) (hW : TabS 0 uWords w) (h0 : windE t (n : Int) cd g = 0) (hr : withinB room 1 1000000 = true) (hl : room < lenV (fewK t (n : Int)) cd g) :
    Calls Tryz.prog 6 #[.agg #[.int .i64 t, .int .i64 (n : Int), .int .i64 cd, .int .i64 g], .int .i64 room] w fun e w' => e = .returned (.bool true) ∧ Below w.heap.size w w' := by
  have HAw := Lib.hid (awake_any (w.alloc (.cells #[.int .i64 t, .int .i64 (n : Int), .int .i64 cd, .int .i64 g] 71)) (hU.below (pa pr)) (hQ.below (pa pr)) (hW.below (pa pr)))
  have HDi := Lib.hid (fun W => discsOf_any t cd g n W h0)
  have HLe := Lib.hid (fun W => (show Calls Tryz.prog 36 #[.agg #[.int .i64 t, .int .i64 (n : Int), .int .i64 cd, .int .i64 g]] W fun e w' => e = .returned (.tuple #[.int .i64 (lenV (n : Int) cd g), .int .i64 0]) ∧ Below W.heap.size W w' from lengthOf_any t (n : Int) cd g W h0))
  have HFe := Lib.hid (fun W => fewest_any t (n : Int) cd g room W h0 hr)
  rw [if_pos hl] at HFe
  have HWe := Lib.hid (fun W => refWindingErr_any t (n : Int) cd g W)
  rw [h0] at HWe
  have hok := windE_ok h0
  have hn5 : 1 ≤ n ∧ n ≤ 500 := by omega
  have HRd := Lib.hid (fun W => refDiscsOf_any t cd g n W h0)
  have HRl := Lib.hid (fun W => refLengthOf_any t (n : Int) cd g W hok.2.1 hok.2.2.1 hok.2.2.2.1)
  have HRf := Lib.hid (fun W => refFewest_any t cd g n W h0)
  have hDl := discs_len t (n : Int) n
  have HDl := Lib.hid hDl
  have HIn := Lib.hid (fun (W : World) b A2 c2 (h1 : IntBlk W b (discsL t (n : Int) n)) (h2 : IntsIn W.heap.size W A2 (discsL t (n : Int) n)) => (show Calls Tryz.prog 17 #[.slice (some ⟨b, 0, none⟩) n n, .slice A2 n c2] W fun e w' => e = .returned (.bool true) ∧ Below W.heap.size W w' by
    have h := ints_any W.heap.size (some ⟨b, 0, none⟩) A2 n c2 (discsL t (n : Int) n) (discsL t (n : Int) n) W (ints_blk h1) h2 (by omega)
    rw [hDl, show intsB (discsL t (n : Int) n) (discsL t (n : Int) n) = true by simp [intsB]] at h
    exact h))
  have HSn := Lib.hid (fun k => discs_snoc t (n : Int) k)
  have HDt := Lib.hid (fun k (hk : k < n) => discs_at (t := t) (d := (n : Int)) hk)
  have HBd := Lib.hid (fun k hk => discs_bd (t := t) (d := (n : Int)) hok.2.1.1 (by omega) hok.1.2 k hk)
  have HDf := Lib.hid (fun k => disc_diff (t := t) (d := (n : Int)) k)
  have HAl := Lib.hid (discs_all (t := t) (n := n) hn5.1)
  clear hU hQ hW h0 hok hDl
  have R0 := Lib.hid (show Blk (w.alloc (.cells #[.int .i64 t, .int .i64 (n : Int), .int .i64 cd, .int .i64 g] 71)) w.heap.size 71 #[.int .i64 t, .int .i64 (n : Int), .int .i64 cd, .int .i64 g] from Blk.newAt rfl)
  have HB0 := Lib.hid (show Below w.heap.size w (w.alloc (.cells #[.int .i64 t, .int .i64 (n : Int), .int .i64 cd, .int .i64 g] 71)) from pa pr)
  have nz : (0 : Int) < (n : Int) := by omega
  have nz2 : 0 < n := by omega
  go_enter Tryz.func6, Tryz.ntmps6
  go_wp2_with (first
    | (go_at_call 7; refine HAw.out.mono ?_; rintro e w1 ⟨rfl, hb⟩; have HB1 := Lib.hid (pt HB0.out hb); have R1 := Lib.hid (R0.out.past hb); clear hb; have x0 := R1.out.cellAt 0 rfl; have x1 := R1.out.cellAt 1 rfl; have x2 := R1.out.cellAt 2 rfl; have x3 := R1.out.cellAt 3 rfl; have xl := R1.out.lt)
    | (go_at_call 35; refine (HDi.out _).mono ?_; rintro e w2 ⟨gb, rfl, hbk, hgb, hb⟩; clear x0 x1 x2 x3 xl; have K2 := Lib.hid hbk; clear hbk hgb; have HB2 := Lib.hid (pt HB1.out hb); have R2 := Lib.hid (R1.out.past hb); clear hb; have x0 := R2.out.cellAt 0 rfl; have x1 := R2.out.cellAt 1 rfl; have x2 := R2.out.cellAt 2 rfl; have x3 := R2.out.cellAt 3 rfl; have xl := R2.out.lt)
    | (go_at_call 36; refine (HLe.out _).mono ?_; rintro e w3 ⟨rfl, hb⟩; clear x0 x1 x2 x3 xl; have K3 := Lib.hid (show IntBlk w3 gb _ from Blk.past K2.out hb); have HB3 := Lib.hid (pt HB2.out hb); have R3 := Lib.hid (R2.out.past hb); clear hb; have x0 := R3.out.cellAt 0 rfl; have x1 := R3.out.cellAt 1 rfl; have x2 := R3.out.cellAt 2 rfl; have x3 := R3.out.cellAt 3 rfl; have xl := R3.out.lt)
    | (go_at_call 37; refine (HFe.out _).mono ?_; rintro e w4 ⟨rfl, hb⟩; clear x0 x1 x2 x3 xl; have K4 := Lib.hid (show IntBlk w4 gb _ from Blk.past K3.out hb); have HB4 := Lib.hid (pt HB3.out hb); have R4 := Lib.hid (R3.out.past hb); clear hb; have x0 := R4.out.cellAt 0 rfl; have x1 := R4.out.cellAt 1 rfl; have x2 := R4.out.cellAt 2 rfl; have x3 := R4.out.cellAt 3 rfl; have xl := R4.out.lt)
    | (go_at_call 38; refine (HWe.out _).mono ?_; rintro e w5 ⟨rfl, hb⟩; clear x0 x1 x2 x3 xl; have K5 := Lib.hid (show IntBlk w5 gb _ from Blk.past K4.out hb); have HB5 := Lib.hid (pt HB4.out hb); have R5 := Lib.hid (R4.out.past hb); clear hb; have x0 := R5.out.cellAt 0 rfl; have x1 := R5.out.cellAt 1 rfl; have x2 := R5.out.cellAt 2 rfl; have x3 := R5.out.cellAt 3 rfl; have xl := R5.out.lt)
    | (go_at_call 39; refine (HRd.out _).mono ?_; rintro e w6 ⟨A6, c6, rfl, hi, hc, hb⟩; clear x0 x1 x2 x3 xl; have I6 := Lib.hid hi; clear hi hc; have K6 := Lib.hid (show IntBlk w6 gb _ from Blk.past K5.out hb); have HB6 := Lib.hid (pt HB5.out hb); have R6 := Lib.hid (R5.out.past hb); clear hb; have x0 := R6.out.cellAt 0 rfl; have x1 := R6.out.cellAt 1 rfl; have x2 := R6.out.cellAt 2 rfl; have x3 := R6.out.cellAt 3 rfl; have xl := R6.out.lt)
    | (go_at_call 17; refine (HIn.out _ _ _ _ K6.out I6.out).mono ?_; rintro e w7 ⟨rfl, hb⟩; clear x0 x1 x2 x3 xl; have K7 := Lib.hid (show IntBlk w7 gb _ from Blk.past K6.out hb); have HB7 := Lib.hid (pt HB6.out hb); have R7 := Lib.hid (R6.out.past hb); clear hb; have x0 := R7.out.cellAt 0 rfl; have x1 := R7.out.cellAt 1 rfl; have x2 := R7.out.cellAt 2 rfl; have x3 := R7.out.cellAt 3 rfl; have xl := R7.out.lt)
    | (go_at_call 40; refine (HRl.out _).mono ?_; rintro e w8 ⟨rfl, hb⟩; clear x0 x1 x2 x3 xl; have K8 := Lib.hid (show IntBlk w8 gb _ from Blk.past K7.out hb); have HB8 := Lib.hid (pt HB7.out hb); have R8 := Lib.hid (R7.out.past hb); clear hb; have x0 := R8.out.cellAt 0 rfl; have x1 := R8.out.cellAt 1 rfl; have x2 := R8.out.cellAt 2 rfl; have x3 := R8.out.cellAt 3 rfl; have xl := R8.out.lt))
  clear HAw HDi HLe HFe HWe HRd HRl HIn K2 K3 K4 K5 K6 K7 I6 R0 R1 R2 R3 R4 R5 R6 R7 HB0 HB1 HB2 HB3 HB4 HB5 HB6 HB7 x0 x1 x2 x3 xl
  go_loopw [12, 13] (fun sv iv wr => ∃ k : Nat, iv = .int .i64 (k : Int) ∧ k ≤ n ∧ sv = .int .i64 (discsL t (n : Int) k).sum ∧ Below w8.heap.size w8 wr) (fun _ iv _ => n - (intOf iv).toNat)
  case atStart => exact ⟨0, rfl, Nat.zero_le _, rfl, pr⟩
  case round =>
    obtain ⟨k, rfl, hk, rfl, hq⟩ := hrel
    have HQ := Lib.hid hq
    clear hq
    have HK := Lib.hid (show IntBlk wr gb _ from Blk.past K8.out HQ.out)
    by_cases hlt : k < n
    · have c0 := HK.out.cell (j := 0) (by rw [HDl.out]; omega)
      have ck := HK.out.cell (j := k) (by rw [HDl.out]; exact hlt)
      rw [HDt.out 0 (by omega)] at c0
      rw [HDt.out k hlt] at ck
      have hbd := HBd.out k (by omega)
      have hbd0 := HBd.out 0 (by omega)
      have hdf := HDf.out k
      have HSt := Lib.hid (show (discsL t (n : Int) (k + 1)).sum = (discsL t (n : Int) k).sum + discV t (n : Int) k by rw [HSn.out, List.sum_append]; simp)
      have hgl := Blk.lt HK.out
      generalize (discsL t (n : Int) k).sum = sm at *
      generalize hv0 : discV t (n : Int) 0 = v0 at *
      clear hv0
      generalize discV t (n : Int) k = v at *
      have q1 : wrap64 (sm + v) = sm + v := w64 (by omega)
      have q2 : wrap64 (v0 - v) = v0 - v := w64 (by omega)
      have q3 : IntKind.i64.wrap (v0 - v) = v0 - v := IntWalk.i64_in _ (by omega)
      have k0 : (0 : Int) ≤ (k : Int) := by omega
      have k1 : (k : Int) < (n : Int) := by omega
      have hwt : withinB (v0 - v) 0 1 = true := by simp only [withinB, Bool.and_eq_true, decide_eq_true_eq]; omega
      have HWt := Lib.hid (fun W => (show Calls Tryz.prog 41 #[.int .i64 (v0 - v), .int .i64 0, .int .i64 1] W fun e w' => e = .returned (.bool true) ∧ W = w' by
        have h := refWithin_any (v0 - v) 0 1 W
        rw [hwt] at h
        exact h))
      clear hwt hdf hbd hbd0
      go_wp2
      refine region_below 9 follows_mixed (by kernel_rfl) ?_
      intro C hC
      simp only [List.take_succ_cons, List.take_zero, List.drop_succ_cons, List.drop_zero]
      repeat (first
        | ((with_reducible refine quiet_plain rfl (fun K hK => ?_)); (focus (apply quiet_val; (focus (intro w' hw; obtain ⟨hcq, hfq⟩ := bcell ((hC.out _).1 hw); go_simp; (first | done | rfl | (with_reducible exact call_same hw (HWt.out _))))); (simp only [Act.put, List.setIfInBounds_toArray, List.set_cons_succ, List.set_cons_zero]); (with_reducible refine hK _ ?_); clear hK K)))
        | ((with_reducible refine quiet_skip ?_ ?_); (focus (first | (simp [Region.wanted, yielded]; done) | (simp [Region.wanted, yielded, undef]; done))); simp only [Act.put, List.setIfInBounds_toArray, List.set_cons_succ, List.set_cons_zero])
        | ((with_reducible refine quiet_go ?_ (fun K hK => ?_)); (focus (first | (simp [Region.wanted, yielded]; done) | (simp [Region.wanted, yielded, undef]; done))); (focus (apply quiet_val; (focus (intro w' hw; obtain ⟨hcq, hfq⟩ := bcell ((hC.out _).1 hw); go_simp; (first | done | rfl | (with_reducible exact call_same hw (HWt.out _))))); (simp only [Act.put, List.setIfInBounds_toArray, List.set_cons_succ, List.set_cons_zero]); (with_reducible refine hK _ ?_); clear hK K))))
      refine wpQuiet_nil ?_
      intro w1 hb1
      replace hb1 := (hC.out _).1 hb1
      clear hC C
      obtain ⟨hc1, hf1⟩ := bcell hb1
      have HQ2 := Lib.hid (pt HQ.out hb1)
      clear hb1 hc1 hf1
      go_wp2
      go_roundw
      case rel => exact ⟨k + 1, by go_num, by omega, by rw [HSt.out, q1], HQ2.out⟩
      case measure => simp [intOf]; omega
    · have hkn : k = n := by omega
      subst hkn
      have R9 := Lib.hid (R8.out.past HQ.out)
      have HB9 := Lib.hid (pt HB8.out HQ.out)
      have x0 := R9.out.cellAt 0 rfl
      have x1 := R9.out.cellAt 1 rfl
      have x2 := R9.out.cellAt 2 rfl
      have x3 := R9.out.cellAt 3 rfl
      have xl := R9.out.lt
      rw [HAl.out]
      clear HK HSn HDt HBd HDf HAl R8 HB8 K8 HQ
      generalize lenV (fewK t (k : Int)) cd g = LL at *
      go_wp2_with (first
        | (go_at_call 41; refine (refWithin_any _ _ _ _).mono ?_; rintro e w' ⟨rfl, rfl⟩; rw [hr])
        | (go_at_call 42; refine (HRf.out _).mono ?_; rintro e wa ⟨rfl, hb⟩; have HBa := Lib.hid (pt HB9.out hb); clear hb))
      go_ret
      exact ⟨rfl, HBa.out⟩

set_option maxRecDepth 100000 in
set_option maxHeartbeats 8000000 in
theorem wind_fit (t cd g room : Int) (n : Nat) (w : World) (hU : UnitIn w) (hQ : TabS 1 qWords w) (hW : TabS 0 uWords w) (h0 : windE t (n : Int) cd g = 0) (hr : withinB room 1 1000000 = true) (hl : ¬ room < lenV (fewK t (n : Int)) cd g) :
    Calls Tryz.prog 6 #[.agg #[.int .i64 t, .int .i64 (n : Int), .int .i64 cd, .int .i64 g], .int .i64 room] w fun e w' => e = .returned (.bool true) ∧ Below w.heap.size w w' := by
  have HAw := Lib.hid (awake_any (w.alloc (.cells #[.int .i64 t, .int .i64 (n : Int), .int .i64 cd, .int .i64 g] 71)) (hU.below (pa pr)) (hQ.below (pa pr)) (hW.below (pa pr)))
  have HDi := Lib.hid (fun W => discsOf_any t cd g n W h0)
  have HLe := Lib.hid (fun W => (show Calls Tryz.prog 36 #[.agg #[.int .i64 t, .int .i64 (n : Int), .int .i64 cd, .int .i64 g]] W fun e w' => e = .returned (.tuple #[.int .i64 (lenV (n : Int) cd g), .int .i64 0]) ∧ Below W.heap.size W w' from lengthOf_any t (n : Int) cd g W h0))
  have HFe := Lib.hid (fun W => fewest_any t (n : Int) cd g room W h0 hr)
  rw [if_neg hl] at HFe
  have HWe := Lib.hid (fun W => refWindingErr_any t (n : Int) cd g W)
  rw [h0] at HWe
  have hok := windE_ok h0
  have hn5 : 1 ≤ n ∧ n ≤ 500 := by omega
  have HRd := Lib.hid (fun W => refDiscsOf_any t cd g n W h0)
  have HRl := Lib.hid (fun W => refLengthOf_any t (n : Int) cd g W hok.2.1 hok.2.2.1 hok.2.2.2.1)
  have HRf := Lib.hid (fun W => refFewest_any t cd g n W h0)
  have hDl := discs_len t (n : Int) n
  have HDl := Lib.hid hDl
  have HIn := Lib.hid (fun (W : World) b A2 c2 (h1 : IntBlk W b (discsL t (n : Int) n)) (h2 : IntsIn W.heap.size W A2 (discsL t (n : Int) n)) => (show Calls Tryz.prog 17 #[.slice (some ⟨b, 0, none⟩) n n, .slice A2 n c2] W fun e w' => e = .returned (.bool true) ∧ Below W.heap.size W w' by
    have h := ints_any W.heap.size (some ⟨b, 0, none⟩) A2 n c2 (discsL t (n : Int) n) (discsL t (n : Int) n) W (ints_blk h1) h2 (by omega)
    rw [hDl, show intsB (discsL t (n : Int) n) (discsL t (n : Int) n) = true by simp [intsB]] at h
    exact h))
  have HSn := Lib.hid (fun k => discs_snoc t (n : Int) k)
  have HDt := Lib.hid (fun k (hk : k < n) => discs_at (t := t) (d := (n : Int)) hk)
  have HBd := Lib.hid (fun k hk => discs_bd (t := t) (d := (n : Int)) hok.2.1.1 (by omega) hok.1.2 k hk)
  have HDf := Lib.hid (fun k => disc_diff (t := t) (d := (n : Int)) k)
  have HAl := Lib.hid (discs_all (t := t) (n := n) hn5.1)
  clear hU hQ hW h0 hok hDl
  have R0 := Lib.hid (show Blk (w.alloc (.cells #[.int .i64 t, .int .i64 (n : Int), .int .i64 cd, .int .i64 g] 71)) w.heap.size 71 #[.int .i64 t, .int .i64 (n : Int), .int .i64 cd, .int .i64 g] from Blk.newAt rfl)
  have HB0 := Lib.hid (show Below w.heap.size w (w.alloc (.cells #[.int .i64 t, .int .i64 (n : Int), .int .i64 cd, .int .i64 g] 71)) from pa pr)
  have nz : (0 : Int) < (n : Int) := by omega
  have nz2 : 0 < n := by omega
  go_enter Tryz.func6, Tryz.ntmps6
  go_wp2_with (first
    | (go_at_call 7; refine HAw.out.mono ?_; rintro e w1 ⟨rfl, hb⟩; have HB1 := Lib.hid (pt HB0.out hb); have R1 := Lib.hid (R0.out.past hb); clear hb; have x0 := R1.out.cellAt 0 rfl; have x1 := R1.out.cellAt 1 rfl; have x2 := R1.out.cellAt 2 rfl; have x3 := R1.out.cellAt 3 rfl; have xl := R1.out.lt)
    | (go_at_call 35; refine (HDi.out _).mono ?_; rintro e w2 ⟨gb, rfl, hbk, hgb, hb⟩; clear x0 x1 x2 x3 xl; have K2 := Lib.hid hbk; clear hbk hgb; have HB2 := Lib.hid (pt HB1.out hb); have R2 := Lib.hid (R1.out.past hb); clear hb; have x0 := R2.out.cellAt 0 rfl; have x1 := R2.out.cellAt 1 rfl; have x2 := R2.out.cellAt 2 rfl; have x3 := R2.out.cellAt 3 rfl; have xl := R2.out.lt)
    | (go_at_call 36; refine (HLe.out _).mono ?_; rintro e w3 ⟨rfl, hb⟩; clear x0 x1 x2 x3 xl; have K3 := Lib.hid (show IntBlk w3 gb _ from Blk.past K2.out hb); have HB3 := Lib.hid (pt HB2.out hb); have R3 := Lib.hid (R2.out.past hb); clear hb; have x0 := R3.out.cellAt 0 rfl; have x1 := R3.out.cellAt 1 rfl; have x2 := R3.out.cellAt 2 rfl; have x3 := R3.out.cellAt 3 rfl; have xl := R3.out.lt)
    | (go_at_call 37; refine (HFe.out _).mono ?_; rintro e w4 ⟨rfl, hb⟩; clear x0 x1 x2 x3 xl; have K4 := Lib.hid (show IntBlk w4 gb _ from Blk.past K3.out hb); have HB4 := Lib.hid (pt HB3.out hb); have R4 := Lib.hid (R3.out.past hb); clear hb; have x0 := R4.out.cellAt 0 rfl; have x1 := R4.out.cellAt 1 rfl; have x2 := R4.out.cellAt 2 rfl; have x3 := R4.out.cellAt 3 rfl; have xl := R4.out.lt)
    | (go_at_call 38; refine (HWe.out _).mono ?_; rintro e w5 ⟨rfl, hb⟩; clear x0 x1 x2 x3 xl; have K5 := Lib.hid (show IntBlk w5 gb _ from Blk.past K4.out hb); have HB5 := Lib.hid (pt HB4.out hb); have R5 := Lib.hid (R4.out.past hb); clear hb; have x0 := R5.out.cellAt 0 rfl; have x1 := R5.out.cellAt 1 rfl; have x2 := R5.out.cellAt 2 rfl; have x3 := R5.out.cellAt 3 rfl; have xl := R5.out.lt)
    | (go_at_call 39; refine (HRd.out _).mono ?_; rintro e w6 ⟨A6, c6, rfl, hi, hc, hb⟩; clear x0 x1 x2 x3 xl; have I6 := Lib.hid hi; clear hi hc; have K6 := Lib.hid (show IntBlk w6 gb _ from Blk.past K5.out hb); have HB6 := Lib.hid (pt HB5.out hb); have R6 := Lib.hid (R5.out.past hb); clear hb; have x0 := R6.out.cellAt 0 rfl; have x1 := R6.out.cellAt 1 rfl; have x2 := R6.out.cellAt 2 rfl; have x3 := R6.out.cellAt 3 rfl; have xl := R6.out.lt)
    | (go_at_call 17; refine (HIn.out _ _ _ _ K6.out I6.out).mono ?_; rintro e w7 ⟨rfl, hb⟩; clear x0 x1 x2 x3 xl; have K7 := Lib.hid (show IntBlk w7 gb _ from Blk.past K6.out hb); have HB7 := Lib.hid (pt HB6.out hb); have R7 := Lib.hid (R6.out.past hb); clear hb; have x0 := R7.out.cellAt 0 rfl; have x1 := R7.out.cellAt 1 rfl; have x2 := R7.out.cellAt 2 rfl; have x3 := R7.out.cellAt 3 rfl; have xl := R7.out.lt)
    | (go_at_call 40; refine (HRl.out _).mono ?_; rintro e w8 ⟨rfl, hb⟩; clear x0 x1 x2 x3 xl; have K8 := Lib.hid (show IntBlk w8 gb _ from Blk.past K7.out hb); have HB8 := Lib.hid (pt HB7.out hb); have R8 := Lib.hid (R7.out.past hb); clear hb; have x0 := R8.out.cellAt 0 rfl; have x1 := R8.out.cellAt 1 rfl; have x2 := R8.out.cellAt 2 rfl; have x3 := R8.out.cellAt 3 rfl; have xl := R8.out.lt))
  clear HAw HDi HLe HFe HWe HRd HRl HIn K2 K3 K4 K5 K6 K7 I6 R0 R1 R2 R3 R4 R5 R6 R7 HB0 HB1 HB2 HB3 HB4 HB5 HB6 HB7 x0 x1 x2 x3 xl
  go_loopw [12, 13] (fun sv iv wr => ∃ k : Nat, iv = .int .i64 (k : Int) ∧ k ≤ n ∧ sv = .int .i64 (discsL t (n : Int) k).sum ∧ Below w8.heap.size w8 wr) (fun _ iv _ => n - (intOf iv).toNat)
  case atStart => exact ⟨0, rfl, Nat.zero_le _, rfl, pr⟩
  case round =>
    obtain ⟨k, rfl, hk, rfl, hq⟩ := hrel
    have HQ := Lib.hid hq
    clear hq
    have HK := Lib.hid (show IntBlk wr gb _ from Blk.past K8.out HQ.out)
    by_cases hlt : k < n
    · have c0 := HK.out.cell (j := 0) (by rw [HDl.out]; omega)
      have ck := HK.out.cell (j := k) (by rw [HDl.out]; exact hlt)
      rw [HDt.out 0 (by omega)] at c0
      rw [HDt.out k hlt] at ck
      have hbd := HBd.out k (by omega)
      have hbd0 := HBd.out 0 (by omega)
      have hdf := HDf.out k
      have HSt := Lib.hid (show (discsL t (n : Int) (k + 1)).sum = (discsL t (n : Int) k).sum + discV t (n : Int) k by rw [HSn.out, List.sum_append]; simp)
      have hgl := Blk.lt HK.out
      generalize (discsL t (n : Int) k).sum = sm at *
      generalize hv0 : discV t (n : Int) 0 = v0 at *
      clear hv0
      generalize discV t (n : Int) k = v at *
      have q1 : wrap64 (sm + v) = sm + v := w64 (by omega)
      have q2 : wrap64 (v0 - v) = v0 - v := w64 (by omega)
      have q3 : IntKind.i64.wrap (v0 - v) = v0 - v := IntWalk.i64_in _ (by omega)
      have k0 : (0 : Int) ≤ (k : Int) := by omega
      have k1 : (k : Int) < (n : Int) := by omega
      have hwt : withinB (v0 - v) 0 1 = true := by simp only [withinB, Bool.and_eq_true, decide_eq_true_eq]; omega
      have HWt := Lib.hid (fun W => (show Calls Tryz.prog 41 #[.int .i64 (v0 - v), .int .i64 0, .int .i64 1] W fun e w' => e = .returned (.bool true) ∧ W = w' by
        have h := refWithin_any (v0 - v) 0 1 W
        rw [hwt] at h
        exact h))
      clear hwt hdf hbd hbd0
      go_wp2
      refine region_below 9 follows_mixed (by kernel_rfl) ?_
      intro C hC
      simp only [List.take_succ_cons, List.take_zero, List.drop_succ_cons, List.drop_zero]
      repeat (first
        | ((with_reducible refine quiet_plain rfl (fun K hK => ?_)); (focus (apply quiet_val; (focus (intro w' hw; obtain ⟨hcq, hfq⟩ := bcell ((hC.out _).1 hw); go_simp; (first | done | rfl | (with_reducible exact call_same hw (HWt.out _))))); (simp only [Act.put, List.setIfInBounds_toArray, List.set_cons_succ, List.set_cons_zero]); (with_reducible refine hK _ ?_); clear hK K)))
        | ((with_reducible refine quiet_skip ?_ ?_); (focus (first | (simp [Region.wanted, yielded]; done) | (simp [Region.wanted, yielded, undef]; done))); simp only [Act.put, List.setIfInBounds_toArray, List.set_cons_succ, List.set_cons_zero])
        | ((with_reducible refine quiet_go ?_ (fun K hK => ?_)); (focus (first | (simp [Region.wanted, yielded]; done) | (simp [Region.wanted, yielded, undef]; done))); (focus (apply quiet_val; (focus (intro w' hw; obtain ⟨hcq, hfq⟩ := bcell ((hC.out _).1 hw); go_simp; (first | done | rfl | (with_reducible exact call_same hw (HWt.out _))))); (simp only [Act.put, List.setIfInBounds_toArray, List.set_cons_succ, List.set_cons_zero]); (with_reducible refine hK _ ?_); clear hK K))))
      refine wpQuiet_nil ?_
      intro w1 hb1
      replace hb1 := (hC.out _).1 hb1
      clear hC C
      obtain ⟨hc1, hf1⟩ := bcell hb1
      have HQ2 := Lib.hid (pt HQ.out hb1)
      clear hb1 hc1 hf1
      go_wp2
      go_roundw
      case rel => exact ⟨k + 1, by go_num, by omega, by rw [HSt.out, q1], HQ2.out⟩
      case measure => simp [intOf]; omega
    · have hkn : k = n := by omega
      subst hkn
      have R9 := Lib.hid (R8.out.past HQ.out)
      have HB9 := Lib.hid (pt HB8.out HQ.out)
      have x0 := R9.out.cellAt 0 rfl
      have x1 := R9.out.cellAt 1 rfl
      have x2 := R9.out.cellAt 2 rfl
      have x3 := R9.out.cellAt 3 rfl
      have xl := R9.out.lt
      rw [HAl.out]
      clear HK HSn HDt HBd HDf HAl R8 HB8 K8 HQ
      generalize lenV (fewK t (k : Int)) cd g = LL at *
      generalize fewK t (k : Int) = KK at *
      go_wp2_with (first
        | (go_at_call 41; refine (refWithin_any _ _ _ _).mono ?_; rintro e w' ⟨rfl, rfl⟩; rw [hr])
        | (go_at_call 42; refine (HRf.out _).mono ?_; rintro e wa ⟨rfl, hb⟩; have HBa := Lib.hid (pt HB9.out hb); clear hb))
      go_ret
      exact ⟨ret_bool (by simp), HBa.out⟩

theorem designWindings_any (t d cd g room : Int) (w : World) (hU : UnitIn w) (hQ : TabS 1 qWords w) (hW : TabS 0 uWords w) :
    Calls Tryz.prog 6 #[.agg #[.int .i64 t, .int .i64 d, .int .i64 cd, .int .i64 g], .int .i64 room] w fun e w' => e = .returned (.bool true) ∧ Below w.heap.size w w' := by
  by_cases h0 : windE t d cd g = 0
  · have hok := windE_ok h0
    obtain ⟨n, rfl⟩ : ∃ n : Nat, d = (n : Int) := ⟨d.toNat, by omega⟩
    cases hr : withinB room 1 1000000
    · exact wind_bad t cd g room n w hU hQ hW h0 hr
    · by_cases hl : room < lenV (fewK t (n : Int)) cd g
      · exact wind_long t cd g room n w hU hQ hW h0 hr hl
      · exact wind_fit t cd g room n w hU hQ hW h0 hr hl
  · exact wind_err t d cd g room w hU hQ hW h0

end Go.Proofs.YtncbigkkmgnkmaaGreatDoor
end
