/- WorksForRates: for every input the law returns true, and nothing that was there is turned (the walk). Rates whose slice's cells lie in memory. -/
import Derived.Test.YtlgioldmjohhlaaZORates
import Derived.Test.YtlgioldmjohhlaaZLDrying
namespace Go.Proofs.Ytlgioldmjohhlaa
open Go.RowKit

/-- The law's own boxes. -/
def RBox (B : Nat) (lo hi fl wlo whi at_ : Int) (A : Option Addr) (c : Nat) (rs : List Int) (w W : World) : Prop :=
  Blk W w.heap.size 67 #[.int .i64 lo, .int .i64 hi, .int .i64 fl] ∧ Blk W (w.heap.size + 1) 59 #[.int .i64 wlo, .int .i64 whi] ∧ Blk W (w.heap.size + 1 + 1) 80 #[.int .i64 at_, .slice A rs.length c] ∧ IntsIn B W A rs ∧ B ≤ w.heap.size ∧ Below w.heap.size w W
section
variable {B : Nat} {lo hi fl wlo whi at_ : Int} {A : Option Addr} {c : Nat} {rs : List Int} {w W W' : World}
theorem RBox.past (h : RBox B lo hi fl wlo whi at_ A c rs w W) (hb : Below W.heap.size W W') : RBox B lo hi fl wlo whi at_ A c rs w W' :=
  ⟨h.1.past hb, h.2.1.past hb, h.2.2.1.past hb, h.2.2.2.1.below (hb.mono (Nat.le_trans h.2.2.2.2.1 h.2.2.2.2.2.size)), h.2.2.2.2.1, pt h.2.2.2.2.2 hb⟩
theorem RBox.start (hr : IntsIn B w A rs) (hB : B ≤ w.heap.size) : RBox B lo hi fl wlo whi at_ A c rs w (((w.alloc (.cells #[.int .i64 lo, .int .i64 hi, .int .i64 fl] 67)).alloc (.cells #[.int .i64 wlo, .int .i64 whi] 59)).alloc (.cells #[.int .i64 at_, .slice A rs.length c] 80)) :=
  ⟨(Blk.newAt rfl).alloc.alloc, (Blk.newAt (by simp)).alloc, Blk.newAt (by simp), hr.below ((pa (pa (pa pr))).mono hB), hB, pa (pa (pa pr))⟩
theorem RBox.cells (h : RBox B lo hi fl wlo whi at_ A c rs w W) :
    W.cell? ⟨w.heap.size, 0, none⟩ = some (.int .i64 lo) ∧ W.cell? ⟨w.heap.size, 1, none⟩ = some (.int .i64 hi) ∧ W.cell? ⟨w.heap.size, 2, none⟩ = some (.int .i64 fl) ∧
      W.cell? ⟨w.heap.size + 1, 0, none⟩ = some (.int .i64 wlo) ∧ W.cell? ⟨w.heap.size + 1, 1, none⟩ = some (.int .i64 whi) ∧ W.cell? ⟨w.heap.size + 1 + 1, 0, none⟩ = some (.int .i64 at_) ∧ W.cell? ⟨w.heap.size + 1 + 1, 1, none⟩ = some (.slice A rs.length c) ∧ w.heap.size < W.heap.size ∧ w.heap.size + 1 < W.heap.size ∧ w.heap.size + 1 + 1 < W.heap.size :=
  ⟨h.1.cellAt 0 rfl, h.1.cellAt 1 rfl, h.1.cellAt 2 rfl, h.2.1.cellAt 0 rfl, h.2.1.cellAt 1 rfl, h.2.2.1.cellAt 0 rfl, h.2.2.1.cellAt 1 rfl, h.1.lt, h.2.1.lt, h.2.2.1.lt⟩
end


set_option maxHeartbeats 4000000 in
set_option maxRecDepth 100000 in
theorem rates_skip (B : Nat) (lo hi fl wlo whi at_ : Int) (A : Option Addr) (c : Nat) (rs : List Int) (w : World) (hr : IntsIn B w A rs) (hB : B ≤ w.heap.size) (hm : rs.length ≤ maxLen) (h : ovenE lo hi fl ≠ 0 ∨ (ovenE lo hi fl = 0 ∧ rangeErrV waterB wlo whi ≠ 0) ∨ (ovenE lo hi fl = 0 ∧ rangeErrV waterB wlo whi = 0 ∧ 60 < rs.length)) :
    Calls Try.prog 8 #[.agg #[.int .i64 lo, .int .i64 hi, .int .i64 fl], .agg #[.int .i64 wlo, .int .i64 whi], .agg #[.int .i64 at_, .slice A rs.length c]] w fun e w' => e = .returned (.bool true) ∧ Below w.heap.size w w' := by
  unfold maxLen at hm
  have HOv := Lib.hid fun W => refOvenErr_any lo hi fl W
  have HWa := Lib.hid fun W => refWaterErr_any wlo whi W
  have HBx := Lib.hid (RBox.start (lo := lo) (hi := hi) (fl := fl) (wlo := wlo) (whi := whi) (at_ := at_) (c := c) hr hB)
  generalize ovenE lo hi fl = O at *
  generalize rangeErrV waterB wlo whi = Wa at *
  clear hr
  rcases h with h | ⟨rfl, h⟩ | ⟨rfl, rfl, h⟩
  · have n1 : (O != 0) = true := by simpa using h
    clear h
    go_enter Try.func8, Try.ntmps8
    go_wp2_with (first | (go_at_call 15; refine (awake_any _).mono ?_; rintro e w1 ⟨rfl, hb⟩; replace HBx := Lib.hid (HBx.out.past hb); clear hb; obtain ⟨c0, c1, c2, c3, c4, c5, c6, l0, l1, l2⟩ := HBx.out.cells) | (go_at_call 47; go_must (refine (HOv.out _).mono ?_); rintro e w2 ⟨rfl, hb⟩; clear c0 c1 c2 c3 c4 c5 c6 l0 l1 l2; replace HBx := Lib.hid (HBx.out.past hb); clear hb; obtain ⟨c0, c1, c2, c3, c4, c5, c6, l0, l1, l2⟩ := HBx.out.cells) | (go_at_call 49; go_must (refine (HWa.out _).mono ?_); rintro e w3 ⟨rfl, hb⟩; clear c0 c1 c2 c3 c4 c5 c6 l0 l1 l2; replace HBx := Lib.hid (HBx.out.past hb); clear hb; obtain ⟨c0, c1, c2, c3, c4, c5, c6, l0, l1, l2⟩ := HBx.out.cells))
    go_ret
    exact ⟨rfl, HBx.out.2.2.2.2.2⟩
  · have n1 : (Wa != 0) = true := by simpa using h
    clear h
    go_enter Try.func8, Try.ntmps8
    go_wp2_with (first | (go_at_call 15; refine (awake_any _).mono ?_; rintro e w1 ⟨rfl, hb⟩; replace HBx := Lib.hid (HBx.out.past hb); clear hb; obtain ⟨c0, c1, c2, c3, c4, c5, c6, l0, l1, l2⟩ := HBx.out.cells) | (go_at_call 47; go_must (refine (HOv.out _).mono ?_); rintro e w2 ⟨rfl, hb⟩; clear c0 c1 c2 c3 c4 c5 c6 l0 l1 l2; replace HBx := Lib.hid (HBx.out.past hb); clear hb; obtain ⟨c0, c1, c2, c3, c4, c5, c6, l0, l1, l2⟩ := HBx.out.cells) | (go_at_call 49; go_must (refine (HWa.out _).mono ?_); rintro e w3 ⟨rfl, hb⟩; clear c0 c1 c2 c3 c4 c5 c6 l0 l1 l2; replace HBx := Lib.hid (HBx.out.past hb); clear hb; obtain ⟨c0, c1, c2, c3, c4, c5, c6, l0, l1, l2⟩ := HBx.out.cells))
    go_ret
    exact ⟨rfl, HBx.out.2.2.2.2.2⟩
  · have h60 : (60 : Int) < (rs.length : Int) := by omega
    go_enter Try.func8, Try.ntmps8
    go_wp2_with (first | (go_at_call 15; refine (awake_any _).mono ?_; rintro e w1 ⟨rfl, hb⟩; replace HBx := Lib.hid (HBx.out.past hb); clear hb; obtain ⟨c0, c1, c2, c3, c4, c5, c6, l0, l1, l2⟩ := HBx.out.cells) | (go_at_call 47; go_must (refine (HOv.out _).mono ?_); rintro e w2 ⟨rfl, hb⟩; clear c0 c1 c2 c3 c4 c5 c6 l0 l1 l2; replace HBx := Lib.hid (HBx.out.past hb); clear hb; obtain ⟨c0, c1, c2, c3, c4, c5, c6, l0, l1, l2⟩ := HBx.out.cells) | (go_at_call 49; go_must (refine (HWa.out _).mono ?_); rintro e w3 ⟨rfl, hb⟩; clear c0 c1 c2 c3 c4 c5 c6 l0 l1 l2; replace HBx := Lib.hid (HBx.out.past hb); clear hb; obtain ⟨c0, c1, c2, c3, c4, c5, c6, l0, l1, l2⟩ := HBx.out.cells))
    go_ret
    exact ⟨rfl, HBx.out.2.2.2.2.2⟩

set_option maxHeartbeats 8000000 in
set_option maxRecDepth 100000 in
theorem rates_go (B : Nat) (lo hi fl wlo whi at_ : Int) (A : Option Addr) (c : Nat) (rs : List Int) (w : World) (hr : IntsIn B w A rs) (hB : B ≤ w.heap.size) (hO : ovenE lo hi fl = 0) (hW : rangeErrV waterB wlo whi = 0) (h60 : rs.length ≤ 60) :
    Calls Try.prog 8 #[.agg #[.int .i64 lo, .int .i64 hi, .int .i64 fl], .agg #[.int .i64 wlo, .int .i64 whi], .agg #[.int .i64 at_, .slice A rs.length c]] w fun e w' => e = .returned (.bool true) ∧ Below w.heap.size w w' := by
  obtain ⟨b1, b2, b3, b4, b5, b6⟩ := oven_ok hO
  obtain ⟨v1, v2, v3, v4, v5⟩ := water_ok hW
  have hlohi : lo ≤ hi := by
    have h1 := (firstV_zero.1 hO).1
    have h2 := (unless_ne (by decide)).1 (firstV_zero.1 (firstV_zero.1 h1).2).1
    exact of_decide_eq_true h2
  have hE : ovenErrV lo hi fl wlo whi = 0 := by unfold ovenErrV; rw [hO, hW]; rfl
  have HDry := Lib.hid fun (n : Nat) (hn : n ≤ 1000) W => dryAfter_ok lo hi fl wlo whi n W hE hn b1 b2 b3 b4 b5 b6 v1 v2 v3 v4
  have HBd := Lib.hid (dryN_bd (p := (wlo, whi)) b1 b3 b4 b5 b6 v1 v2 v3 v4)
  have hov := fun W => refOvenErr_any lo hi fl W
  have hwa := fun W => refWaterErr_any wlo whi W
  rw [hO] at hov
  rw [hW] at hwa
  have HOv := Lib.hid hov
  have HWa := Lib.hid hwa
  have HE := Lib.hid hE
  have HBx := Lib.hid (RBox.start (lo := lo) (hi := hi) (fl := fl) (wlo := wlo) (whi := whi) (at_ := at_) (c := c) hr hB)
  obtain ⟨M, hM, hM1, hM2⟩ : ∃ M, (∀ W, Calls Try.prog 52 #[.int .i64 at_, .int .i64 (whi - wlo + 1)] W fun e w' => e = .returned (.int .i64 M) ∧ W = w') ∧ 0 ≤ M ∧ M ≤ whi - wlo :=
    ⟨at_ % (whi - wlo + 1), fun W => baseMod_any at_ (whi - wlo + 1) W (by omega) (by omega), Int.emod_nonneg _ (by omega), by have := Int.emod_lt_of_pos at_ (show 0 < whi - wlo + 1 by omega); omega⟩
  have HM := Lib.hid hM
  clear hM hov hwa hE hO hW hr
  have s1 : IntKind.i64.wrap (whi - wlo) = whi - wlo := IntWalk.i64_in _ (by omega)
  have s2 : IntKind.i64.wrap (whi - wlo + 1) = whi - wlo + 1 := IntWalk.i64_in _ (by omega)
  have s3 : IntKind.i64.wrap (wlo + M) = wlo + M := IntWalk.i64_in _ (by omega)
  go_enter Try.func8, Try.ntmps8
  go_wp2_with (first | (go_at_call 15; refine (awake_any _).mono ?_; rintro e w1 ⟨rfl, hb⟩; replace HBx := Lib.hid (HBx.out.past hb); clear hb; obtain ⟨c0, c1, c2, c3, c4, c5, c6, l0, l1, l2⟩ := HBx.out.cells) | (go_at_call 47; go_must (refine (HOv.out _).mono ?_); rintro e w2 ⟨rfl, hb⟩; clear c0 c1 c2 c3 c4 c5 c6 l0 l1 l2; replace HBx := Lib.hid (HBx.out.past hb); clear hb; obtain ⟨c0, c1, c2, c3, c4, c5, c6, l0, l1, l2⟩ := HBx.out.cells) | (go_at_call 49; go_must (refine (HWa.out _).mono ?_); rintro e w3 ⟨rfl, hb⟩; clear c0 c1 c2 c3 c4 c5 c6 l0 l1 l2; replace HBx := Lib.hid (HBx.out.past hb); clear hb; obtain ⟨c0, c1, c2, c3, c4, c5, c6, l0, l1, l2⟩ := HBx.out.cells))
  refine region_below 12 follows_mixed (by kernel_rfl) ?_
  intro C hC
  simp only [List.take_succ_cons, List.take_zero, List.drop_succ_cons, List.drop_zero]
  repeat (first
    | ((with_reducible refine quiet_plain rfl (fun K hK => ?_)); (focus (apply quiet_val; (focus (intro w' hw; obtain ⟨hcq, hfq⟩ := bcell ((hC.out _).1 hw); go_simp; (first | done | rfl | (with_reducible exact call_same hw (HM.out _))))); (simp only [Act.put, List.setIfInBounds_toArray, List.set_cons_succ, List.set_cons_zero]); (with_reducible refine hK _ ?_); clear hK K)))
    | ((with_reducible refine quiet_skip ?_ ?_); (focus (simp [Region.wanted, yielded]; done)); simp only [Act.put, List.setIfInBounds_toArray, List.set_cons_succ, List.set_cons_zero])
    | ((with_reducible refine quiet_go ?_ (fun K hK => ?_)); (focus (simp [Region.wanted, yielded]; done)); (focus (apply quiet_val; (focus (intro w' hw; obtain ⟨hcq, hfq⟩ := bcell ((hC.out _).1 hw); go_simp; (first | done | rfl | (with_reducible exact call_same hw (HM.out _))))); (simp only [Act.put, List.setIfInBounds_toArray, List.set_cons_succ, List.set_cons_zero]); (with_reducible refine hK _ ?_); clear hK K))))
  refine wpQuiet_nil ?_
  intro w1 hb1
  replace hb1 := (hC.out _).1 hb1
  clear hC C
  obtain ⟨hc1, hf1⟩ := bcell hb1
  clear c0 c1 c2 c3 c4 c5 c6 l0 l1 l2 hc1 hf1 s1 s2 s3
  replace HBx := Lib.hid (HBx.out.past hb1)
  clear hb1
  obtain ⟨c0, c1, c2, c3, c4, c5, c6, l0, l1, l2⟩ := HBx.out.cells
  obtain ⟨x0, hx0⟩ : ∃ x0, x0 = wlo + M := ⟨_, rfl⟩
  rw [← hx0]
  have hx1 : wlo ≤ x0 := by omega
  have hx2 : x0 ≤ whi := by omega
  have HX0 := Lib.hid hx0
  clear hx0
  go_wp2
  go_loopw [7, 8] (fun wv iv wr => ∃ (i : Nat) (x : Int), iv = .int .i64 (i : Int) ∧ wv = .int .i64 x ∧ i ≤ rs.length ∧ (dryN lo hi fl i (wlo, whi)).1 ≤ x ∧ x ≤ (dryN lo hi fl i (wlo, whi)).2 ∧ RBox B lo hi fl wlo whi at_ A c rs w wr) (fun _ iv _ => rs.length - (intOf iv).toNat)
  case atStart => exact ⟨0, x0, rfl, rfl, Nat.zero_le _, hx1, hx2, HBx.out⟩
  case round =>
    obtain ⟨i, x, rfl, rfl, hi_, hxl, hxu, hbx⟩ := hrel
    clear c0 c1 c2 c3 c4 c5 c6 l0 l1 l2 HBx
    have HBx := Lib.hid hbx
    clear hbx
    obtain ⟨c0, c1, c2, c3, c4, c5, c6, l0, l1, l2⟩ := HBx.out.cells
    have hbd := HBd.out i
    have hx0' : 0 ≤ x := by omega
    have hx3 : x ≤ 1000000 := by omega
    by_cases hlt : i < rs.length
    · have hBx := HBx.out
      obtain ⟨b, off, hA, hbB, hct⟩ := hBx.2.2.2.1.at_ hlt
      subst hA
      have hcell := hct i hlt
      have hbw : b < wr.heap.size := by have := hBx.2.2.2.2.1; have := hBx.2.2.2.2.2.size; omega
      have n0 : (0 : Int) ≤ (i : Int) := by omega
      have n1 : (i : Int) < (rs.length : Int) := by omega
      have hdi := HDry.out (i + 1) (by omega)
      rw [show (((i + 1 : Nat)) : Int) = (i : Int) + 1 by omega] at hdi
      have hnew : dryN lo hi fl (i + 1) (wlo, whi) = (driedV fl (dryN lo hi fl i (wlo, whi)).1 hi, driedV fl (dryN lo hi fl i (wlo, whi)).2 lo) := rfl
      rw [hnew] at hdi
      have HNew := Lib.hid hnew
      clear hct hBx hnew
      generalize rs.getD i 0 = r at *
      generalize dryN lo hi fl i (wlo, whi) = p at *
      obtain ⟨p1, p2⟩ := p
      dsimp only at *
      obtain ⟨m, hm, hm1, hm2⟩ : ∃ m, (∀ W, Calls Try.prog 52 #[.int .i64 r, .int .i64 (hi - lo + 1)] W fun e w' => e = .returned (.int .i64 m) ∧ W = w') ∧ 0 ≤ m ∧ m ≤ hi - lo :=
        ⟨r % (hi - lo + 1), fun W => baseMod_any r (hi - lo + 1) W (by omega) (by omega), Int.emod_nonneg _ (by omega), by have := Int.emod_lt_of_pos r (show 0 < hi - lo + 1 by omega); omega⟩
      have HMi := Lib.hid hm
      have s1 : IntKind.i64.wrap (hi - lo) = hi - lo := IntWalk.i64_in _ (by omega)
      have s2 : IntKind.i64.wrap (hi - lo + 1) = hi - lo + 1 := IntWalk.i64_in _ (by omega)
      have s3 : IntKind.i64.wrap (lo + m) = lo + m := IntWalk.i64_in _ (by omega)
      have HDi := Lib.hid hdi
      clear hm hdi
      go_wp2
      refine region_below 18 follows_mixed (by kernel_rfl) ?_
      intro C hC
      simp only [List.take_succ_cons, List.take_zero, List.drop_succ_cons, List.drop_zero]
      repeat (first
        | ((with_reducible refine quiet_plain rfl (fun K hK => ?_)); (focus (apply quiet_val; (focus (intro w' hw; obtain ⟨hcq, hfq⟩ := bcell ((hC.out _).1 hw); go_simp; (first | done | rfl | (with_reducible exact call_same hw (HMi.out _))))); (simp only [Act.put, List.setIfInBounds_toArray, List.set_cons_succ, List.set_cons_zero]); (with_reducible refine hK _ ?_); clear hK K)))
        | ((with_reducible refine quiet_skip ?_ ?_); (focus (simp [Region.wanted, yielded]; done)); simp only [Act.put, List.setIfInBounds_toArray, List.set_cons_succ, List.set_cons_zero])
        | ((with_reducible refine quiet_go ?_ (fun K hK => ?_)); (focus (simp [Region.wanted, yielded]; done)); (focus (apply quiet_val; (focus (intro w' hw; obtain ⟨hcq, hfq⟩ := bcell ((hC.out _).1 hw); go_simp; (first | done | rfl | (with_reducible exact call_same hw (HMi.out _))))); (simp only [Act.put, List.setIfInBounds_toArray, List.set_cons_succ, List.set_cons_zero]); (with_reducible refine hK _ ?_); clear hK K))))
      refine wpQuiet_nil ?_
      intro w1 hb1
      replace hb1 := (hC.out _).1 hb1
      clear hC C
      obtain ⟨hc1, hf1⟩ := bcell hb1
      clear c0 c1 c2 c3 c4 c5 c6 l0 l1 l2 hc1 hf1 s1 s2 s3 hcell
      replace HBx := Lib.hid (HBx.out.past hb1)
      clear hb1
      obtain ⟨c0, c1, c2, c3, c4, c5, c6, l0, l1, l2⟩ := HBx.out.cells
      obtain ⟨rt, hrt⟩ : ∃ rt, rt = lo + m := ⟨_, rfl⟩
      rw [← hrt]
      have hrt1 : lo ≤ rt := by omega
      have hrt2 : rt ≤ hi := by omega
      clear hrt hm1 hm2
      have hbn := driedV_bd (fl := fl) (water := x) (rate := rt) hx0' hx3 b1 (by omega) (by omega)
      have hL : driedV fl p1 hi ≤ driedV fl x rt := Int.le_trans (dried_mono hxl b5 b6) (dried_anti hrt2)
      have hU : driedV fl x rt ≤ driedV fl p2 lo := Int.le_trans (dried_mono hxu (by omega) (by omega)) (dried_anti hrt1)
      have hwi : withinB (driedV fl x rt) (driedV fl p1 hi) (driedV fl p2 lo) = true := by simp [withinB, hL, hU]
      obtain ⟨q1, q2, q3⟩ := hbn
      rcases Int.lt_or_le fl x with hfx | hfx
      · have hn := dried_hi (fl := fl) (water := x) (rate := rt) hx0' hx3 b1 (by omega) (by omega) hfx
        generalize driedV fl x rt = nx at *
        generalize driedV fl p1 hi = L2 at *
        generalize driedV fl p2 lo = H2 at *
        have q4 : fl ≤ nx := by omega
        clear q3 hbd hxl hxu
        go_wp2_with (first
          | (go_at_call 45; go_must (refine (HDi.out _).mono ?_); rintro e w4 ⟨rfl, hb⟩; clear c0 c1 c2 c3 c4 c5 c6 l0 l1 l2; replace HBx := Lib.hid (HBx.out.past hb); clear hb; obtain ⟨c0, c1, c2, c3, c4, c5, c6, l0, l1, l2⟩ := HBx.out.cells)
          | (go_at_call 32; refine (baseWithin_any _ _ _ _).mono ?_; rintro e w' ⟨rfl, rfl⟩))
        go_roundw
        case rel => exact ⟨i + 1, nx, by go_num, rfl, by omega, by rw [HNew.out]; exact hL, by rw [HNew.out]; exact hU, HBx.out.past (pa pr)⟩
        case measure => simp [intOf]; omega
      · have hn := dried_lo (fl := fl) (water := x) (rate := rt) hfx
        rw [← hn] at hwi hL hU
        clear hn q1 q2 q3 hbd hxl hxu
        generalize driedV fl p1 hi = L2 at *
        generalize driedV fl p2 lo = H2 at *
        go_wp2_with (first
          | (go_at_call 45; go_must (refine (HDi.out _).mono ?_); rintro e w4 ⟨rfl, hb⟩; clear c0 c1 c2 c3 c4 c5 c6 l0 l1 l2; replace HBx := Lib.hid (HBx.out.past hb); clear hb; obtain ⟨c0, c1, c2, c3, c4, c5, c6, l0, l1, l2⟩ := HBx.out.cells)
          | (go_at_call 32; refine (baseWithin_any _ _ _ _).mono ?_; rintro e w' ⟨rfl, rfl⟩))
        go_roundw
        case rel => exact ⟨i + 1, x, by go_num, rfl, by omega, by rw [HNew.out]; exact hL, by rw [HNew.out]; exact hU, HBx.out.past (pa pr)⟩
        case measure => simp [intOf]; omega
    · have hst := fun W => stepsFor_ok lo hi fl wlo whi x W (by
        unfold stepsErrV
        rw [HE.out, show waterB x = true by simp [waterB, withinB]; omega]
        rfl) b1 b2 b3 b4 v3 v4
      clear hbd hxl hxu
      rcases steps_cases (stepsO lo fl whi x) with ⟨n, ho⟩ | ho
      · obtain ⟨_, hn2, hn3, hn4⟩ := stepsF_some _ _ _ ho
        rw [ho] at hst
        unfold optN optE at hst
        have hn5 : n ≤ 1000 := by omega
        have hwi : withinB (n : Int) 0 1000 = true := by simp [withinB]; omega
        have hd1 := HDry.out n hn5
        rw [← dryN_hi lo hi fl wlo whi] at hn3
        have hd1' : ∃ a bb, (∀ W, Calls Try.prog 45 #[.agg #[.int .i64 lo, .int .i64 hi, .int .i64 fl], .agg #[.int .i64 wlo, .int .i64 whi], .int .i64 (n : Int)] W fun r w' => r = .returned (.tuple #[.agg #[.int .i64 a, .int .i64 bb], .int .i64 0]) ∧ Below W.heap.size W w') ∧ bb ≤ x := ⟨_, _, hd1, hn3⟩
        obtain ⟨a1, bb1, hd1', hbb1⟩ := hd1'
        have HD1 := Lib.hid hd1'
        have HSt := Lib.hid hst
        rcases Nat.eq_zero_or_pos n with hn0 | hn0
        · have hz : ((n : Int) == 0) = true := by rw [hn0]; rfl
          clear hn0 hst hd1 hd1' ho hn2 hn3 hn4
          go_wp2_with (first
            | (go_at_call 46; go_must (refine (HSt.out _).mono ?_); rintro e w4 ⟨rfl, hb⟩; clear c0 c1 c2 c3 c4 c5 c6 l0 l1 l2; replace HBx := Lib.hid (HBx.out.past hb); clear hb; obtain ⟨c0, c1, c2, c3, c4, c5, c6, l0, l1, l2⟩ := HBx.out.cells)
            | (go_at_call 45; go_must (refine (HD1.out _).mono ?_); rintro e w5 ⟨rfl, hb⟩; clear c0 c1 c2 c3 c4 c5 c6 l0 l1 l2; replace HBx := Lib.hid (HBx.out.past hb); clear hb; obtain ⟨c0, c1, c2, c3, c4, c5, c6, l0, l1, l2⟩ := HBx.out.cells)
            | (go_at_call 32; refine (baseWithin_any _ _ _ _).mono ?_; rintro e w' ⟨rfl, rfl⟩))
          go_ret
          exact ⟨rfl, pa HBx.out.2.2.2.2.2⟩
        · have hz : ((n : Int) == 0) = false := by rw [beq_eq_false_iff_ne]; omega
          have hd2 := HDry.out (n - 1) (by omega)
          rw [show (((n - 1 : Nat)) : Int) = (n : Int) - 1 by omega] at hd2
          have hn6 := hn4 (n - 1) (by omega) (by omega)
          rw [← dryN_hi lo hi fl wlo whi] at hn6
          have hd2' : ∃ a bb, (∀ W, Calls Try.prog 45 #[.agg #[.int .i64 lo, .int .i64 hi, .int .i64 fl], .agg #[.int .i64 wlo, .int .i64 whi], .int .i64 ((n : Int) - 1)] W fun r w' => r = .returned (.tuple #[.agg #[.int .i64 a, .int .i64 bb], .int .i64 0]) ∧ Below W.heap.size W w') ∧ x < bb := ⟨_, _, hd2, hn6⟩
          obtain ⟨a2, bb2, hd2', hbb2⟩ := hd2'
          have HD2 := Lib.hid hd2'
          clear hst hd1 hd1' hd2 hd2' ho hn2 hn3 hn4 hn6
          go_wp2_with (first
            | (go_at_call 46; go_must (refine (HSt.out _).mono ?_); rintro e w4 ⟨rfl, hb⟩; clear c0 c1 c2 c3 c4 c5 c6 l0 l1 l2; replace HBx := Lib.hid (HBx.out.past hb); clear hb; obtain ⟨c0, c1, c2, c3, c4, c5, c6, l0, l1, l2⟩ := HBx.out.cells)
            | (go_at_call 45; (with_reducible refine (HD1.out _).mono ?_); rintro e w5 ⟨rfl, hb⟩; clear c0 c1 c2 c3 c4 c5 c6 l0 l1 l2; replace HBx := Lib.hid (HBx.out.past hb); clear hb; obtain ⟨c0, c1, c2, c3, c4, c5, c6, l0, l1, l2⟩ := HBx.out.cells)
            | (go_at_call 45; go_must (refine (HD2.out _).mono ?_); rintro e w6 ⟨rfl, hb⟩; clear c0 c1 c2 c3 c4 c5 c6 l0 l1 l2; replace HBx := Lib.hid (HBx.out.past (pt (pa pr) hb)); clear hb; obtain ⟨c0, c1, c2, c3, c4, c5, c6, l0, l1, l2⟩ := HBx.out.cells)
            | (go_at_call 32; refine (baseWithin_any _ _ _ _).mono ?_; rintro e w' ⟨rfl, rfl⟩))
          go_ret
          exact ⟨rfl, pa HBx.out.2.2.2.2.2⟩
      · rw [ho] at hst
        unfold optN optE at hst
        have HSt := Lib.hid hst
        clear hst ho
        go_wp2_with (go_at_call 46; go_must (refine (HSt.out _).mono ?_); rintro e w4 ⟨rfl, hb⟩; clear c0 c1 c2 c3 c4 c5 c6 l0 l1 l2; replace HBx := Lib.hid (HBx.out.past hb); clear hb; obtain ⟨c0, c1, c2, c3, c4, c5, c6, l0, l1, l2⟩ := HBx.out.cells)
        go_ret
        exact ⟨rfl, HBx.out.2.2.2.2.2⟩

end Go.Proofs.Ytlgioldmjohhlaa
