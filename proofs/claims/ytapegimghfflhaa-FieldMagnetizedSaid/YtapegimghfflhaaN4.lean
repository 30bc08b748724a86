/- Contract: EnergySpan (package field).
Contract: slope (package field): by how much the last piece of a curve rises. -/
import Derived.Test.YtapegimghfflhaaN3
import Derived.Test.YtapegimghfflhaaMh

section
namespace Go.Proofs.Ytapegimghfflhaa
open Go.RowKit

theorem scan_allF {f : Nat → Int} {n : Nat} : ∀ {m k : Nat}, n - k = m → (∀ j, k ≤ j → j < n → f j = 0) → scan f n k = (0, 0)
  | 0, k, h, _ => scan_end (by omega)
  | m + 1, k, h, hz => by
    rw [scan_step (by omega), if_pos (hz k (Nat.le_refl _) (by omega))]
    exact scan_allF (m := m) (k := k + 1) (by omega) fun j h1 h2 => hz j (by omega) h2
theorem netE_of {N : Nat} {bs : List FBr} (h : NetOk N bs) : (netE (N : Int) bs).2 = 0 := by
  have hN := h.n
  have hm := h.m
  have h1 : netE1 (N : Int) bs.length = 0 := by
    unfold netE1 withinB
    rw [show (decide (1 ≤ (N : Int)) && decide ((N : Int) ≤ 5)) = true by simp; omega, show decide ((bs.length : Int) ≤ 7) = true by simp; omega]
    rfl
  unfold netE
  rw [if_neg (by rw [h1]; simp), scan_allF rfl fun j _ hj => ?_]
  obtain ⟨g1, g2, g3, g4, g5⟩ := h.br _ (getD_memF hj)
  generalize bs.getD j default = x at *
  have e1 : isNodeB (N : Int) x.a = true := by unfold isNodeB withinB; simp; omega
  have e2 : isNodeB (N : Int) x.b = true := by unfold isNodeB withinB; simp; omega
  have e3 : (x.a != x.b) = true := by simpa using g3
  have e4 : withinB x.r 1 20 = true := by unfold withinB; simp; omega
  have e5 : withinB x.t (-50) 50 = true := by unfold withinB; simp; omega
  unfold brErr
  rw [e1, e2, e3, e4, e5]
  rfl
theorem with_ok {N : Nat} {bs : List FBr} (h : NetOk N bs) {xs : List Int} (hx : ∀ k, k < bs.length → 1 ≤ xs.getD k 0 ∧ xs.getD k 0 ≤ 20) : NetOk N (withV bs xs) := by
  refine ⟨h.n, by rw [withV_len]; exact h.m, fun y hy => ?_⟩
  obtain ⟨k, hk, e⟩ := List.getElem_of_mem hy
  have hk2 : k < bs.length := by rwa [withV_len] at hk
  have h3 := withV_at bs xs hk2
  rw [List.getD_eq_getElem?_getD, List.getElem?_eq_getElem hk] at h3
  simp only [Option.getD_some] at h3
  rw [e] at h3
  obtain ⟨g1, g2, g3, _, g5⟩ := h.br _ (getD_memF hk2)
  rw [h3]
  exact ⟨g1, g2, g3, hx k hk2, g5⟩
theorem rng_ok {rs : List DTerm} {n : Nat} (h : rngE rs (n : Int) = 0) : rs.length = n ∧ ∀ k, k < n → (1 ≤ (rs.getD k default).f ∧ (rs.getD k default).f ≤ 20) ∧ (1 ≤ (rs.getD k default).q ∧ (rs.getD k default).q ≤ 20) ∧ (rs.getD k default).f ≤ (rs.getD k default).q := by
  unfold rngE at h
  by_cases hc : (rs.length : Int) = (n : Int)
  · rw [if_pos hc] at h
    refine ⟨by omega, fun k hk => ?_⟩
    have h2 := scan_noneF rfl h k (Nat.zero_le _) (by omega)
    unfold rngE1 at h2
    obtain ⟨f1, f2⟩ := firstV_zero.1 h2
    have f1 := (unless_ne (by decide)).1 f1
    have f2 := (unless_ne (by decide)).1 (firstV_zero.1 f2).1
    unfold withinB at f1
    simp only [Bool.and_eq_true, decide_eq_true_eq] at f1 f2
    exact ⟨⟨by omega, by omega⟩, ⟨by omega, by omega⟩, f2⟩
  · rw [if_neg hc] at h
    exact absurd h (by decide)

set_option maxHeartbeats 8000000 in
set_option maxRecDepth 100000 in
theorem EnergySpan_ok (B : Nat) (N : Nat) (bs : List FBr) (rs : List DTerm) (A RA : Option Addr) (n c rc : Nat) (w : World) (hr : CellsIn B w A (brsC bs)) (hR : CellsIn B w RA (termsC rs)) (hB : B ≤ w.heap.size) (hn : bs.length = n) (hE : (netE (N : Int) bs).2 = 0) (hRE : rngE rs (n : Int) = 0) (V1 V2 : Int × Int × Int) (hV1 : energyV (withV bs (rs.map (·.q))) N (trnV (withV bs (rs.map (·.q)))) (trnV (withV bs (rs.map (·.q)))) = V1) (hV2 : energyV (withV bs (rs.map (·.f))) N (trnV (withV bs (rs.map (·.f)))) (trnV (withV bs (rs.map (·.f)))) = V2) :
    Calls Try.prog 17 #[.agg #[.int .i64 (N : Int), .slice A n c], .slice RA n rc] w fun e w' => e = .returned (.tuple #[.agg #[.int .i64 (spanV V1 V2).1.1, .int .i64 (spanV V1 V2).1.2.1, .int .i64 (spanV V1 V2).1.2.2.1, .int .i64 (spanV V1 V2).1.2.2.2], .int .i64 (spanV V1 V2).2]) ∧ Below w.heap.size w w' := by
  have hok := net_ok hE
  have hm := hok.m
  obtain ⟨hrl, hrb⟩ := rng_ok hRE
  have HE := Lib.hid (fun W (hW : Below w.heap.size w W) => (show Calls Try.prog 33 #[.agg #[.int .i64 (N : Int), .slice A n c]] W fun e w' => e = .returned (.int .i64 0) ∧ Below W.heap.size W w' from by
    have h := netErr_any B N bs A n c W (hr.below (hW.mono hB)) (Nat.le_trans hB hW.size) hn (by omega)
    rwa [hE] at h))
  have HRE := Lib.hid (fun W (hW : Below w.heap.size w W) => (show Calls Try.prog 38 #[.slice RA n rc, .int .i64 (n : Int)] W fun e w' => e = .returned (.int .i64 0) ∧ Below W.heap.size W w' from by
    have h := rangesErr_any B rs RA n rc (n : Int) W (hR.below (hW.mono hB)) (Nat.le_trans hB hW.size) hrl (by omega)
    rwa [hRE] at h))
  have HWh := Lib.hid (fun W (hW : Below w.heap.size w W) => with_high B N bs rs A RA n c rc W (hr.below (hW.mono hB)) (hR.below (hW.mono hB)) (Nat.le_trans hB hW.size) hn hrl (by omega))
  have HWl := Lib.hid (fun W (hW : Below w.heap.size w W) => with_low B N bs rs A RA n c rc W (hr.below (hW.mono hB)) (hR.below (hW.mono hB)) (Nat.le_trans hB hW.size) hn hrl (by omega))
  have hoh := with_ok (xs := rs.map (·.q)) hok (fun k hk => by rw [rng_q (by omega)]; exact (hrb k (by omega)).2.1)
  have hol := with_ok (xs := rs.map (·.f)) hok (fun k hk => by rw [rng_f (by omega)]; exact (hrb k (by omega)).1)
  have hlh : (withV bs (rs.map (·.q))).length = n := by rw [withV_len]; exact hn
  have hll : (withV bs (rs.map (·.f))).length = n := by rw [withV_len]; exact hn
  generalize withV bs (rs.map (·.q)) = bh at *
  generalize withV bs (rs.map (·.f)) = bl at *
  have hEh := netE_of hoh
  have hEl := netE_of hol
  have HEh := Lib.hid (fun (W : World) (A2 : Option Addr) (c2 : Nat) (h : CellsIn W.heap.size W A2 (brsC bh)) => EnergyOf_ok W.heap.size N bh A2 n c2 W h (Nat.le_refl _) hlh hEh V1 hV1)
  have HEl := Lib.hid (fun (W : World) (A2 : Option Addr) (c2 : Nat) (h : CellsIn W.heap.size W A2 (brsC bl)) => EnergyOf_ok W.heap.size N bl A2 n c2 W h (Nat.le_refl _) hll hEl V2 hV2)
  obtain ⟨p1, p2, p3⟩ := V1
  obtain ⟨q1, q2, q3⟩ := V2
  have HSp := Lib.hid (fun W => span_any p1 p2 p3 q1 q2 q3 W)
  have HV2 := Lib.hid (show firstV [0, 0] = 0 from rfl)
  have HB0 := Lib.hid (show Below w.heap.size w ((w.alloc (.cells #[.int .i64 (N : Int), .slice A n c] 49)).alloc (.cells #[.int .i64 0, .int .i64 0, .int .i64 0, .int .i64 0] 53)) from pa (pa pr))
  have R0 := Lib.hid (show Blk ((w.alloc (.cells #[.int .i64 (N : Int), .slice A n c] 49)).alloc (.cells #[.int .i64 0, .int .i64 0, .int .i64 0, .int .i64 0] 53)) w.heap.size 49 #[.int .i64 (N : Int), .slice A n c] from (Blk.newAt rfl).alloc)
  have Z0 := Lib.hid (show Blk ((w.alloc (.cells #[.int .i64 (N : Int), .slice A n c] 49)).alloc (.cells #[.int .i64 0, .int .i64 0, .int .i64 0, .int .i64 0] 53)) (w.heap.size + 1) 53 #[.int .i64 0, .int .i64 0, .int .i64 0, .int .i64 0] from Blk.newAt (by simp))
  clear hok hr hR hE hn hRE hrl hrb hoh hol hV1 hV2 hlh hll hEh hEl
  generalize spanV (p1, p2, p3) (q1, q2, q3) = V at *
  obtain ⟨⟨s1, s2, s3, s4⟩, s5⟩ := V
  dsimp only at *
  go_enter Try.func17, Try.ntmps17
  go_wp2
  generalize (w.alloc (.cells #[.int .i64 (N : Int), .slice A n c] 49)).alloc (.cells #[.int .i64 0, .int .i64 0, .int .i64 0, .int .i64 0] 53) = w0 at *
  have x0 := R0.out.cellAt 0 rfl
  have x1 := R0.out.cellAt 1 rfl
  have xl := R0.out.lt
  have HEw := Lib.hid (fun W (hW : Below w0.heap.size w0 W) => HE.out W (HB0.out.trans (hW.mono HB0.out.size)))
  have HRw := Lib.hid (fun W (hW : Below w0.heap.size w0 W) => HRE.out W (HB0.out.trans (hW.mono HB0.out.size)))
  refine region_below 7 follows_mixed (by kernel_rfl) ?_
  intro C hC
  simp only [List.take_succ_cons, List.take_zero, List.drop_succ_cons, List.drop_zero]
  repeat (first
    | ((with_reducible refine quiet_plain rfl (fun K hK => ?_)); (focus (apply quiet_val; (focus (intro w' hw; obtain ⟨hcq, hfq⟩ := bcell ((hC.out _).1 hw); go_simp; (first | done | rfl | (with_reducible exact call_below hC hw (HEw.out _ ((hC.out _).1 hw))) | (with_reducible exact call_below hC hw (HRw.out _ ((hC.out _).1 hw)))))); (simp only [Act.put, List.setIfInBounds_toArray, List.set_cons_succ, List.set_cons_zero]); (with_reducible refine hK _ ?_); clear hK K)))
    | ((with_reducible refine quiet_skip ?_ ?_); (focus (first | (simp [Region.wanted, yielded]; done) | (simp [Region.wanted, yielded, undef]; done))); simp only [Act.put, List.setIfInBounds_toArray, List.set_cons_succ, List.set_cons_zero])
    | ((with_reducible refine quiet_go ?_ (fun K hK => ?_)); (focus (first | (simp [Region.wanted, yielded]; done) | (simp [Region.wanted, yielded, undef]; done))); (focus (apply quiet_val; (focus (intro w' hw; obtain ⟨hcq, hfq⟩ := bcell ((hC.out _).1 hw); go_simp; (first | done | rfl | (with_reducible exact call_below hC hw (HEw.out _ ((hC.out _).1 hw))) | (with_reducible exact call_below hC hw (HRw.out _ ((hC.out _).1 hw)))))); (simp only [Act.put, List.setIfInBounds_toArray, List.set_cons_succ, List.set_cons_zero]); (with_reducible refine hK _ ?_); clear hK K))))
  refine wpQuiet_nil ?_
  intro w1 hb1
  replace hb1 := (hC.out _).1 hb1
  clear hC C
  obtain ⟨hc1, hf1⟩ := bcell hb1
  have HB1 := Lib.hid (HB0.out.trans (hb1.mono HB0.out.size))
  have R1 := Lib.hid (show Blk (w1.alloc (.cells #[.int .i64 0, .int .i64 0] 33)) w.heap.size 49 #[.int .i64 (N : Int), .slice A n c] from (R0.out.past hb1).alloc)
  have Z1 := Lib.hid (show Blk (w1.alloc (.cells #[.int .i64 0, .int .i64 0] 33)) (w.heap.size + 1) 53 #[.int .i64 0, .int .i64 0, .int .i64 0, .int .i64 0] from (Z0.out.past hb1).alloc)
  have HB2 := Lib.hid (show Below w.heap.size w (w1.alloc (.cells #[.int .i64 0, .int .i64 0] 33)) from pa HB1.out)
  have R1b := Lib.hid (R0.out.past hb1)
  clear hc1 hf1 hb1 x0 x1 xl HEw HRw HE HRE R0 Z0
  have x0 := R1b.out.cellAt 0 rfl
  have x1 := R1b.out.cellAt 1 rfl
  have xl := R1b.out.lt
  have hmark := True.intro
  go_wp2_with (first
    | (go_at_call 25; (go_must (refine (first2Fd _ _ _ _ _ (by first | (go_simp; done) | (go_simp; rfl)) (by first | (go_simp; done) | (go_simp; rfl)) _ HV2.out).mono ?_)); rintro e w' ⟨rfl, rfl⟩)
    | (go_at_call 39; (clear hmark); (refine (HWh.out _ HB2.out).mono ?_); rintro e w2 ⟨A2, c2, rfl, ho2, hb2⟩; have HO2 := Lib.hid (cellsIn_of_own ho2); have HB3 := Lib.hid (pt HB2.out hb2); have R3 := Lib.hid (R1.out.past hb2); have Z3 := Lib.hid (Z1.out.past hb2); clear ho2 hb2)
    | (go_at_call 16; (refine (HEh.out _ _ _ HO2.out).mono ?_); rintro e w3 ⟨rfl, hb3⟩; clear HO2; have HB4 := Lib.hid (pt HB3.out hb3); have R4 := Lib.hid (R3.out.past hb3); have Z4 := Lib.hid (Z3.out.past hb3); clear hb3 x0 x1 xl; have x0 := R4.out.cellAt 0 rfl; have x1 := R4.out.cellAt 1 rfl; have xl := R4.out.lt; have HBt := Lib.hid (show Below w.heap.size w (w3.alloc (.cells #[.int .i64 p1, .int .i64 p2] 32)) from pa HB4.out); have T4 := Lib.hid (show Blk (w3.alloc (.cells #[.int .i64 p1, .int .i64 p2] 32)) w3.heap.size 32 #[.int .i64 p1, .int .i64 p2] from Blk.newAt rfl); have Zt := Lib.hid (show Blk (w3.alloc (.cells #[.int .i64 p1, .int .i64 p2] 32)) (w.heap.size + 1) 53 #[.int .i64 0, .int .i64 0, .int .i64 0, .int .i64 0] from Z4.out.alloc))
    | (go_at_call 39; (go_must (refine (HWl.out _ HBt.out).mono ?_)); rintro e w5 ⟨A5, c5, rfl, ho5, hb5⟩; have HO5 := Lib.hid (cellsIn_of_own ho5); have HB5 := Lib.hid (pt HBt.out hb5); have T5 := Lib.hid (T4.out.past hb5); have Z5 := Lib.hid (Zt.out.past hb5); clear ho5 hb5)
    | (go_at_call 16; (go_must (refine (HEl.out _ _ _ HO5.out).mono ?_)); rintro e w6 ⟨rfl, hb6⟩; clear HO5; have HB6 := Lib.hid (pt HB5.out hb6); have T6 := Lib.hid (T5.out.past hb6); have Z6 := Lib.hid (Z5.out.past hb6); clear hb6; have t0 := T6.out.cellAt 0 rfl; have t1 := T6.out.cellAt 1 rfl; have tl := T6.out.lt; have Zu := Lib.hid (show Blk (w6.alloc (.cells #[.int .i64 q1, .int .i64 q2] 32)) (w.heap.size + 1) 53 #[.int .i64 0, .int .i64 0, .int .i64 0, .int .i64 0] from Z6.out.alloc); have HBu := Lib.hid (show Below w.heap.size w (w6.alloc (.cells #[.int .i64 q1, .int .i64 q2] 32)) from pa HB6.out))
    | (go_at_call 42; (go_must (refine (HSp.out _).mono ?_)); rintro e w7 ⟨rfl, hb7⟩; have HB7 := Lib.hid (pt HBu.out hb7); have Z7 := Lib.hid (Zu.out.past hb7); clear hb7)
    | ((with_reducible refine store_blk (T := 53) (x := .tmp 4) (y := .tmp 43) (vs := #[.int .i64 s1, .int .i64 s2, .int .i64 s3, .int .i64 s4]) Z7.out ?_ ?_ ?_ ?_ ?_ ?_); (focus rfl); (focus exact span_size); (focus (simp [Value.oneCell']; done)); (focus (first | rfl | (go_simp; done))); (focus (first | rfl | (go_simp; done))); intro WF RF PF))
  have r0 := RF.cellAt 0 rfl
  have r1 := RF.cellAt 1 rfl
  have r2 := RF.cellAt 2 rfl
  have r3 := RF.cellAt 3 rfl
  refine bodyPost_ret (v := .tuple #[.agg #[.int .i64 s1, .int .i64 s2, .int .i64 s3, .int .i64 s4], .int .i64 s5]) (by simp [results, Try.results17, go_sem, r0, r1, r2, r3]) rfl ?_
  exact ⟨rfl, pp HB7.out PF (by omega)⟩
end Go.Proofs.Ytapegimghfflhaa
end

section
namespace Go.Proofs.Ytapegimghfflhaa
open Go.RowKit Go.Shelf
attribute [local go_sem] Oper.semAt_some undef

/-- The rise of the last piece so far. -/
def lastBy (pre : List PieceR) : Int × Int := (pre.getLast?.map fun x => x.2.1).getD (0, 0)
theorem lastBy_snoc (pre : List PieceR) (x : PieceR) : lastBy (pre ++ [x]) = x.2.1 := by simp [lastBy]
def slopeV (cv : List DTerm) : Int × Int := lastBy (pieceL cv)
theorem points_two : (Try.prog.info? 89).map (·.size) = some 2 := by kernel_rfl
set_option maxRecDepth 100000 in
set_option maxHeartbeats 8000000 in
theorem slope_in (m : Nat) (B : Nat) (cv : List DTerm) (A : Option Addr) (n c : Nat) (w : World)
    (hr : CellsIn B w A (termsC cv)) (hB : B ≤ w.heap.size) (hn : cv.length = n) (ho : PtsOk cv) (h1 : 1 ≤ m) :
    CallsIn Fence.wide m Try.prog 61 #[.agg #[.slice A n c]] w fun e w' => e = .returned (.agg #[.int .i64 (slopeV cv).1, .int .i64 (slopeV cv).2]) ∧ Below w.heap.size w w' := by
  have HM := Lib.hid (show slopeV cv = lastBy (pieceL cv) from rfl)
  have HSeq := Lib.hid (fun b1 w0 (hW : Below w.heap.size w w0) h1 c1 => pieces_seq (m - 1) B cv A n c b1 w0 (hr.below (hW.mono hB)) (Nat.le_trans hB hW.size) hn ho h1 c1)
  clear hr hn ho
  generalize slopeV cv = R at *
  refine callsIn_of_wp_marks Try.func61 rfl trivial ?_ rfl
  simp only [undef, Try.ntmps61, List.size_toArray, List.length_cons, List.length_nil, Nat.reduceAdd, Nat.reduceSub, Array.replicate_succ, Array.replicate_zero, List.push_toArray, List.append_toArray, List.nil_append, List.cons_append]
  gi_wp2_with (refine ⟨trivial, ?_⟩; gi_at_call 48; refine (callsIn_wide.2 (pieces_any _ _ _ _)).mono ?_; rintro e w' ⟨rfl, rfl⟩)
  have hb : Below w.heap.size w ((((w.alloc (.cells #[.slice A n c] 24)).alloc (.cells #[.int .i64 0, .int .i64 0] 89)).alloc (.cells #[.int .i64 0, .int .i64 0] 89)).alloc (.cells #[.slice A n c] 24)) := pa (pa (pa (pa pr)))
  have r1 : Blk ((((w.alloc (.cells #[.slice A n c] 24)).alloc (.cells #[.int .i64 0, .int .i64 0] 89)).alloc (.cells #[.int .i64 0, .int .i64 0] 89)).alloc (.cells #[.slice A n c] 24)) (w.heap.size + 1) 89 #[.int .i64 0, .int .i64 0] := ((Blk.newAt (by simp)).alloc).alloc
  have r2 : Blk ((((w.alloc (.cells #[.slice A n c] 24)).alloc (.cells #[.int .i64 0, .int .i64 0] 89)).alloc (.cells #[.int .i64 0, .int .i64 0] 89)).alloc (.cells #[.slice A n c] 24)) (w.heap.size + 1 + 1) 89 #[.int .i64 0, .int .i64 0] := (Blk.newAt (by simp)).alloc
  have r3 : Blk ((((w.alloc (.cells #[.slice A n c] 24)).alloc (.cells #[.int .i64 0, .int .i64 0] 89)).alloc (.cells #[.int .i64 0, .int .i64 0] 89)).alloc (.cells #[.slice A n c] 24)) (w.heap.size + 1 + 1 + 1) 24 #[.slice A n c] := Blk.newAt (by simp)
  generalize (((w.alloc (.cells #[.slice A n c] 24)).alloc (.cells #[.int .i64 0, .int .i64 0] 89)).alloc (.cells #[.int .i64 0, .int .i64 0] 89)).alloc (.cells #[.slice A n c] 24) = W0 at *
  have hn4 : w.heap.size ≤ w.heap.size + 1 ∧ w.heap.size + 1 < w.heap.size + 1 + 1 ∧ w.heap.size + 1 + 1 < w.heap.size + 1 + 1 + 1 := by omega
  generalize w.heap.size + 1 + 1 + 1 = b3 at *
  generalize w.heap.size + 1 + 1 = b2 at *
  generalize w.heap.size + 1 = b1 at *
  have l4 := r3.lt
  have hBW := hb.size
  refine rangeFunc_lawGA h1 (gf := 62) (fb := #[]) (lb := #[.pointer (some ⟨b3, 0, none⟩)]) rfl (enters_of Try.func62 (by kernel_rfl) rfl)
    (HSeq.out b3 W0 hb r3.lt r3) (Below.refl _ _)
    (fun h k => h.trans k) (fun G W A l o o' hG hl hl2 ho hc => KeepF.put o' (fun k hk => by rcases hk with hk | hk <;> omega) hl2)
    (fun G x A l o o' ho hc hp => hp) (fun x => rfl)
    (fun G pre W => Blk W b1 89 #[.int .i64 0, .int .i64 0] ∧ Blk W b2 89 #[.int .i64 (lastBy pre).1, .int .i64 (lastBy pre).2] ∧ Below w.heap.size w W)
    (fun G c pre W => False)
    ?hI ?hIx ?h0
    (fun x W1 => { tmps := #[.agg #[.slice A n c], .pointer (some ⟨w.heap.size, 0, none⟩), .pointer (some ⟨b1, 0, none⟩), .pointer (some ⟨b2, 0, none⟩), .pointer (some ⟨W1.heap.size, 0, none⟩), .agg #[.slice A n c], .func (.func 62) #[] #[.pointer (some ⟨b3, 0, none⟩)], .agg #[.int .i64 x.1.1, .int .i64 x.1.2, .int .i64 x.2.1.1, .int .i64 x.2.1.2], .bool x.2.2, .tuple #[], .tuple #[], .tuple #[]], defers := [] }) (fun x => .cells #[.int .i64 x.1.1, .int .i64 x.1.2, .int .i64 x.2.1.1, .int .i64 x.2.1.2] 99)
    (fun _ W A o => KeepF.of_below (pa pr)) (fun _ _ _ _ h => h) ?assign ?body ?done ?stop
  case hI => exact fun G hG s A B row hs hg hr => ⟨ownG_blk _ _ (fun k hk => by have := hG k hk; omega) s A B row hs.1 hg hr, ownG_blk _ _ (fun k hk => by have := hG k hk; omega) s A B row hs.2.1 hg hr, ownG_below (Nat.le_refl _) hb.size (fun k hk => by have := hG k hk; omega) s A B row hs.2.2 hg hr⟩
  case hIx => exact fun G c s A B row hs hg hr => hs.elim
  case h0 => exact fun G hG => ⟨r1, r2, hb⟩
  case assign =>
    intro l x W K hK
    unfold pEnc
    gi_wp2
    exact hK
  case body =>
    rintro l G pre ⟨⟨xa, xb⟩, ⟨ya, yb⟩, lst⟩ Wb W1 W hG hWb hW1 hW hbox ⟨q1, q2, hq⟩ hpx hlen
    dsimp only at hbox ⊢
    have X := Lib.hid (show Blk W W1.heap.size 99 #[.int .i64 xa, .int .i64 xb, .int .i64 ya, .int .i64 yb] from hbox)
    have m2 := X.out.cellAt 2 rfl
    have m3 := X.out.cellAt 3 rfl
    have ml := X.out.lt
    have d0 := q2.cellAt 0 rfl
    have d1 := q2.cellAt 1 rfl
    have f0 := q2.frozen 0
    have f1 := q2.frozen 1
    have g1 := q2.lt
    have HSn := Lib.hid (lastBy_snoc pre ((xa, xb), (ya, yb), lst))
    have Q2 := Lib.hid q2
    clear hbox hpx hlen hW
    gi_wp2
    refine ⟨((KeepsOthers.setCell _ _ _).trans (KeepsOthers.setCell _ _ _)).from _, (KeepF.cell (p := ⟨b2, 0, none⟩) (fun k hk => by rcases hk with hk | hk <;> (dsimp only; omega)) (by dsimp only; omega)).trans (KeepF.cell (p := ⟨b2, 1, none⟩) (fun k hk => by rcases hk with hk | hk <;> (dsimp only; omega)) (by dsimp only; omega)), (q1.far (p := ⟨b2, 0, none⟩) (by dsimp only; omega)).far (p := ⟨b2, 1, none⟩) (by dsimp only; omega), ?_, ps (ps hq (by dsimp only; omega)) (by dsimp only; omega)⟩
    rw [HSn.out]
    simpa using ((Q2.out.set_ 0 (.int .i64 ya)).set_ 1 (.int .i64 yb))
  case done =>
    rintro G D xs W hD rfl ⟨q1, q2, hq⟩ hK
    rw [← HM.out] at q2
    obtain ⟨ra, rb⟩ := R
    dsimp only at q2 ⊢
    have d0 := q2.cellAt 0 rfl
    have d1 := q2.cellAt 1 rfl
    have g2 := q2.lt
    have e0 := q1.cellAt 0 rfl
    have e1 := q1.cellAt 1 rfl
    have f0 := q1.frozen 0
    have f1 := q1.frozen 1
    have g1 := q1.lt
    gi_wp2
    refine ⟨by simp, .inl ⟨_, _, rfl, run_takeDeferred (((KeepsOthers.setCell W ⟨b1, 0, none⟩ (.int .i64 ra)).trans (KeepsOthers.setCell _ ⟨b1, 1, none⟩ (.int .i64 rb))).same D _ hK rfl), ?_⟩⟩
    have p2 : Blk (((W.setCell ⟨b1, 0, none⟩ (.int .i64 ra)).setCell ⟨b1, 1, none⟩ (.int .i64 rb)).putObj D (.deferred none)) b1 89 #[.int .i64 ra, .int .i64 rb] := Blk.putObj (by simpa using ((q1.set_ 0 (.int .i64 ra)).set_ 1 (.int .i64 rb))) (by omega)
    have z0 := p2.cellAt 0 rfl
    have z1 := p2.cellAt 1 rfl
    refine ⟨.agg #[.int .i64 ra, .int .i64 rb], by simp [results, Try.results61, go_sem, z0, z1], ?_⟩
    exact ⟨rfl, (ps (ps hq (by dsimp only; omega)) (by dsimp only; omega)).trans ⟨rfl, rfl, rfl, by simp, fun k hk => World.putObj_heap_other (by omega)⟩⟩
  case stop =>
    rintro G D c' pre W hD hp hx hK
    exact hx.elim
theorem slope_any (B : Nat) (cv : List DTerm) (A : Option Addr) (n c : Nat) (w : World) (hr : CellsIn B w A (termsC cv)) (hB : B ≤ w.heap.size) (hn : cv.length = n) (ho : PtsOk cv) :
    Calls Try.prog 61 #[.agg #[.slice A n c]] w fun e w' => e = .returned (.agg #[.int .i64 (slopeV cv).1, .int .i64 (slopeV cv).2]) ∧ Below w.heap.size w w' :=
  callsIn_wide.1 (slope_in 1 B cv A n c w hr hB hn ho (Nat.le_refl _))
end Go.Proofs.Ytapegimghfflhaa
end
