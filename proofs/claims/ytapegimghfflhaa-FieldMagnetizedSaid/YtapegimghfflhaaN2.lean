/- Contracts: listErr of windings, windingErr, MutualOf (package field). -/
import Derived.Test.YtapegimghfflhaaN1

section
namespace Go.Proofs.Ytapegimghfflhaa
open Go.RowKit

/-- The error of a list of numbers: their count, then each of them. -/
def lstE (p : Int → Bool) (xs : List Int) (cnt : Int) : Int := firstV [unlessV (decide ((xs.length : Int) = cnt)) 10, unlessV (!(xs.any fun x => !p x)) 2]
def turnB (x : Int) : Bool := withinB x (-50) 50
theorem any_drop (p : Int → Bool) (xs : List Int) (k : Nat) (h : k < xs.length) : (xs.drop k).any p = (p (xs.getD k 0) || (xs.drop (k + 1)).any p) := by
  rw [List.drop_eq_getElem_cons h, List.any_cons]
  simp [List.getD, h]
theorem lstIn_turns (x : Int) (b : Nat) (w : World) (h : w.cell? ⟨b, 0, none⟩ = some (.func (.func 59) #[] #[])) (_hl : b < w.heap.size) :
    Calls Try.prog 70 #[.int .i64 x, .pointer (some ⟨b, 0, none⟩)] w fun e w' => e = .returned (.bool (!turnB x)) ∧ w = w' := by
  have HI := Lib.hid (show Calls Try.prog 59 #[.int .i64 x] w fun e w' => e = .returned (.bool (turnB x)) ∧ w = w' from (isTurns_any x _ rfl _))
  generalize turnB x = v at *
  go_enter Try.func70, Try.ntmps70
  go_wp2_with (go_at_call 59; refine HI.out.mono ?_; rintro e w' ⟨rfl, rfl⟩)
  go_ret
  exact ⟨rfl, rfl⟩
set_option maxHeartbeats 1000000 in
theorem lstIdx_turns (B : Nat) (A : Option Addr) (n c : Nat) (xs : List Int) (b : Nat) (w : World) (hr : IntsIn B w A xs) (hn : xs.length = n) (hm : n ≤ 1000) (h : w.cell? ⟨b, 0, none⟩ = some (.func (.func 59) #[] #[])) (hl : b < w.heap.size) :
    Calls Try.prog 72 #[.slice A n c, .func (.func 70) #[] #[.pointer (some ⟨b, 0, none⟩)]] w fun e w' => ∃ r : Int, e = .returned (.int .i64 r) ∧ decide (0 ≤ r) = (xs.any fun x => !turnB x) ∧ w = w' := by
  subst hn
  have HC := Lib.hid (fun x => lstIn_turns x b w h hl)
  have HR := Lib.hid hr
  clear h hl hr
  go_enter Try.func72, Try.ntmps72
  go_wp2
  go_loopw [8] (fun i wr => ∃ k : Nat, k ≤ xs.length ∧ i = .int .i64 k ∧ (xs.any fun x => !turnB x) = ((xs.drop k).any fun x => !turnB x) ∧ wr = w) (fun i _ => xs.length - (intOf i).toNat)
  case atStart => exact ⟨0, Nat.zero_le _, rfl, rfl, rfl⟩
  case round =>
    obtain ⟨k, hk, rfl, hf, rfl⟩ := hrel
    by_cases hlt : k < xs.length
    · obtain ⟨b1, off, rfl, hb1, hc⟩ := HR.out.at_ hlt
      have hcell := hc k hlt
      have HF := Lib.hid (hf.trans (any_drop _ xs k hlt))
      have hk0 : (0 : Int) ≤ (k : Int) := by omega
      clear hc hf
      generalize xs.getD k 0 = y at *
      have HCy := Lib.hid (HC.out y)
      have HPy := Lib.hid (show ∃ v, v = turnB y from ⟨_, rfl⟩)
      obtain ⟨v, hv⟩ := HPy.out
      rw [← hv] at HCy HF
      clear HPy hv
      cases v
      · go_wp2_with (go_at_call 70; (go_must (refine HCy.out.mono ?_)); rintro e w' ⟨rfl, rfl⟩)
        go_ret
        exact ⟨(k : Int), rfl, by rw [HF.out]; simp, rfl⟩
      · go_wp2_with (go_at_call 70; (go_must (refine HCy.out.mono ?_)); rintro e w' ⟨rfl, rfl⟩)
        go_roundw
        case rel => exact ⟨k + 1, by omega, by go_num, by rw [HF.out]; simp, (by first | trivial | rfl)⟩
        case measure => simp [intOf]; omega
    · have HF := Lib.hid (show (xs.any fun x => !turnB x) = false by rw [hf, List.drop_eq_nil_of_le (by omega)]; rfl)
      clear hf
      go_wp2
      go_ret
      exact ⟨-1, rfl, by rw [HF.out]; decide, rfl⟩
theorem lstAny_turns (B : Nat) (A : Option Addr) (n c : Nat) (xs : List Int) (b : Nat) (w : World) (hr : IntsIn B w A xs) (hn : xs.length = n) (hm : n ≤ 1000) (h : w.cell? ⟨b, 0, none⟩ = some (.func (.func 59) #[] #[])) (hl : b < w.heap.size) :
    Calls Try.prog 69 #[.slice A n c, .func (.func 70) #[] #[.pointer (some ⟨b, 0, none⟩)]] w fun e w' => e = .returned (.bool (xs.any fun x => !turnB x)) ∧ w = w' := by
  have HI := Lib.hid (lstIdx_turns B A n c xs b w hr hn hm h hl)
  clear hr hn h hl
  generalize (xs.any fun x => !turnB x) = v at *
  go_enter Try.func69, Try.ntmps69
  go_wp2_with (go_at_call 72; (go_must (refine HI.out.mono ?_)); rintro e w' ⟨r, rfl, hrv, rfl⟩; have HRv := Lib.hid hrv; clear hrv)
  go_ret
  exact ⟨ret_bool (by rw [← HRv.out]), rfl⟩
set_option maxHeartbeats 1000000 in
theorem listErr_turns (B : Nat) (A : Option Addr) (n c : Nat) (xs : List Int) (cnt : Int) (w : World) (hr : IntsIn B w A xs) (hB : B ≤ w.heap.size) (hn : xs.length = n) (hm : n ≤ 1000) :
    Calls Try.prog 58 #[.slice A n c, .int .i64 cnt, .func (.func 59) #[] #[]] w fun e w' => e = .returned (.int .i64 (lstE turnB xs cnt)) ∧ Below w.heap.size w w' := by
  have HL := Lib.hid (show firstV [unlessV (decide ((n : Int) = cnt)) 10, unlessV (!(xs.any fun x => !turnB x)) 2] = lstE turnB xs cnt from by unfold lstE; rw [hn])
  have Z0 := Lib.hid (show Blk (w.alloc (.cells #[.func (.func 59) #[] #[]] 90)) w.heap.size 90 #[.func (.func 59) #[] #[]] from Blk.newAt rfl)
  have HB0 := Lib.hid (show Below w.heap.size w (w.alloc (.cells #[.func (.func 59) #[] #[]] 90)) from pa pr)
  have HA := Lib.hid (fun W (hW : Below w.heap.size w W) (hz : Blk W w.heap.size 90 #[.func (.func 59) #[] #[]]) => lstAny_turns B A n c xs w.heap.size W (hr.below (hW.mono hB)) hn hm (hz.cellAt 0 rfl) hz.lt)
  clear hr hn
  generalize (xs.any fun x => !turnB x) = v at *
  generalize lstE turnB xs cnt = V at *
  by_cases hc : (n : Int) = cnt
  all_goals
    first
      | (have z1 : ((n : Int) == cnt) = true := by simpa using hc)
      | (have z1 : ((n : Int) == cnt) = false := by simpa using hc)
    simp only [hc, decide_true, decide_false] at HL
    cases v
    all_goals
      go_enter Try.func58, Try.ntmps58
      go_wp2_with (first
        | (go_at_call 69; (go_must (refine (HA.out _ HB0.out Z0.out).mono ?_)); rintro e w1 ⟨rfl, rfl⟩)
        | (go_at_call 27; refine (unlessFd_any _ _ _).mono ?_; rintro e w2 ⟨rfl, rfl⟩)
        | (go_at_call 25; refine (first2Fd _ _ _ _ _ (by first | (go_simp; done) | (go_simp; rfl)) (by first | (go_simp; done) | (go_simp; rfl)) _ HL.out).mono ?_; rintro e w' ⟨rfl, rfl⟩))
      go_ret
      exact ⟨rfl, pa HB0.out⟩
theorem windingErr_any (B : Nat) (N : Int) (A TA : Option Addr) (n c tn tc : Nat) (t : List Int) (w : World) (hr : IntsIn B w TA t) (hB : B ≤ w.heap.size) (hn : t.length = tn) (hm : tn ≤ 1000) :
    Calls Try.prog 43 #[.agg #[.int .i64 N, .slice A n c], .slice TA tn tc] w fun e w' => e = .returned (.int .i64 (lstE turnB t (n : Int))) ∧ Below w.heap.size w w' := by
  have HL := Lib.hid (fun W (hW : Below w.heap.size w W) => listErr_turns B TA tn tc t (n : Int) W (hr.below (hW.mono hB)) (Nat.le_trans hB hW.size) hn hm)
  have HB0 := Lib.hid (show Below w.heap.size w (w.alloc (.cells #[.int .i64 N, .slice A n c] 49)) from pa pr)
  clear hr hn
  generalize lstE turnB t (n : Int) = V at *
  go_enter Try.func43, Try.ntmps43
  go_wp2_with (go_at_call 58; (go_must (refine (HL.out _ HB0.out).mono ?_)); rintro e w1 ⟨rfl, hb1⟩; have HB1 := Lib.hid (pt HB0.out hb1); clear hb1)
  go_ret
  exact ⟨rfl, HB1.out⟩
theorem lst_turns {t : List Int} {n : Nat} (h : lstE turnB t (n : Int) = 0) : t.length = n ∧ ∀ j, -50 ≤ t.getD j 0 ∧ t.getD j 0 ≤ 50 := by
  obtain ⟨h1, h2⟩ := firstV_zero.1 h
  have h1 := (unless_ne (by decide)).1 h1
  have h2 := (unless_ne (by decide)).1 (firstV_zero.1 h2).1
  have h1 : (t.length : Int) = (n : Int) := by simpa using h1
  have h2 : ∀ x ∈ t, turnB x = true := by simpa using h2
  refine ⟨by omega, fun j => ?_⟩
  by_cases hj : j < t.length
  · have h3 := h2 (t.getD j 0) (by rw [List.getD_eq_getElem?_getD, List.getElem?_eq_getElem hj]; exact List.getElem_mem hj)
    unfold turnB withinB at h3
    simpa using h3
  · rw [getD_out _ (Nat.le_of_not_lt hj)]; decide

set_option maxHeartbeats 4000000 in
set_option maxRecDepth 100000 in
theorem MutualOf_ok (B : Nat) (N : Nat) (bs : List FBr) (A : Option Addr) (n c : Nat) (a b : List Int) (TA TB : Option Addr) (ca cb : Nat) (w : World) (hr : CellsIn B w A (brsC bs)) (ha : IntsIn B w TA a) (hb : IntsIn B w TB b) (hB : B ≤ w.heap.size) (hn : bs.length = n) (hE : (netE (N : Int) bs).2 = 0) (hea : lstE turnB a (n : Int) = 0) (heb : lstE turnB b (n : Int) = 0) (V : Int × Int × Int) (hV : energyV bs N a b = V) :
    Calls Try.prog 19 #[.agg #[.int .i64 (N : Int), .slice A n c], .slice TA n ca, .slice TB n cb] w fun e w' => e = .returned (.tuple #[.agg #[.int .i64 V.1, .int .i64 V.2.1], .int .i64 V.2.2]) ∧ Below w.heap.size w w' := by
  have hok := net_ok hE
  have hm := hok.m
  obtain ⟨hla, hba⟩ := lst_turns hea
  obtain ⟨hlb, hbb⟩ := lst_turns heb
  have HE := Lib.hid (fun W (hW : Below w.heap.size w W) => (show Calls Try.prog 33 #[.agg #[.int .i64 (N : Int), .slice A n c]] W fun e w' => e = .returned (.int .i64 0) ∧ Below W.heap.size W w' from by
    have h := netErr_any B N bs A n c W (hr.below (hW.mono hB)) (Nat.le_trans hB hW.size) hn (by omega)
    rwa [hE] at h))
  have HWa := Lib.hid (fun W (hW : Below w.heap.size w W) => (show Calls Try.prog 43 #[.agg #[.int .i64 (N : Int), .slice A n c], .slice TA n ca] W fun e w' => e = .returned (.int .i64 0) ∧ Below W.heap.size W w' from by
    have h := windingErr_any B N A TA n c n ca a W (ha.below (hW.mono hB)) (Nat.le_trans hB hW.size) hla (by omega)
    rwa [hea] at h))
  have HWb := Lib.hid (fun W (hW : Below w.heap.size w W) => (show Calls Try.prog 43 #[.agg #[.int .i64 (N : Int), .slice A n c], .slice TB n cb] W fun e w' => e = .returned (.int .i64 0) ∧ Below W.heap.size W w' from by
    have h := windingErr_any B N A TB n c n cb b W (hb.below (hW.mono hB)) (Nat.le_trans hB hW.size) hlb (by omega)
    rwa [heb] at h))
  have HNw := Lib.hid (fun W (hW : Below w.heap.size w W) => newField_any B N bs A n c W hok (hr.below (hW.mono hB)) (Nat.le_trans hB hW.size) hn)
  have HEn := Lib.hid (fun f W (hF : FldAt W.heap.size N bs f W) (h1 : IntsIn W.heap.size W TA a) (h2 : IntsIn W.heap.size W TB b) => energyFd_any W.heap.size N f bs a b TA TB ca cb W hok hF (Nat.le_refl _) h1 h2 (by rw [hla, hn]) (by rw [hlb, hn]) hba hbb)
  rw [hn] at HEn
  have HIa := Lib.hid (fun W (hW : Below w.heap.size w W) => (ha.below (hW.mono hB)).more (Nat.le_trans hB hW.size))
  have HIb := Lib.hid (fun W (hW : Below w.heap.size w W) => (hb.below (hW.mono hB)).more (Nat.le_trans hB hW.size))
  have hsa := flx_small hok hba (by rw [hla, hn])
  obtain ⟨q1, q2⟩ := flux_dot hok hsa hbb
  have hden := hsa.den
  have HFr := Lib.hid (fun W => fractionFd_any (energyF bs N a b).1 (energyF bs N a b).2 (by
    have h := q2 (fluxesV (loopsV bs N) (relV bs) a).1.length (by rw [flx_len, hla]; omega)
    show WF (dotV _ _)
    unfold dotV WF
    omega) (show 0 < (elimV (eqsV (loopsV bs N) (relV bs) a)).2 by omega) (show SmF (elimV (eqsV (loopsV bs N) (relV bs) a)).2 by unfold SmF; omega) W)
  rw [show fracV (energyF bs N a b).1 (energyF bs N a b).2 = V from hV] at HFr
  have HV3 := Lib.hid (show firstV [0, 0, 0] = 0 from rfl)
  have HB0 := Lib.hid (show Below w.heap.size w ((w.alloc (.cells #[.int .i64 (N : Int), .slice A n c] 49)).alloc (.cells #[.int .i64 0, .int .i64 0] 32)) from pa (pa pr))
  have R0 := Lib.hid (show Blk ((w.alloc (.cells #[.int .i64 (N : Int), .slice A n c] 49)).alloc (.cells #[.int .i64 0, .int .i64 0] 32)) w.heap.size 49 #[.int .i64 (N : Int), .slice A n c] from (Blk.newAt rfl).alloc)
  have Z0 := Lib.hid (show Blk ((w.alloc (.cells #[.int .i64 (N : Int), .slice A n c] 49)).alloc (.cells #[.int .i64 0, .int .i64 0] 32)) (w.heap.size + 1) 32 #[.int .i64 0, .int .i64 0] from Blk.newAt (by simp))
  clear hok hr hE hn q1 q2 hden hV ha hb hea heb hla hba hlb hbb hsa
  generalize energyF bs N a b = EF at *
  obtain ⟨num, den⟩ := EF
  obtain ⟨vn, vd, ve⟩ := V
  dsimp only at *
  go_enter Try.func19, Try.ntmps19
  go_wp2
  generalize (w.alloc (.cells #[.int .i64 (N : Int), .slice A n c] 49)).alloc (.cells #[.int .i64 0, .int .i64 0] 32) = w0 at *
  have x0 := R0.out.cellAt 0 rfl
  have x1 := R0.out.cellAt 1 rfl
  have xl := R0.out.lt
  have HEw := Lib.hid (fun W (hW : Below w0.heap.size w0 W) => HE.out W (HB0.out.trans (hW.mono HB0.out.size)))
  have HWaw := Lib.hid (fun W (hW : Below w0.heap.size w0 W) => HWa.out W (HB0.out.trans (hW.mono HB0.out.size)))
  have HWbw := Lib.hid (fun W (hW : Below w0.heap.size w0 W) => HWb.out W (HB0.out.trans (hW.mono HB0.out.size)))
  refine region_below 8 follows_mixed (by kernel_rfl) ?_
  intro C hC
  simp only [List.take_succ_cons, List.take_zero, List.drop_succ_cons, List.drop_zero]
  repeat (first
    | ((with_reducible refine quiet_plain rfl (fun K hK => ?_)); (focus (apply quiet_val; (focus (intro w' hw; obtain ⟨hcq, hfq⟩ := bcell ((hC.out _).1 hw); go_simp; (first | done | rfl | (with_reducible exact call_below hC hw (HEw.out _ ((hC.out _).1 hw))) | (with_reducible exact call_below hC hw (HWaw.out _ ((hC.out _).1 hw))) | (with_reducible exact call_below hC hw (HWbw.out _ ((hC.out _).1 hw)))))); (simp only [Act.put, List.setIfInBounds_toArray, List.set_cons_succ, List.set_cons_zero]); (with_reducible refine hK _ ?_); clear hK K)))
    | ((with_reducible refine quiet_skip ?_ ?_); (focus (first | (simp [Region.wanted, yielded]; done) | (simp [Region.wanted, yielded, undef]; done))); simp only [Act.put, List.setIfInBounds_toArray, List.set_cons_succ, List.set_cons_zero])
    | ((with_reducible refine quiet_go ?_ (fun K hK => ?_)); (focus (first | (simp [Region.wanted, yielded]; done) | (simp [Region.wanted, yielded, undef]; done))); (focus (apply quiet_val; (focus (intro w' hw; obtain ⟨hcq, hfq⟩ := bcell ((hC.out _).1 hw); go_simp; (first | done | rfl | (with_reducible exact call_below hC hw (HEw.out _ ((hC.out _).1 hw))) | (with_reducible exact call_below hC hw (HWaw.out _ ((hC.out _).1 hw))) | (with_reducible exact call_below hC hw (HWbw.out _ ((hC.out _).1 hw)))))); (simp only [Act.put, List.setIfInBounds_toArray, List.set_cons_succ, List.set_cons_zero]); (with_reducible refine hK _ ?_); clear hK K))))
  refine wpQuiet_nil ?_
  intro w1 hb1
  replace hb1 := (hC.out _).1 hb1
  clear hC C
  obtain ⟨hc1, hf1⟩ := bcell hb1
  have HB1 := Lib.hid (HB0.out.trans (hb1.mono HB0.out.size))
  have R1 := Lib.hid (R0.out.past hb1)
  have Z1 := Lib.hid (Z0.out.past hb1)
  clear hc1 hf1 hb1 x0 x1 xl HEw HWaw HWbw HE HWa HWb R0 Z0
  have x0 := R1.out.cellAt 0 rfl
  have x1 := R1.out.cellAt 1 rfl
  have xl := R1.out.lt
  go_wp2_with (first
    | (go_at_call 25; (go_must (refine (first3Fd _ _ _ _ _ _ (by first | (go_simp; done) | (go_simp; rfl)) (by first | (go_simp; done) | (go_simp; rfl)) (by first | (go_simp; done) | (go_simp; rfl)) _ HV3.out).mono ?_)); rintro e w' ⟨rfl, rfl⟩; have HB2 := Lib.hid (show Below w.heap.size w (w1.alloc (.cells #[.int .i64 0, .int .i64 0, .int .i64 0] 33)) from pa HB1.out); have Z2 := Lib.hid (show Blk (w1.alloc (.cells #[.int .i64 0, .int .i64 0, .int .i64 0] 33)) (w.heap.size + 1) 32 #[.int .i64 0, .int .i64 0] from Z1.out.alloc))
    | (go_at_call 34; (go_must (refine (HNw.out _ HB2.out).mono ?_)); rintro e w2 ⟨f, rfl, hf2, hb2⟩; have HF2 := Lib.hid hf2; have HB3 := Lib.hid (pt HB2.out hb2); have Z3 := Lib.hid (Z2.out.past hb2); clear hf2 hb2)
    | (go_at_call 36; (go_must (refine (HEn.out _ _ HF2.out (HIa.out _ HB3.out) (HIb.out _ HB3.out)).mono ?_)); rintro e w5 ⟨rfl, hb5⟩; have HB5 := Lib.hid (pt HB3.out hb5); have Z5 := Lib.hid (Z3.out.past hb5); clear hb5)
    | (go_at_call 30; (go_must (refine (HFr.out _).mono ?_)); rintro e w6 ⟨rfl, hb6⟩; have HB6 := Lib.hid (pt HB5.out hb6); have Z6 := Lib.hid (Z5.out.past hb6); clear hb6)
    | ((with_reducible refine store_blk (T := 32) (x := .tmp 6) (y := .tmp 31) (vs := #[.int .i64 vn, .int .i64 vd]) Z6.out ?_ ?_ ?_ ?_ ?_ ?_); (focus rfl); (focus exact frac_size); (focus (simp [Value.oneCell']; done)); (focus (first | rfl | (go_simp; done))); (focus (first | rfl | (go_simp; done))); intro WF RF PF))
  have r0 := RF.cellAt 0 rfl
  have r1 := RF.cellAt 1 rfl
  refine bodyPost_ret (v := .tuple #[.agg #[.int .i64 vn, .int .i64 vd], .int .i64 ve]) (by simp [results, Try.results19, go_sem, r0, r1]) rfl ?_
  exact ⟨rfl, pp HB6.out PF (by omega)⟩
end Go.Proofs.Ytapegimghfflhaa
end
