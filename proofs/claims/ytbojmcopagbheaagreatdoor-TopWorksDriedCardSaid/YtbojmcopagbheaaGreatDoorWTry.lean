/- Contract: the search goes on from the tasks started so far: the loop over the tasks. -/
import Derived.Test.YtbojmcopagbheaaGreatDoorVTry
namespace Go.Proofs.YtbojmcopagbheaaGreatDoor
open Go.RowKit Go.Shelf

theorem srch_free (m : Int) (A : Option Addr) (n c tb rb : Nat) (st : Srch) (bv : Value) {k : Nat} (hk : k < 4) : (srchCells m A n c tb rb st bv)[4 + k]? = some (.int .i64 (st.free.getD k 0)) := by
  match k, hk with
  | 0, _ => rfl
  | 1, _ => rfl
  | 2, _ => rfl
  | 3, _ => rfl

theorem srch_set_free (m : Int) (A : Option Addr) (n c tb rb : Nat) (st : Srch) (bv : Value) (x : Int) (h4 : st.free.length = 4) {k : Nat} (hk : k < 4) :
    (srchCells m A n c tb rb st bv).setIfInBounds (4 + k) (.int .i64 x) = srchCells m A n c tb rb { st with free := st.free.set k x } bv := by
  obtain ⟨starts, free, best, last⟩ := st
  dsimp only at h4 ⊢
  match free, h4 with
  | [a, b, d, e], _ =>
    match k, hk with
    | 0, _ => simp [srchCells]
    | 1, _ => simp [srchCells]
    | 2, _ => simp [srchCells]
    | 3, _ => simp [srchCells]

/-- The search behind the first i tasks. -/
def uptoV (ts : List Task) (tails : List Int) (f d : Nat) (st : Srch) (i : Nat) : Srch := (List.range i).foldl (stepV ts tails (tryF ts tails f) d) st
theorem uptoV_succ (ts : List Task) (tails : List Int) (f d : Nat) (st : Srch) (i : Nat) : uptoV ts tails f d st (i + 1) = stepV ts tails (tryF ts tails f) d (uptoV ts tails f d st i) i := by
  unfold uptoV
  rw [List.range_succ, List.foldl_append]
  rfl

theorem stepV_cut {ts : List Task} {tails : List Int} {rec_ : Nat → Srch → Srch} {d i : Nat} {st : Srch} {e : Int} (he : endOf ts st i = e) (hc : cutB tails st i e = true) : stepV ts tails rec_ d st i = st := by
  unfold stepV
  rw [he, hc]
  split <;> rfl
theorem stepV_go {ts : List Task} {tails : List Int} {rec_ : Nat → Srch → Srch} {d i k : Nat} {st : Srch} {s e fv : Int} (hr : readyB ts d i = true) (hs : startOf ts st i = s) (he : endOf ts st i = e) (hc : cutB tails st i e = false) (hk : (ts.getD i default).machine.toNat = k) (hf : st.free.getD k 0 = fv) :
    stepV ts tails rec_ d st i = { rec_ (d ||| 2 ^ i) { st with starts := st.starts.set i s, free := st.free.set k e } with free := (rec_ (d ||| 2 ^ i) { st with starts := st.starts.set i s, free := st.free.set k e }).free.set k fv } := by
  unfold stepV
  rw [hr, he, hc, hs, hk, hf]
  rfl

/-- The search's memory behind a start: the start is laid, the machine is taken. -/
theorem srch_start {ts : List Task} {sb rb tb c : Nat} {m : Int} {A : Option Addr} {tails : List Int} {st : Srch} {bv : Value} {W : World} (hne : sb ≠ rb) (hts : tb ≠ sb) (htr : tb ≠ rb) (h : SrchIn ts sb rb tb c m A tails st bv W) (h4 : st.free.length = 4) {k : Nat} (hk : k < 4) (i : Nat) (s e : Int) :
    SrchIn ts sb rb tb c m A tails { st with starts := st.starts.set i s, free := st.free.set k e } bv ((W.setCell ⟨rb, i, none⟩ (.int .i64 s)).setCell ⟨sb, 4 + k, none⟩ (.int .i64 e)) := by
  have hk1 : SKeep sb rb W ((W.setCell ⟨rb, i, none⟩ (.int .i64 s)).setCell ⟨sb, 4 + k, none⟩ (.int .i64 e)) := (SKeep.set_ (p := ⟨rb, i, none⟩) (.inr rfl)).trans (SKeep.set_ (p := ⟨sb, 4 + k, none⟩) (.inl rfl))
  refine ⟨?_, ?_, h.2.2.1.skeep hk1 hts htr, h.2.2.2.skeep hk1⟩
  · have := (h.1.far (p := ⟨rb, i, none⟩) (u := .int .i64 s) hne).set_ (4 + k) (.int .i64 e)
    rw [srch_set_free m A ts.length c tb rb st bv e h4 hk] at this
    exact this
  · have := (h.2.1.set_ i (.int .i64 s)).far (p := ⟨sb, 4 + k, none⟩) (u := .int .i64 e) (Ne.symm hne)
    rw [iarr_set] at this
    exact this

/-- .. behind the machine is free again. -/
theorem srch_back {ts : List Task} {sb rb tb c : Nat} {m : Int} {A : Option Addr} {tails : List Int} {st : Srch} {bv : Value} {W : World} (hne : sb ≠ rb) (hts : tb ≠ sb) (htr : tb ≠ rb) (h : SrchIn ts sb rb tb c m A tails st bv W) (h4 : st.free.length = 4) {k : Nat} (hk : k < 4) (e : Int) :
    SrchIn ts sb rb tb c m A tails { st with free := st.free.set k e } bv (W.setCell ⟨sb, 4 + k, none⟩ (.int .i64 e)) := by
  have hk1 : SKeep sb rb W (W.setCell ⟨sb, 4 + k, none⟩ (.int .i64 e)) := SKeep.set_ (p := ⟨sb, 4 + k, none⟩) (.inl rfl)
  refine ⟨?_, h.2.1.far (p := ⟨sb, 4 + k, none⟩) (u := .int .i64 e) (Ne.symm hne), h.2.2.1.skeep hk1 hts htr, h.2.2.2.skeep hk1⟩
  have := h.1.set_ (4 + k) (.int .i64 e)
  rw [srch_set_free m A ts.length c tb rb st bv e h4 hk] at this
  exact this

set_option maxHeartbeats 4000000 in
set_option maxRecDepth 100000 in
/-- The loop over the tasks. -/
theorem try_loop (B : Nat) (ts : List Task) (sb rb tb c : Nat) (m : Int) (A : Option Addr) (tails : List Int) (f d : Nat) (ha : AcyOk ts) (hl : LenOk ts) (hmach : MachOk ts) (hsb : B ≤ sb) (hrb : B ≤ rb) (hne : sb ≠ rb) (hts : tb ≠ sb) (htr : tb ≠ rb) (hf : f + 1 ≤ 8)
    (htl : tails.length = ts.length) (htb : ∀ j, 0 ≤ tails.getD j 0 ∧ tails.getD j 0 ≤ 1000000) (IH : TryAt B ts sb rb tb c m A tails f)
    (st : Srch) (bv : Value) (w : World) (hd : d < 2 ^ ts.length) (hd2 : d ≠ 2 ^ ts.length - 1) (hu : unset ts.length d < f + 1) (hok : SrchOk ts (f + 1) d st) (hS : SrchIn ts sb rb tb c m A tails st bv w) (hr : TasksIn B w A ts) (hn : 1 ≤ ts.length ∨ st.best = none) :
    Calls Tryz.prog 59 #[.pointer (some ⟨sb, 0, none⟩), .int .i64 (d : Int)] w fun e w' =>
      (∃ v, e = .returned v) ∧ (∃ bv', SrchIn ts sb rb tb c m A tails (uptoV ts tails f d st ts.length) bv' w') ∧ SKeep sb rb w w' := by
  have h7 := ha.1.1
  obtain ⟨F, hF⟩ : ∃ F, F = 2 ^ ts.length - 1 := ⟨_, rfl⟩
  have hF1 : 2 ^ ts.length = F + 1 := by have := Nat.two_pow_pos ts.length; omega
  have hF2 : F + 1 ≤ 128 := by rw [← hF1]; exact Nat.pow_le_pow_right (by decide) h7
  have eF : IntKind.i64.wrap (2 ^ ts.length) = (F : Int) + 1 := by
    rw [wrap_bit (by omega)]
    unfold bitV
    rw [hF1]; simp
  have hdF : ((d : Int) == (F : Int)) = false := by rw [beq_eq_false_iff_ne]; omega
  have hd128 : d < 128 := by omega
  have hBs : B ≤ w.heap.size := Nat.le_trans hsb (Nat.le_of_lt hS.1.lt)
  have HOk := Lib.hid hok
  have HIH := Lib.hid IH
  have HA := Lib.hid ha
  have HL := Lib.hid hl
  have HM := Lib.hid hmach
  have HTB := Lib.hid htb
  have d1 : w.cell? ⟨sb, 1, none⟩ = some (.slice A ts.length c) := hS.1.cellAt 1 rfl
  have x0 := hS.1.lt
  clear hF hF1 hok IH ha hl hmach htb
  go_enter Tryz.func59, Tryz.ntmps59
  go_wp2
  go_loopw [64] (fun ix wr => ∃ (i : Nat) (bvi : Value), ix = .int .i64 (i : Int) ∧ i ≤ ts.length ∧ SrchIn ts sb rb tb c m A tails (uptoV ts tails f d st i) bvi wr ∧ Good ts (f + 1) d st (uptoV ts tails f d st i) ∧ SKeep sb rb w wr) (fun ix _ => ts.length - (intOf ix).toNat)
  case atStart => exact ⟨0, bv, rfl, Nat.zero_le _, hS, ⟨HOk.out, rfl, fun _ _ => rfl⟩, SKeep.refl _ _ _⟩
  case round =>
    obtain ⟨i, bvi, rfl, hi, hSi, hG, hk⟩ := hrel
    have hTi : TasksIn B wr A ts := hr.below (hk.below hsb hrb hBs)
    clear d1 x0
    by_cases hlt : i < ts.length
    · have hstep := uptoV_succ ts tails f d st i
      generalize uptoV ts tails f d st i = si at *
      obtain ⟨b, off, hA, hbB, hct⟩ := hTi.at_ hlt
      obtain ⟨t0, t1, t2, A3, c3, t3, t4, t5⟩ := hct i hlt
      obtain ⟨T, hT⟩ : ∃ T, T = ts.getD i default := ⟨_, rfl⟩
      rw [← hT] at t0 t1 t2 t3 t4 t5
      have HTT := Lib.hid hT
      clear hT
      have e1 : IntKind.i64.wrap (2 ^ i) = bitV i := wrap_bit (by omega)
      have n0 : (0 : Int) ≤ (i : Int) := by omega
      have n1 : (i : Int) < (ts.length : Int) := by omega
      have hbne : (bitV i != 0) = true := by unfold bne; rw [bitV_ne]; rfl
      have hBr : B ≤ wr.heap.size := Nat.le_trans hBs hk.1.size
      have hneeds := fun W (hT : TasksIn B W A ts) (hBW : B ≤ W.heap.size) => needs_any B ts A c m i W hT hBW hlt HA.out.1
      have HNeeds := Lib.hid hneeds
      have HT := Lib.hid hTi
      have hK := needsV_lt HA.out.1 hlt
      have HStep := Lib.hid hstep
      have HG := Lib.hid hG
      have d0 : wr.cell? ⟨sb, 0, none⟩ = some (.int .i64 m) := hSi.1.cellAt 0 rfl
      have d1 : wr.cell? ⟨sb, 1, none⟩ = some (.slice A ts.length c) := hSi.1.cellAt 1 rfl
      have x0 := hSi.1.lt
      clear hct hneeds hTi hstep hG
      subst hA
      have hbw : b < wr.heap.size := by omega
      cases ht : d.testBit i with
      | true =>
        have e2 := bits_and_yes (K := d) (j := i) (by omega) (by omega) ht
        have hnr : readyB ts d i = false := by simp [readyB, ht]
        have HR2 := Lib.hid (show stepV ts tails (tryF ts tails f) d si i = si by unfold stepV; rw [hnr]; rfl)
        clear ht hnr
        go_wp2
        go_roundw
        case rel => exact ⟨i + 1, bvi, by go_num, by omega, by rw [HStep.out, HR2.out]; exact hSi.past (pa pr), by rw [HStep.out, HR2.out]; exact HG.out, hk.trans (SKeep.of_below (pa pr))⟩
        case measure => simp [intOf]; omega
      | false =>
        have e2 := bits_and_no (K := d) (j := i) (by omega) (by omega) ht
        rcases Classical.em (∀ j, (needsV ts i).testBit j = true → d.testBit j = true) with hs | hs
        · have hrd : readyB ts d i = true := readyB_iff.2 ⟨ht, hs⟩
          have e3 := andNot_zero (K := needsV ts i) (D := d) (by omega) (by omega) hs
          have HRd := Lib.hid hrd
          clear ht hs hrd
          go_wp2_with (go_at_call 99; refine (HNeeds.out _ (HT.out.below ((pa pr).mono hBr)) (by simp; omega)).mono ?_; rintro e w1 ⟨rfl, hbn⟩)
          have hm01 : Below wr.heap.size wr w1 := pt (pa pr) hbn
          have bT : Blk w1 wr.heap.size 41 #[.int .i64 T.machine, .int .i64 T.length, .int .i64 T.release, .slice A3 T.after.length c3] := (Blk.new wr _ _).past hbn
          have sS := hSi.past hm01
          have hmT := HM.out i hlt
          rw [← HTT.out] at hmT
          have hT7 : T.after.length ≤ 7 := by rw [HTT.out]; exact (HA.out.1.2 i hlt).1
          obtain ⟨k, hk0⟩ : ∃ k : Nat, T.machine = (k : Int) := ⟨T.machine.toNat, by omega⟩
          have hk4 : k < 4 := by omega
          have HK0 := Lib.hid hk0
          have fk := sS.1.cellAt (4 + k) (srch_free m (some ⟨b, off, none⟩) ts.length c tb rb si bvi hk4)
          obtain ⟨fv, hfv⟩ : ∃ fv, fv = si.free.getD k 0 := ⟨_, rfl⟩
          rw [← hfv] at fk
          have HFv := Lib.hid hfv
          clear hfv
          have b0 := bT.cellAt 0 rfl
          have b1 := bT.cellAt 1 rfl
          have b2 := bT.cellAt 2 rfl
          have b3 := bT.cellAt 3 rfl
          have bx := bT.lt
          have sx := sS.1.lt
          have p0 : (0 : Int) ≤ (k : Int) := by omega
          have p1 : (k : Int) < 4 := by omega
          rw [hk0] at b0
          clear t0 t1 t2 t3 d0 d1 x0
          refine region_below 10 follows_mixed (by kernel_rfl) ?_
          intro C hC
          simp only [List.take_succ_cons, List.take_zero, List.drop_succ_cons, List.drop_zero]
          repeat (first
            | ((with_reducible refine quiet_plain rfl (fun K hK => ?_)); (focus (apply quiet_val; (focus (intro w' hw; obtain ⟨hcq, hfq⟩ := bcell ((hC.out _).1 hw); go_simp; (first | done | rfl))); (simp only [Act.put, List.setIfInBounds_toArray, List.set_cons_succ, List.set_cons_zero]); (with_reducible refine hK _ ?_); clear hK K)))
            | ((with_reducible refine quiet_skip ?_ ?_); (focus (first | (simp [Region.wanted, yielded]; done) | (simp [Region.wanted, yielded, undef]; done))); simp only [Act.put, List.setIfInBounds_toArray, List.set_cons_succ, List.set_cons_zero])
            | ((with_reducible refine quiet_go ?_ (fun K hK => ?_)); (focus (first | (simp [Region.wanted, yielded]; done) | (simp [Region.wanted, yielded, undef]; done))); (focus (apply quiet_val; (focus (intro w' hw; obtain ⟨hcq, hfq⟩ := bcell ((hC.out _).1 hw); go_simp; (first | done | rfl))); (simp only [Act.put, List.setIfInBounds_toArray, List.set_cons_succ, List.set_cons_zero]); (with_reducible refine hK _ ?_); clear hK K))))
          refine wpQuiet_nil ?_
          intro w1 hb1
          replace hb1 := (hC.out _).1 hb1
          clear hC C
          obtain ⟨hc1, hf1⟩ := bcell hb1
          obtain ⟨s0, hs0⟩ : ∃ s0, s0 = mx T.release fv := ⟨_, rfl⟩
          rw [show (if T.release < fv then fv else T.release) = s0 from hs0.symm]
          have HS0 := Lib.hid hs0
          clear hs0
          have bT2 := bT.past hb1
          have sS2 := sS.past hb1
          have hm02 := pt hm01 hb1
          have b3 := bT2.cellAt 3 rfl
          have bx := bT2.lt
          clear hc1 hf1 fk
          go_wp2
          have hs0b : 0 ≤ s0 ∧ s0 ≤ 10000 * (9 - (f + 1) : Nat) := by
            have h1 := HL.out i hlt
            have h2 := HG.out.1.2.2.1 k
            rw [← HTT.out] at h1
            rw [← HFv.out] at h2
            rw [HS0.out]
            unfold mx
            split <;> omega
          have hstart : startV ts si.starts s0 T.after = startOf ts si i := by
            unfold startOf
            rw [← HTT.out, hk0, HS0.out, HFv.out, Int.toNat_natCast]
          have HStart := Lib.hid hstart
          clear hstart
          obtain ⟨wo, rfl⟩ : ∃ wo : World, wo = wr := ⟨_, rfl⟩
          go_loopw [7, 98] (fun sv jx wr2 => ∃ (s : Int) (j : Nat), sv = .int .i64 s ∧ jx = .int .i64 (j : Int) ∧ j ≤ T.after.length ∧ startV ts si.starts s (T.after.drop j) = startOf ts si i ∧ 0 ≤ s ∧ s ≤ 10000 * (9 - (f + 1) : Nat) ∧ Below wo.heap.size wo wr2 ∧ Below w1.heap.size w1 wr2) (fun _ jx _ => T.after.length - (intOf jx).toNat)
          case atStart => exact ⟨s0, 0, rfl, rfl, Nat.zero_le _, HStart.out, hs0b.1, hs0b.2, hm02, Below.refl _ _⟩
          case round =>
            obtain ⟨s, j, rfl, rfl, hj, hsv, hs1, hs2, hbo, hb1r⟩ := hrel
            have HSv := Lib.hid hsv
            clear hsv hs0b hb1 b0 b1 b2 b3 bx sx
            have bT3 := bT2.past hb1r
            have sS3 := sS2.past hb1r
            have b3 := bT3.cellAt 3 rfl
            have bx := bT3.lt
            have sx := sS3.1.lt
            by_cases hlt2 : j < T.after.length
            · obtain ⟨b4, off4, hA4, hb4, hc4⟩ := ((t4.below (hbo.mono hBr))).at_ hlt2
              subst hA4
              have hcell := hc4 j hlt2
              have hmem : T.after.getD j 0 ∈ T.after := by simp [List.getD, hlt2]
              have haf := after_in HA.out.1 hlt (T.after.getD j 0) (by rw [← HTT.out]; exact hmem)
              have hdep : ∀ y : Nat, T.after.getD j 0 = (y : Int) → d.testBit y = true := fun y hy =>
                (readyB_iff.1 HRd.out).2 y ((needs_closed HA.out.1 hlt).1 y (by rw [← HTT.out, ← hy]; exact hmem))
              have hdrop : T.after.drop j = T.after.getD j 0 :: T.after.drop (j + 1) := by
                rw [List.drop_eq_getElem_cons hlt2]
                simp [List.getD, hlt2]
              have hsv := HSv.out
              rw [hdrop] at hsv
              generalize T.after.getD j 0 = x2 at *
              obtain ⟨y, rfl⟩ : ∃ y : Nat, x2 = (y : Int) := ⟨x2.toNat, by omega⟩
              have hy := hdep y rfl
              have hyn : y < ts.length := by omega
              have hgy := HG.out.1.2.2.2.2.1 y hy
              have hgy2 := HG.out.1.2.2.2.1 y
              have hly := HL.out y hyn
              have hcy := sS3.2.1.cellAt y (iarr_get si.starts y (by rw [HG.out.1.1]; exact hyn))
              have hstep2 : startV ts si.starts (mx s (si.starts.getD y 0 + (ts.getD y default).length)) (T.after.drop (j + 1)) = startOf ts si i := hsv
              have hend := fun W (hT : TasksIn B W (some ⟨b, off, none⟩) ts) (hBW : B ≤ W.heap.size) => end_any B ts (some ⟨b, off, none⟩) c m y (si.starts.getD y 0) W hT hBW hyn (IntWalk.i64_in _ (by omega))
              have HEnd := Lib.hid hend
              have HT3 := Lib.hid (HT.out.below (hbo.mono hBr))
              have HStep2 := Lib.hid hstep2
              have hBr3 : B ≤ wr.heap.size := Nat.le_trans hBr hbo.size
              clear hend hstep2 hsv hdrop hdep hmem hc4
              generalize si.starts.getD y 0 = sy at *
              generalize (ts.getD y default).length = ly at *
              have v0 : (0 : Int) ≤ (y : Int) := by omega
              have v1 : (y : Int) < (ts.length : Int) := by omega
              have d0 : wr.cell? ⟨sb, 0, none⟩ = some (.int .i64 m) := sS3.1.cellAt 0 rfl
              have d1 : wr.cell? ⟨sb, 1, none⟩ = some (.slice (some ⟨b, off, none⟩) ts.length c) := sS3.1.cellAt 1 rfl
              have d3 : wr.cell? ⟨sb, 3, none⟩ = some (.slice (some ⟨rb, 0, none⟩) ts.length ts.length) := sS3.1.cellAt 3 rfl
              have rx := sS3.2.1.lt
              have hmx : 0 ≤ mx s (sy + ly) ∧ mx s (sy + ly) ≤ 10000 * (9 - (f + 1) : Nat) := by
                unfold mx
                split <;> omega
              have hj1 : j + 1 ≤ T.after.length := hlt2
              have HJ1 := Lib.hid hj1
              have HMx := Lib.hid hmx
              clear hgy hgy2 hly t4 hj1 hmx
              go_wp2
              refine region_below 15 follows_mixed (by kernel_rfl) ?_
              intro C hC
              simp only [List.take_succ_cons, List.take_zero, List.drop_succ_cons, List.drop_zero]
              repeat (first
                | ((with_reducible refine quiet_plain rfl (fun K hK => ?_)); (focus (apply quiet_val; (focus (intro w' hw; obtain ⟨hcq, hfq⟩ := bcell ((hC.out _).1 hw); go_simp; (first | done | rfl | (with_reducible exact call_below hC hw (HEnd.out _ (HT3.out.below (((hC.out _).1 hw).mono hBr3)) (Nat.le_trans hBr3 ((hC.out _).1 hw).size)))))); (simp only [Act.put, List.setIfInBounds_toArray, List.set_cons_succ, List.set_cons_zero]); (with_reducible refine hK _ ?_); clear hK K)))
                | ((with_reducible refine quiet_skip ?_ ?_); (focus (first | (simp [Region.wanted, yielded]; done) | (simp [Region.wanted, yielded, undef]; done))); simp only [Act.put, List.setIfInBounds_toArray, List.set_cons_succ, List.set_cons_zero])
                | ((with_reducible refine quiet_go ?_ (fun K hK => ?_)); (focus (first | (simp [Region.wanted, yielded]; done) | (simp [Region.wanted, yielded, undef]; done))); (focus (apply quiet_val; (focus (intro w' hw; obtain ⟨hcq, hfq⟩ := bcell ((hC.out _).1 hw); go_simp; (first | done | rfl | (with_reducible exact call_below hC hw (HEnd.out _ (HT3.out.below (((hC.out _).1 hw).mono hBr3)) (Nat.le_trans hBr3 ((hC.out _).1 hw).size)))))); (simp only [Act.put, List.setIfInBounds_toArray, List.set_cons_succ, List.set_cons_zero]); (with_reducible refine hK _ ?_); clear hK K))))
              refine wpQuiet_nil ?_
              intro w1 hb1
              replace hb1 := (hC.out _).1 hb1
              clear hC C
              obtain ⟨hc1, hf1⟩ := bcell hb1
              rw [show (if s < sy + ly then sy + ly else s) = mx s (sy + ly) from rfl]
              clear hc1 hf1 d0 d1 d3
              go_wp2
              go_roundw
              case rel => exact ⟨mx s (sy + ly), j + 1, rfl, by go_num, HJ1.out, HStep2.out, HMx.out.1, HMx.out.2, pt hbo hb1, pt hb1r hb1⟩
              case measure => simp [intOf]; omega
            · have hje : j = T.after.length := by omega
              have hse : startOf ts si i = s := by rw [← HSv.out, hje]; simp [startV]
              have HSe := Lib.hid hse
              have hLi := HL.out i hlt
              rw [← HTT.out] at hLi
              have hend := fun W (hT : TasksIn B W (some ⟨b, off, none⟩) ts) (hBW : B ≤ W.heap.size) => end_any B ts (some ⟨b, off, none⟩) c m i s W hT hBW hlt (IntWalk.i64_in _ (by rw [← HTT.out]; omega))
              have hee : endOf ts si i = s + T.length := by unfold endOf; rw [hse, HTT.out]
              have HEe := Lib.hid hee
              have HEnd := Lib.hid hend
              have HT3 := Lib.hid (HT.out.below (hbo.mono hBr))
              have hBr3 : B ≤ wr.heap.size := Nat.le_trans hBr hbo.size
              rw [← HTT.out] at HEnd
              have d0 : wr.cell? ⟨sb, 0, none⟩ = some (.int .i64 m) := sS3.1.cellAt 0 rfl
              have d1 : wr.cell? ⟨sb, 1, none⟩ = some (.slice (some ⟨b, off, none⟩) ts.length c) := sS3.1.cellAt 1 rfl
              clear hend hse hee hje t4
              go_wp2_with (go_at_call 100; refine (HEnd.out _ HT3.out hBr3).mono ?_; rintro e w4 ⟨rfl, hb4⟩)
              have sS4 := sS3.past hb4
              have bT4 := bT3.past hb4
              have hm4 : Below wo.heap.size wo w4 := pt hbo hb4
              have hTB := HTB.out i
              have hfin := HG.out.1.2.2.2.2.2.2.1
              have hfin2 := HG.out.1.2.2.2.2.2.2.2
              have hfv2 := HG.out.1.2.2.1 k
              rw [← HFv.out] at hfv2
              have e5 : IntKind.i64.wrap (s + T.length + tails.getD i 0) = s + T.length + tails.getD i 0 := IntWalk.i64_in _ (by omega)
              have q2 : w4.cell? ⟨sb, 2, none⟩ = some (.slice (some ⟨tb, 0, none⟩) ts.length ts.length) := sS4.1.cellAt 2 rfl
              have q9 : w4.cell? ⟨sb, 9, none⟩ = some (.int .i64 si.last) := sS4.1.cellAt 9 rfl
              have q10 : w4.cell? ⟨tb, i, none⟩ = some (.int .i64 (tails.getD i 0)) := sS4.2.2.1.cellAt i (iarr_get tails i (by rw [htl]; exact hlt))
              have q8 : w4.cell? ⟨sb, 8, none⟩ = some bvi := sS4.1.cellAt 8 rfl
              have sx := sS4.1.lt
              have tx := sS4.2.2.1.lt
              have HCut := Lib.hid (show cutB tails si i (s + T.length) = (si.best.isSome && decide (si.last ≤ s + T.length + tails.getD i 0)) from rfl)
              have hbest := sS4.2.2.2
              have HBl := Lib.hid HG.out.1.2.2.2.2.2.1
              generalize tails.getD i 0 = tv at *
              have hcase : ((bvi = .slice none 0 0 ∧ cutB tails si i (s + T.length) = false) ∨ ∃ g o n c1, bvi = .slice (some ⟨g, o, none⟩) n c1 ∧ decide (si.last ≤ s + T.length + tv) = false ∧ cutB tails si i (s + T.length) = false) ∨
                  ∃ g o n c1, bvi = .slice (some ⟨g, o, none⟩) n c1 ∧ decide (si.last ≤ s + T.length + tv) = true ∧ cutB tails si i (s + T.length) = true := by
                cases hb : si.best with
                | none =>
                  rw [hb] at hbest
                  exact .inl (.inl ⟨hbest, by rw [HCut.out, hb]; rfl⟩)
                | some bl =>
                  rw [hb] at hbest
                  obtain ⟨A1, c1, hv, hg⟩ := hbest
                  have hlen := (HBl.out bl hb).1
                  obtain ⟨g, o, hA1⟩ : ∃ g o, A1 = some ⟨g, o, none⟩ := by
                    rcases hg with h | ⟨g, o, h, _⟩
                    · rw [h] at hlen; simp at hlen; omega
                    · exact ⟨g, o, h⟩
                  subst hA1
                  cases hd : decide (si.last ≤ s + T.length + tv) with
                  | false => exact .inl (.inr ⟨g, o, _, c1, hv, rfl, by rw [HCut.out, hb, hd]; rfl⟩)
                  | true => exact .inr ⟨g, o, _, c1, hv, rfl, by rw [HCut.out, hb, hd]; rfl⟩
              clear hbest HCut HBl hbo hb1r hb4 HEnd d0 d1 b3 bx hTB hfin hfin2
              rcases hcase with hcase | ⟨g, o, n', c1, rfl, hd5, hcut⟩
              · have hneq0 := fun W => run_neq_slice_nil_any (P := Tryz.prog) W 32 3 none 0 0 0 0 Tryz.underlying32
                have hneq1 := fun W (a : Addr) n c => run_neq_slice_nil_any (P := Tryz.prog) W 32 3 (some a) n c 0 0 Tryz.underlying32
                rcases hcase with ⟨rfl, hcut⟩ | ⟨g, o, n', c1, rfl, hd5, hcut⟩
                all_goals
                  have HCut := Lib.hid hcut
                  clear hcut
                  go_wp2
                  refine region_below 20 follows_mixed (by kernel_rfl) ?_
                  intro C hC
                  simp only [List.take_succ_cons, List.take_zero, List.drop_succ_cons, List.drop_zero]
                  repeat (first
                    | ((with_reducible refine quiet_plain rfl (fun K hK => ?_)); (focus (apply quiet_val; (focus (intro w' hw; obtain ⟨hcq, hfq⟩ := bcell ((hC.out _).1 hw); go_simp; (first | done | rfl))); (simp only [Act.put, List.setIfInBounds_toArray, List.set_cons_succ, List.set_cons_zero]); (with_reducible refine hK _ ?_); clear hK K)))
                    | ((with_reducible refine quiet_skip ?_ ?_); (focus (first | (simp [Region.wanted, yielded]; done) | (simp [Region.wanted, yielded, undef]; done))); simp only [Act.put, List.setIfInBounds_toArray, List.set_cons_succ, List.set_cons_zero])
                    | ((with_reducible refine quiet_go ?_ (fun K hK => ?_)); (focus (first | (simp [Region.wanted, yielded]; done) | (simp [Region.wanted, yielded, undef]; done))); (focus (apply quiet_val; (focus (intro w' hw; obtain ⟨hcq, hfq⟩ := bcell ((hC.out _).1 hw); go_simp; (first | done | rfl))); (simp only [Act.put, List.setIfInBounds_toArray, List.set_cons_succ, List.set_cons_zero]); (with_reducible refine hK _ ?_); clear hK K))))
                  refine wpQuiet_nil ?_
                  intro w1 hb1
                  replace hb1 := (hC.out _).1 hb1
                  clear hC C
                  obtain ⟨hc1, hf1⟩ := bcell hb1
                  have sS5 := sS4.past hb1
                  have bT5 := bT4.past hb1
                  have hm5 := pt hm4 hb1
                  clear hc1 hf1 q2 q8 q9 q10 hneq0 hneq1 sx
                  have b0 : w1.cell? ⟨wo.heap.size, 0, none⟩ = some (.int .i64 (k : Int)) := by have := bT5.cellAt 0 rfl; rwa [HK0.out] at this
                  have fk : w1.cell? ⟨sb, 4 + k, none⟩ = some (.int .i64 fv) := by rw [HFv.out]; exact sS5.1.cellAt (4 + k) (srch_free m (some ⟨b, off, none⟩) ts.length c tb rb si _ hk4)
                  have bx := bT5.lt
                  have sx := sS5.1.lt
                  go_wp2
                  refine region_below 7 follows_mixed (by kernel_rfl) ?_
                  intro C hC
                  simp only [List.take_succ_cons, List.take_zero, List.drop_succ_cons, List.drop_zero]
                  repeat (first
                    | ((with_reducible refine quiet_plain rfl (fun K hK => ?_)); (focus (apply quiet_val; (focus (intro w' hw; obtain ⟨hcq, hfq⟩ := bcell ((hC.out _).1 hw); go_simp; (first | done | rfl))); (simp only [Act.put, List.setIfInBounds_toArray, List.set_cons_succ, List.set_cons_zero]); (with_reducible refine hK _ ?_); clear hK K)))
                    | ((with_reducible refine quiet_skip ?_ ?_); (focus (first | (simp [Region.wanted, yielded]; done) | (simp [Region.wanted, yielded, undef]; done))); simp only [Act.put, List.setIfInBounds_toArray, List.set_cons_succ, List.set_cons_zero])
                    | ((with_reducible refine quiet_go ?_ (fun K hK => ?_)); (focus (first | (simp [Region.wanted, yielded]; done) | (simp [Region.wanted, yielded, undef]; done))); (focus (apply quiet_val; (focus (intro w' hw; obtain ⟨hcq, hfq⟩ := bcell ((hC.out _).1 hw); go_simp; (first | done | rfl))); (simp only [Act.put, List.setIfInBounds_toArray, List.set_cons_succ, List.set_cons_zero]); (with_reducible refine hK _ ?_); clear hK K))))
                  refine wpQuiet_nil ?_
                  intro w1 hb1
                  replace hb1 := (hC.out _).1 hb1
                  clear hC C
                  obtain ⟨hc1, hf1⟩ := bcell hb1
                  have sS6 := sS5.past hb1
                  have bT6 := bT5.past hb1
                  have hm6 := pt hm5 hb1
                  clear hc1 hf1 b0 fk bx sx
                  have b0 : w1.cell? ⟨wo.heap.size, 0, none⟩ = some (.int .i64 (k : Int)) := by have := bT6.cellAt 0 rfl; rwa [HK0.out] at this
                  have fk : w1.cell? ⟨sb, 4 + k, none⟩ = some (.int .i64 fv) := by rw [HFv.out]; exact sS6.1.cellAt (4 + k) (srch_free m (some ⟨b, off, none⟩) ts.length c tb rb si _ hk4)
                  have bx := bT6.lt
                  have sx := sS6.1.lt
                  have d3 : w1.cell? ⟨sb, 3, none⟩ = some (.slice (some ⟨rb, 0, none⟩) ts.length ts.length) := sS6.1.cellAt 3 rfl
                  have rx := sS6.2.1.lt
                  go_wp2
                  have ri : w1.cell? ⟨rb, i, none⟩ = some (.int .i64 (si.starts.getD i 0)) := sS6.2.1.cellAt i (iarr_get si.starts i (by rw [HG.out.1.1]; exact hlt))
                  have rf := sS6.2.1.frozen i
                  have sf := sS6.1.frozen (4 + k)
                  have hsw := hSi.1.lt
                  have hrw := hSi.2.1.lt
                  have n1r : ¬ rb = wo.heap.size := by omega
                  have n1s : ¬ sb = wo.heap.size := by omega
                  have nrs : ¬ rb = sb := Ne.symm hne
                  have n34 : ¬ 4 + k = 3 := by omega
                  go_region_held3 (fun w' => w'.cell? ⟨sb, 3, none⟩ = some (.slice (some ⟨rb, 0, none⟩) ts.length ts.length) ∧ w'.cell? ⟨wo.heap.size, 0, none⟩ = some (.int .i64 (k : Int))) ((simp [*, World.cell?_setCell_other])) (fail)
                  have sS7 := sS6
                  have hm7 := hm6
                  have bT7 := bT6
                  clear b0 fk bx sx d3
                  have h4 := HG.out.1.2.1
                  have hSS := (srch_start hne hts htr sS7 h4 hk4 i s (s + T.length)).past (pd pr)
                  have hkeep : SKeep sb rb wo ((w1.setCell ⟨rb, i, none⟩ (.int .i64 s)).setCell ⟨sb, 4 + k, none⟩ (.int .i64 (s + T.length))).drew := (((SKeep.of_below hm7).trans (SKeep.set_ (p := ⟨rb, i, none⟩) (.inr rfl))).trans (SKeep.set_ (p := ⟨sb, 4 + k, none⟩) (.inl rfl))).trans (SKeep.of_below (pd pr))
                  have hbT : Blk ((w1.setCell ⟨rb, i, none⟩ (.int .i64 s)).setCell ⟨sb, 4 + k, none⟩ (.int .i64 (s + T.length))).drew wo.heap.size 41 #[.int .i64 T.machine, .int .i64 T.length, .int .i64 T.release, .slice A3 T.after.length c3] := ((bT7.far (by dsimp only; omega)).far (by dsimp only; omega)).drew
                  have hTT2 := HT.out.below (hkeep.below hsb hrb hBr)
                  have hmk : (ts.getD i default).machine.toNat = k := by rw [← HTT.out, HK0.out]; simp
                  have hSO := step_ok HA.out HL.out hf HG.out.1 hlt HRd.out
                  rw [HSe.out, HEe.out, hmk] at hSO
                  have hn2 : 1 ≤ ts.length ∨ ({ si with starts := si.starts.set i s, free := si.free.set k (s + T.length) } : Srch).best = none := .inl (by omega)
                  have hus : unset ts.length (d ||| 2 ^ i) < f := by have := unset_lt hlt (readyB_iff.1 HRd.out).1; omega
                  have hdd : d ||| 2 ^ i < 2 ^ ts.length := Nat.or_lt_two_pow hd (Nat.pow_lt_pow_right (by decide) hlt)
                  have hcall := HIH.out (d ||| 2 ^ i) _ _ _ hdd hus hSO hSS hTT2 hn2
                  have hgood := try_good HA.out HL.out (tails := tails) f (d ||| 2 ^ i) _ (by omega) hSO
                  have hfree : (tryF ts tails f (d ||| 2 ^ i) { si with starts := si.starts.set i s, free := si.free.set k (s + T.length) }).free.length = 4 := by rw [hgood.2.1]; simpa using h4
                  have hres := stepV_go (tails := tails) (rec_ := tryF ts tails f) HRd.out HSe.out HEe.out HCut.out hmk HFv.out.symm
                  have e6 : bits .or .i64 (d : Int) (bitV i) = ((d ||| 2 ^ i : Nat) : Int) := bits_or (by omega) (by omega)
                  have HRes := Lib.hid (HStep.out.trans hres)
                  have HFree := Lib.hid hfree
                  have HCall := Lib.hid hcall
                  have HSS := Lib.hid hSS
                  have HGood := Lib.hid (HG.out.trans (step_good (tails := tails) (rec_ := tryF ts tails f) HA.out HL.out hf HG.out.1 hlt (fun st' h' _ => try_good HA.out HL.out f _ st' (by omega) h')))
                  rw [← HStep.out] at HGood
                  clear hres hfree hcall hgood hSO hSS hmk hTT2 hus hdd hn2 h4
                  generalize tryF ts tails f (d ||| 2 ^ i) { si with starts := si.starts.set i s, free := si.free.set k (s + T.length) } = T2 at *
                  go_wp2_with (go_at_call 59; go_must (refine HCall.out.mono ?_); rintro e w6 ⟨⟨v6, rfl⟩, ⟨bv6, hS8⟩, hk8⟩)
                  have bT8 := hbT.skeep hk8 (by omega) (by omega)
                  have b0 : w6.cell? ⟨wo.heap.size, 0, none⟩ = some (.int .i64 (k : Int)) := by have := bT8.cellAt 0 rfl; rwa [HK0.out] at this
                  have fk := hS8.1.cellAt (4 + k) (srch_free m _ ts.length c tb rb T2 bv6 hk4)
                  have bx := bT8.lt
                  have sx := hS8.1.lt
                  clear ri rf sf rx
                  refine region_below 7 follows_mixed (by kernel_rfl) ?_
                  intro C hC
                  simp only [List.take_succ_cons, List.take_zero, List.drop_succ_cons, List.drop_zero]
                  repeat (first
                    | ((with_reducible refine quiet_plain rfl (fun K hK => ?_)); (focus (apply quiet_val; (focus (intro w' hw; obtain ⟨hcq, hfq⟩ := bcell ((hC.out _).1 hw); go_simp; (first | done | rfl))); (simp only [Act.put, List.setIfInBounds_toArray, List.set_cons_succ, List.set_cons_zero]); (with_reducible refine hK _ ?_); clear hK K)))
                    | ((with_reducible refine quiet_skip ?_ ?_); (focus (first | (simp [Region.wanted, yielded]; done) | (simp [Region.wanted, yielded, undef]; done))); simp only [Act.put, List.setIfInBounds_toArray, List.set_cons_succ, List.set_cons_zero])
                    | ((with_reducible refine quiet_go ?_ (fun K hK => ?_)); (focus (first | (simp [Region.wanted, yielded]; done) | (simp [Region.wanted, yielded, undef]; done))); (focus (apply quiet_val; (focus (intro w' hw; obtain ⟨hcq, hfq⟩ := bcell ((hC.out _).1 hw); go_simp; (first | done | rfl))); (simp only [Act.put, List.setIfInBounds_toArray, List.set_cons_succ, List.set_cons_zero]); (with_reducible refine hK _ ?_); clear hK K))))
                  refine wpQuiet_nil ?_
                  intro w1 hb1
                  replace hb1 := (hC.out _).1 hb1
                  clear hC C
                  obtain ⟨hc1, hf1⟩ := bcell hb1
                  have sS9 := hS8.past hb1
                  have fk := sS9.1.cellAt (4 + k) (srch_free m _ ts.length c tb rb T2 bv6 hk4)
                  have sf := sS9.1.frozen (4 + k)
                  have sx := sS9.1.lt
                  have hS10 := srch_back hne hts htr sS9 HFree.out hk4 fv
                  have hk10 : SKeep sb rb w (w1.setCell ⟨sb, 4 + k, none⟩ (.int .i64 fv)) := ((hk.trans (hkeep.trans hk8)).trans (SKeep.of_below hb1)).trans (SKeep.set_ (p := ⟨sb, 4 + k, none⟩) (.inl rfl))
                  have HS10 := Lib.hid hS10
                  have HK10 := Lib.hid hk10
                  clear hc1 hf1 hS10 hk10
                  go_wp2
                  go_roundw
                  case rel => exact ⟨i + 1, bv6, by go_num, by omega, by rw [HRes.out]; exact HS10.out, HGood.out, HK10.out⟩
                  case measure => simp [intOf]; omega
              · have hneq := fun W (a : Addr) n c => run_neq_slice_nil_any (P := Tryz.prog) W 32 3 (some a) n c 0 0 Tryz.underlying32
                have HR2 := Lib.hid (show stepV ts tails (tryF ts tails f) d si i = si from stepV_cut HEe.out hcut)
                clear hcut
                go_wp2
                refine region_below 20 follows_mixed (by kernel_rfl) ?_
                intro C hC
                simp only [List.take_succ_cons, List.take_zero, List.drop_succ_cons, List.drop_zero]
                repeat (first
                  | ((with_reducible refine quiet_plain rfl (fun K hK => ?_)); (focus (apply quiet_val; (focus (intro w' hw; obtain ⟨hcq, hfq⟩ := bcell ((hC.out _).1 hw); go_simp; (first | done | rfl))); (simp only [Act.put, List.setIfInBounds_toArray, List.set_cons_succ, List.set_cons_zero]); (with_reducible refine hK _ ?_); clear hK K)))
                  | ((with_reducible refine quiet_skip ?_ ?_); (focus (first | (simp [Region.wanted, yielded]; done) | (simp [Region.wanted, yielded, undef]; done))); simp only [Act.put, List.setIfInBounds_toArray, List.set_cons_succ, List.set_cons_zero])
                  | ((with_reducible refine quiet_go ?_ (fun K hK => ?_)); (focus (first | (simp [Region.wanted, yielded]; done) | (simp [Region.wanted, yielded, undef]; done))); (focus (apply quiet_val; (focus (intro w' hw; obtain ⟨hcq, hfq⟩ := bcell ((hC.out _).1 hw); go_simp; (first | done | rfl))); (simp only [Act.put, List.setIfInBounds_toArray, List.set_cons_succ, List.set_cons_zero]); (with_reducible refine hK _ ?_); clear hK K))))
                refine wpQuiet_nil ?_
                intro w1 hb1
                replace hb1 := (hC.out _).1 hb1
                clear hC C
                obtain ⟨hc1, hf1⟩ := bcell hb1
                have sS5 := sS4.past hb1
                clear hc1 hf1 q2 q8 q9 q10
                go_wp2
                go_roundw
                case rel => exact ⟨i + 1, _, by go_num, by omega, by rw [HStep.out, HR2.out]; exact sS5, by rw [HStep.out, HR2.out]; exact HG.out, hk.trans (SKeep.of_below (pt hm4 hb1))⟩
                case measure => simp [intOf]; omega
        · have hrd : readyB ts d i = false := by
            cases h : readyB ts d i with
            | false => rfl
            | true => exact absurd (readyB_iff.1 h).2 hs
          have hex : ∃ j, (needsV ts i).testBit j = true ∧ d.testBit j = false := by
            rcases Classical.em (∃ j, (needsV ts i).testBit j = true ∧ d.testBit j = false) with h | h
            · exact h
            · exact absurd (fun j hj => by
                cases hb : d.testBit j with
                | true => rfl
                | false => exact absurd ⟨j, hj, hb⟩ h) hs
          obtain ⟨j, hj1, hj3⟩ := hex
          have e3 : (bits .andNot .i64 (needsV ts i : Int) (d : Int) != 0) = true := by unfold bne; rw [andNot_ne (K := needsV ts i) (D := d) (by omega) (by omega) hj1 hj3]; rfl
          have HR2 := Lib.hid (show stepV ts tails (tryF ts tails f) d si i = si by unfold stepV; rw [hrd]; rfl)
          clear ht hs hrd hj1 hj3
          go_wp2_with (go_at_call 99; refine (HNeeds.out _ (HT.out.below ((pa pr).mono hBr)) (by simp; omega)).mono ?_; rintro e w1 ⟨rfl, hbn⟩)
          go_roundw
          case rel => exact ⟨i + 1, bvi, by go_num, by omega, by rw [HStep.out, HR2.out]; exact hSi.past (pt (pa pr) hbn), by rw [HStep.out, HR2.out]; exact HG.out, hk.trans (SKeep.of_below (pt (pa pr) hbn))⟩
          case measure => simp [intOf]; omega
    · have hie : i = ts.length := by omega
      subst hie
      go_wp2
      go_end0
      exact ⟨⟨_, rfl⟩, ⟨_, hSi⟩, hk⟩

end Go.Proofs.YtbojmcopagbheaaGreatDoor
