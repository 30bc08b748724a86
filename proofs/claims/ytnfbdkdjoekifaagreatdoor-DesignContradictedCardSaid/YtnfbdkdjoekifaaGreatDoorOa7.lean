/- Contracts: the error of a term, of a requirement, of a specification (package design). Lengths of at most 1000. -/
import Derived.Test.YtnfbdkdjoekifaaGreatDoorOa3
import Derived.Test.YtnfbdkdjoekifaaGreatDoorOa4
import Derived.Test.YtnfbdkdjoekifaaGreatDoorOa5
import Derived.Test.YtnfbdkdjoekifaaGreatDoorOa6

section
namespace Go.Proofs.YtnfbdkdjoekifaaGreatDoor
open Go.RowKit

/-- The unit of each quantity; the table as it stands in memory. -/
def unitT : List Int := [0, 0, 1, 1, 2, 2]
def unitQ (q : Int) : Int := unitT.getD q.toNat 0
def UnitIn (w : World) : Prop := 3 < w.heap.size ∧ ∀ i, i < 6 → w.cell? ⟨3, i, none⟩ = some (.int .i64 (unitT.getD i 0))
theorem UnitIn.below {w w' : World} (h : UnitIn w) (hb : Below w.heap.size w w') : UnitIn w' := ⟨Nat.lt_of_lt_of_le h.1 hb.size, fun i hi => ((bcell hb).1 _ _ h.1).trans (h.2 i hi)⟩
theorem UnitIn.at_ {w : World} (h : UnitIn w) {q : Int} (h0 : 0 ≤ q) (h5 : q ≤ 5) : w.cell? ⟨3, q.toNat, none⟩ = some (.int .i64 (unitQ q)) := h.2 _ (by omega)

def sameQ (q : Int) (t : DTerm) : Bool := decide (t.q = q)
def termE1 (t : DTerm) : Int := firstV [unlessV (decide (¬ t.f = 0) && withinB t.f (-1000) 1000) 2, unlessV (withinB t.q 0 5) 6]
def termE2 (t : DTerm) (unit : Int) (before : List DTerm) : Int := firstV [unlessV (unitQ t.q == unit) 15, unlessV (!anyG (sameQ t.q) before) 23]
def termE (t : DTerm) (unit : Int) (before : List DTerm) : Int := if termE1 t ≠ 0 then termE1 t else termE2 t unit before
def reqE1 (n : Nat) : Int := firstV [unlessV (decide (0 < n)) 10, unlessV (decide ((n : Int) ≤ 4)) 8]
def termErrs (r : DReq) (i : Nat) : Int := termE (r.ts.getD i default) r.unit (r.ts.take i)
def reqE (r : DReq) : Int := if reqE1 r.ts.length ≠ 0 then reqE1 r.ts.length else if (scan (termErrs r) r.ts.length 0).2 ≠ 0 then (scan (termErrs r) r.ts.length 0).2 else unlessV (withinB r.lim (-1000000000) 1000000000) 2
def specE1 (n : Nat) : Int := firstV [unlessV (decide (0 < n)) 10, unlessV (decide ((n : Int) ≤ 6)) 8]
def reqErrs (rs : List DReq) (i : Nat) : Int := reqE (rs.getD i default)
def specE (rs : List DReq) : Nat × Int := if specE1 rs.length ≠ 0 then (0, specE1 rs.length) else scan (reqErrs rs) rs.length 0

theorem termE1_ok {t : DTerm} (h : termE1 t = 0) : (¬ t.f = 0 ∧ -1000 ≤ t.f ∧ t.f ≤ 1000) ∧ 0 ≤ t.q ∧ t.q ≤ 5 := by
  obtain ⟨h1, h2⟩ := firstV_zero.1 h
  have g1 := (unless_ne (by decide)).1 h1
  have g2 := (unless_ne (by decide)).1 (firstV_zero.1 h2).1
  simp only [withinB, Bool.and_eq_true, decide_eq_true_eq] at g1 g2
  exact ⟨g1, g2⟩

theorem termCb_any (f q q0 : Int) (b : Nat) (w : World) (hb : b < w.heap.size) (h : w.cell? ⟨b, 1, none⟩ = some (.int .i64 q0)) :
    Calls Tryz.prog 114 #[.agg #[.int .i64 f, .int .i64 q], .pointer (some ⟨b, 0, none⟩)] w fun e w' => e = .returned (.bool (sameQ q0 ⟨f, q⟩)) ∧ Below w.heap.size w w' := by
  go_enter Tryz.func114, Tryz.ntmps114
  go_wp2
  go_ret
  refine ⟨ret_bool ?_, pa pr⟩
  unfold sameQ
  by_cases h : q = q0 <;> simp [h]

set_option maxHeartbeats 1000000 in
theorem indexTerms_any (B : Nat) (A : Option Addr) (n c : Nat) (ts : List DTerm) (p : DTerm → Bool) (q : Value) (w : World) (hr : CellsIn B w A (termsC ts)) (hB : B ≤ w.heap.size) (hn : ts.length = n) (hm : n ≤ 1000)
    (hcb : ∀ t W, Below w.heap.size w W → Calls Tryz.prog 114 #[.agg #[.int .i64 t.f, .int .i64 t.q], q] W fun e w' => e = .returned (.bool (p t)) ∧ Below W.heap.size W w') :
    Calls Tryz.prog 120 #[.slice A n c, .func (.func 114) #[] #[q]] w fun e w' => e = .returned (.int .i64 (findG p ts 0)) ∧ Below w.heap.size w w' := by
  subst hn
  have HC := Lib.hid hcb
  have HR := Lib.hid hr
  clear hcb hr
  go_enter Tryz.func120, Tryz.ntmps120
  go_wp2
  go_loopw [8] (fun i wr => ∃ k : Nat, k ≤ ts.length ∧ i = .int .i64 k ∧ findG p ts 0 = findG p ts k ∧ Below w.heap.size w wr) (fun i _ => ts.length - (intOf i).toNat)
  case atStart => exact ⟨0, Nat.zero_le _, rfl, rfl, pr⟩
  case round =>
    obtain ⟨k, hk, rfl, hf, hq⟩ := hrel
    by_cases hlt : k < ts.length
    · obtain ⟨b, off, rfl, hb, hc⟩ := terms_at (HR.out.below (hq.mono hB)) hlt
      obtain ⟨u0, u1⟩ := hc k hlt
      have HF := Lib.hid (hf.trans (findG_step p ts k default hlt))
      have HQ := Lib.hid hq
      clear hc hf hq
      generalize ts.getD k default = t at *
      have HCt := Lib.hid (HC.out t wr HQ.out)
      obtain ⟨tf, tq⟩ := t
      have u0 : wr.cell? ⟨b, off + k * 2, none⟩ = some (.int .i64 tf) := u0
      have u1 : wr.cell? ⟨b, off + k * 2 + 1, none⟩ = some (.int .i64 tq) := u1
      cases hx : p ⟨tf, tq⟩
      · have HX := Lib.hid hx
        rw [hx] at HCt
        clear hx
        go_wp2_with (go_at_call 114; refine HCt.out.mono ?_; rintro e w' ⟨rfl, hb'⟩)
        go_roundw
        case rel => exact ⟨k + 1, by omega, by go_num, by rw [HF.out, HX.out]; simp, pt HQ.out hb'⟩
        case measure => simp [intOf]; omega
      · have HX := Lib.hid hx
        rw [hx] at HCt
        clear hx
        go_wp2_with (go_at_call 114; refine HCt.out.mono ?_; rintro e w' ⟨rfl, hb'⟩)
        go_ret
        exact ⟨ret_int (by rw [HF.out, HX.out]; simp), pt HQ.out hb'⟩
    · have HF := Lib.hid (show findG p ts 0 = -1 by rw [hf]; exact findG_end _ _ _ (by omega))
      clear hf
      go_wp2
      go_ret
      exact ⟨ret_int HF.out.symm, hq⟩
theorem containsTerms_any (B : Nat) (A : Option Addr) (n c : Nat) (ts : List DTerm) (p : DTerm → Bool) (q : Value) (w : World) (hr : CellsIn B w A (termsC ts)) (hB : B ≤ w.heap.size) (hn : ts.length = n) (hm : n ≤ 1000)
    (hcb : ∀ t W, Below w.heap.size w W → Calls Tryz.prog 114 #[.agg #[.int .i64 t.f, .int .i64 t.q], q] W fun e w' => e = .returned (.bool (p t)) ∧ Below W.heap.size W w') :
    Calls Tryz.prog 113 #[.slice A n c, .func (.func 114) #[] #[q]] w fun e w' => e = .returned (.bool (anyG p ts)) ∧ Below w.heap.size w w' := by
  have H := Lib.hid (findG_any p ts)
  have HI := Lib.hid (indexTerms_any B A n c ts p q w hr hB hn hm hcb)
  clear hcb hr hn
  go_enter Tryz.func113, Tryz.ntmps113
  go_wp2_with (go_at_call 120; refine HI.out.mono ?_; rintro e w' ⟨rfl, hb'⟩)
  go_ret
  exact ⟨ret_bool H.out, hb'⟩

set_option maxHeartbeats 2000000 in
set_option maxRecDepth 100000 in
theorem termErr_any (B : Nat) (t : DTerm) (unit : Int) (ts : List DTerm) (A : Option Addr) (n c : Nat) (w : World) (hr : CellsIn B w A (termsC ts)) (hB : B ≤ w.heap.size) (hn : ts.length = n) (hm : n ≤ 1000) (hU : UnitIn w) :
    Calls Tryz.prog 100 #[.agg #[.int .i64 t.f, .int .i64 t.q], .int .i64 unit, .slice A n c] w fun e w' => e = .returned (.int .i64 (termE t unit ts)) ∧ Below w.heap.size w w' := by
  obtain ⟨f, q⟩ := t
  have HT := Lib.hid (show termE ⟨f, q⟩ unit ts = if termE1 ⟨f, q⟩ ≠ 0 then termE1 ⟨f, q⟩ else termE2 ⟨f, q⟩ unit ts from rfl)
  have HR := Lib.hid hr
  have HU := Lib.hid hU
  have HOk := Lib.hid (show termE1 ⟨f, q⟩ = 0 → 0 ≤ q ∧ q ≤ 5 from fun h => (termE1_ok h).2)
  have HV1 : firstV [unlessV (decide (¬ f = 0) && withinB f (-1000) 1000) 2, unlessV (withinB q 0 5) 6] = termE1 ⟨f, q⟩ := rfl
  have HV2 := Lib.hid (show firstV [unlessV (unitQ q == unit) 15, unlessV (!anyG (sameQ q) ts) 23] = termE2 ⟨f, q⟩ unit ts from rfl)
  clear hr hU
  generalize termE ⟨f, q⟩ unit ts = E at *
  generalize termE1 ⟨f, q⟩ = E1 at *
  generalize termE2 ⟨f, q⟩ unit ts = E2 at *
  by_cases hf : f = 0
  · have hf1 : (f != 0) = false := by simp [hf]
    have HV := Lib.hid (show firstV [unlessV false 2, unlessV (withinB q 0 5) 6] = E1 by rw [← HV1]; simp [hf])
    have hE : ¬ E1 = 0 := by rw [← HV.out]; simp [firstV, unlessV]
    have hE1 : (E1 == 0) = false := by simpa using hE
    have hE2 : (E1 != 0) = true := by simpa using hE
    have HE := Lib.hid (show E = E1 by rw [HT.out, if_pos hE])
    clear HT HV1
    go_enter Tryz.func100, Tryz.ntmps100
    go_wp2
    refine region_below 13 follows_mixed (by kernel_rfl) ?_
    intro C hC
    simp only [List.take_succ_cons, List.take_zero, List.drop_succ_cons, List.drop_zero]
    repeat (first
      | ((with_reducible refine quiet_plain rfl (fun K hK => ?_)); (focus (apply quiet_val; (focus (intro w' hw; obtain ⟨hcq, hfq⟩ := bcell ((hC.out _).1 hw); go_simp; (first | done | rfl | (with_reducible exact call_same hw (unless_any _ _ _)) | (with_reducible exact call_same hw (within_any _ _ _ _))))); (simp only [Act.put, List.setIfInBounds_toArray, List.set_cons_succ, List.set_cons_zero]); (with_reducible refine hK _ ?_); clear hK K)))
      | ((with_reducible refine quiet_skip ?_ ?_); (focus (first | (simp [Region.wanted, yielded]; done) | (simp [Region.wanted, yielded, undef]; done))); simp only [Act.put, List.setIfInBounds_toArray, List.set_cons_succ, List.set_cons_zero])
      | ((with_reducible refine quiet_go ?_ (fun K hK => ?_)); (focus (first | (simp [Region.wanted, yielded]; done) | (simp [Region.wanted, yielded, undef]; done))); (focus (apply quiet_val; (focus (intro w' hw; obtain ⟨hcq, hfq⟩ := bcell ((hC.out _).1 hw); go_simp; (first | done | rfl | (with_reducible exact call_same hw (unless_any _ _ _)) | (with_reducible exact call_same hw (within_any _ _ _ _))))); (simp only [Act.put, List.setIfInBounds_toArray, List.set_cons_succ, List.set_cons_zero]); (with_reducible refine hK _ ?_); clear hK K))))
    refine wpQuiet_nil ?_
    intro w1 hb1
    replace hb1 := (hC.out _).1 hb1
    clear hC C
    obtain ⟨hc1, hf1⟩ := bcell hb1
    clear hc1 hf1
    go_wp2_with (go_at_call 44; refine (first2 _ _ _ _ _ (by first | (go_simp; done) | (go_simp; rfl)) (by first | (go_simp; done) | (go_simp; rfl)) _ HV.out).mono ?_; rintro e w' ⟨rfl, rfl⟩)
    go_ret
    exact ⟨ret_int HE.out.symm, pa (pt (pa pr) hb1)⟩
  · have hf1 : (f != 0) = true := by simp [hf]
    have hf2 : (f == 0) = false := by simp [hf]
    have HV := Lib.hid (show firstV [unlessV (withinB f (-1000) 1000) 2, unlessV (withinB q 0 5) 6] = E1 by rw [← HV1]; simp [hf])
    by_cases hE : E1 = 0
    · subst hE
      have HE := Lib.hid (show E = E2 by rw [HT.out, if_neg (by simp)])
      obtain ⟨q0, q5⟩ := HOk.out rfl
      have q6 : q < 6 := by omega
      clear HT HV1
      go_enter Tryz.func100, Tryz.ntmps100
      go_wp2
      refine region_below 13 follows_mixed (by kernel_rfl) ?_
      intro C hC
      simp only [List.take_succ_cons, List.take_zero, List.drop_succ_cons, List.drop_zero]
      repeat (first
        | ((with_reducible refine quiet_plain rfl (fun K hK => ?_)); (focus (apply quiet_val; (focus (intro w' hw; obtain ⟨hcq, hfq⟩ := bcell ((hC.out _).1 hw); go_simp; (first | done | rfl | (with_reducible exact call_same hw (small_any _ _ (by decide) (by decide) _)) | (with_reducible exact call_same hw (unless_any _ _ _)) | (with_reducible exact call_same hw (within_any _ _ _ _))))); (simp only [Act.put, List.setIfInBounds_toArray, List.set_cons_succ, List.set_cons_zero]); (with_reducible refine hK _ ?_); clear hK K)))
        | ((with_reducible refine quiet_skip ?_ ?_); (focus (first | (simp [Region.wanted, yielded]; done) | (simp [Region.wanted, yielded, undef]; done))); simp only [Act.put, List.setIfInBounds_toArray, List.set_cons_succ, List.set_cons_zero])
        | ((with_reducible refine quiet_go ?_ (fun K hK => ?_)); (focus (first | (simp [Region.wanted, yielded]; done) | (simp [Region.wanted, yielded, undef]; done))); (focus (apply quiet_val; (focus (intro w' hw; obtain ⟨hcq, hfq⟩ := bcell ((hC.out _).1 hw); go_simp; (first | done | rfl | (with_reducible exact call_same hw (small_any _ _ (by decide) (by decide) _)) | (with_reducible exact call_same hw (unless_any _ _ _)) | (with_reducible exact call_same hw (within_any _ _ _ _))))); (simp only [Act.put, List.setIfInBounds_toArray, List.set_cons_succ, List.set_cons_zero]); (with_reducible refine hK _ ?_); clear hK K))))
      refine wpQuiet_nil ?_
      intro w1 hb1
      replace hb1 := (hC.out _).1 hb1
      clear hC C
      obtain ⟨hc1, hf1⟩ := bcell hb1
      have r0 : Blk w1 w.heap.size 64 #[.int .i64 f, .int .i64 q] := (Blk.newAt rfl).past hb1
      have hq1 := pt (pa (o := .cells #[.int .i64 f, .int .i64 q] 64) (pr (w := w))) hb1
      have g1 := r0.cellAt 1 rfl
      have gl := r0.lt
      have HQ1 := Lib.hid hq1
      clear hc1 hf1 hb1 hq1
      go_wp2_with (first
        | (go_at_call 44; refine (first2 _ _ _ _ _ (by first | (go_simp; done) | (go_simp; rfl)) (by first | (go_simp; done) | (go_simp; rfl)) _ HV.out).mono ?_; rintro e w' ⟨rfl, rfl⟩)
        | (go_at_call 113; refine (containsTerms_any B A n c ts (sameQ q) _ _ (HR.out.below ((pa HQ1.out).mono hB)) (Nat.le_trans hB (pa HQ1.out).size) hn hm (fun t W hW => termCb_any t.f t.q q w.heap.size W (Nat.lt_of_lt_of_le r0.alloc.lt hW.size) ((r0.alloc.past hW).cellAt 1 rfl))).mono ?_; rintro e w2 ⟨rfl, hb2⟩; have r2 := (r0.alloc).past hb2; have HQ2 := Lib.hid (pt (pa HQ1.out) hb2); clear g1 gl hb2; have g1 := r2.cellAt 1 rfl; have gl := r2.lt; have gu := (HU.out.below HQ2.out).at_ q0 q5; have gg := (HU.out.below HQ2.out).1)
        | (go_at_call 48; refine (unless_any _ _ _).mono ?_; rintro e w' ⟨rfl, rfl⟩)
        | (go_at_call 44; refine (first2 _ _ _ _ _ (by first | (go_simp; done) | (go_simp; rfl)) (by first | (go_simp; done) | (go_simp; rfl)) _ HV2.out).mono ?_; rintro e w' ⟨rfl, rfl⟩))
      go_ret
      exact ⟨ret_int HE.out.symm, pa HQ2.out⟩
    · have hE1 : (E1 == 0) = false := by simpa using hE
      have hE2 : (E1 != 0) = true := by simpa using hE
      have HE := Lib.hid (show E = E1 by rw [HT.out, if_pos hE])
      clear HT HV1
      go_enter Tryz.func100, Tryz.ntmps100
      go_wp2
      refine region_below 13 follows_mixed (by kernel_rfl) ?_
      intro C hC
      simp only [List.take_succ_cons, List.take_zero, List.drop_succ_cons, List.drop_zero]
      repeat (first
        | ((with_reducible refine quiet_plain rfl (fun K hK => ?_)); (focus (apply quiet_val; (focus (intro w' hw; obtain ⟨hcq, hfq⟩ := bcell ((hC.out _).1 hw); go_simp; (first | done | rfl | (with_reducible exact call_same hw (small_any _ _ (by decide) (by decide) _)) | (with_reducible exact call_same hw (unless_any _ _ _)) | (with_reducible exact call_same hw (within_any _ _ _ _))))); (simp only [Act.put, List.setIfInBounds_toArray, List.set_cons_succ, List.set_cons_zero]); (with_reducible refine hK _ ?_); clear hK K)))
        | ((with_reducible refine quiet_skip ?_ ?_); (focus (first | (simp [Region.wanted, yielded]; done) | (simp [Region.wanted, yielded, undef]; done))); simp only [Act.put, List.setIfInBounds_toArray, List.set_cons_succ, List.set_cons_zero])
        | ((with_reducible refine quiet_go ?_ (fun K hK => ?_)); (focus (first | (simp [Region.wanted, yielded]; done) | (simp [Region.wanted, yielded, undef]; done))); (focus (apply quiet_val; (focus (intro w' hw; obtain ⟨hcq, hfq⟩ := bcell ((hC.out _).1 hw); go_simp; (first | done | rfl | (with_reducible exact call_same hw (small_any _ _ (by decide) (by decide) _)) | (with_reducible exact call_same hw (unless_any _ _ _)) | (with_reducible exact call_same hw (within_any _ _ _ _))))); (simp only [Act.put, List.setIfInBounds_toArray, List.set_cons_succ, List.set_cons_zero]); (with_reducible refine hK _ ?_); clear hK K))))
      refine wpQuiet_nil ?_
      intro w1 hb1
      replace hb1 := (hC.out _).1 hb1
      clear hC C
      obtain ⟨hc1, hf1⟩ := bcell hb1
      clear hc1 hf1
      go_wp2_with (go_at_call 44; refine (first2 _ _ _ _ _ (by first | (go_simp; done) | (go_simp; rfl)) (by first | (go_simp; done) | (go_simp; rfl)) _ HV.out).mono ?_; rintro e w' ⟨rfl, rfl⟩)
      go_ret
      exact ⟨ret_int HE.out.symm, pa (pt (pa pr) hb1)⟩

theorem terms_take {B : Nat} {w : World} {A : Option Addr} {ts : List DTerm} (h : CellsIn B w A (termsC ts)) (k : Nat) : CellsIn B w A (termsC (ts.take k)) := by
  unfold termsC at *
  rw [flat_take term_len]
  exact h.take_ _

set_option maxHeartbeats 2000000 in
set_option maxRecDepth 100000 in
theorem requirementErr_any (B : Nat) (r : DReq) (A : Option Addr) (n c : Nat) (w : World) (hr : CellsIn B w A (termsC r.ts)) (hB : B ≤ w.heap.size) (hn : r.ts.length = n) (hm : n ≤ 1000) (hc : n ≤ c) (hU : UnitIn w) :
    Calls Tryz.prog 85 #[.agg #[.slice A n c, .bool r.ge, .int .i64 r.lim, .int .i64 r.unit]] w fun e w' => e = .returned (.int .i64 (reqE r)) ∧ Below w.heap.size w w' := by
  have HT := Lib.hid (show reqE r = if reqE1 r.ts.length ≠ 0 then reqE1 r.ts.length else if (scan (termErrs r) r.ts.length 0).2 ≠ 0 then (scan (termErrs r) r.ts.length 0).2 else unlessV (withinB r.lim (-1000000000) 1000000000) 2 from rfl)
  have HR := Lib.hid hr
  have HU := Lib.hid hU
  have HV1 := Lib.hid (show firstV [unlessV (decide (0 < n)) 10, unlessV (decide ((n : Int) ≤ 4)) 8] = reqE1 r.ts.length by rw [← hn]; rfl)
  obtain ⟨ts, ge, lim, unit⟩ := r
  have HN := Lib.hid hn
  dsimp only at *
  clear hr hU
  generalize reqE ⟨ts, ge, lim, unit⟩ = E at *
  generalize reqE1 ts.length = E1 at *
  by_cases hE : E1 = 0
  · subst hE
    have HE := Lib.hid (show E = if (scan (termErrs ⟨ts, ge, lim, unit⟩) ts.length 0).2 ≠ 0 then (scan (termErrs ⟨ts, ge, lim, unit⟩) ts.length 0).2 else unlessV (withinB lim (-1000000000) 1000000000) 2 by rw [HT.out, if_neg (by simp)])
    clear HT
    generalize hF : termErrs ⟨ts, ge, lim, unit⟩ = F at *
    have HF := Lib.hid hF
    clear hF
    rw [hn] at HE
    go_enter Tryz.func85, Tryz.ntmps85
    go_wp2
    refine region_below 10 follows_mixed (by kernel_rfl) ?_
    intro C hC
    simp only [List.take_succ_cons, List.take_zero, List.drop_succ_cons, List.drop_zero]
    repeat (first
      | ((with_reducible refine quiet_plain rfl (fun K hK => ?_)); (focus (apply quiet_val; (focus (intro w' hw; obtain ⟨hcq, hfq⟩ := bcell ((hC.out _).1 hw); go_simp; (first | done | rfl | (with_reducible exact call_same hw (unless_any _ _ _))))); (simp only [Act.put, List.setIfInBounds_toArray, List.set_cons_succ, List.set_cons_zero]); (with_reducible refine hK _ ?_); clear hK K)))
      | ((with_reducible refine quiet_skip ?_ ?_); (focus (first | (simp [Region.wanted, yielded]; done) | (simp [Region.wanted, yielded, undef]; done))); simp only [Act.put, List.setIfInBounds_toArray, List.set_cons_succ, List.set_cons_zero])
      | ((with_reducible refine quiet_go ?_ (fun K hK => ?_)); (focus (first | (simp [Region.wanted, yielded]; done) | (simp [Region.wanted, yielded, undef]; done))); (focus (apply quiet_val; (focus (intro w' hw; obtain ⟨hcq, hfq⟩ := bcell ((hC.out _).1 hw); go_simp; (first | done | rfl | (with_reducible exact call_same hw (unless_any _ _ _))))); (simp only [Act.put, List.setIfInBounds_toArray, List.set_cons_succ, List.set_cons_zero]); (with_reducible refine hK _ ?_); clear hK K))))
    refine wpQuiet_nil ?_
    intro w1 hb1
    replace hb1 := (hC.out _).1 hb1
    clear hC C
    obtain ⟨hc1, hf1⟩ := bcell hb1
    have r0 : Blk w1 w.heap.size 45 #[.slice A n c, .bool ge, .int .i64 lim, .int .i64 unit] := (Blk.newAt rfl).past hb1
    have HQ1 := Lib.hid (pt (pa (o := .cells #[.slice A n c, .bool ge, .int .i64 lim, .int .i64 unit] 45) (pr (w := w))) hb1)
    have g0 := r0.cellAt 0 rfl
    have gl := r0.lt
    clear hc1 hf1 hb1
    go_wp2_with (go_at_call 44; refine (first2 _ _ _ _ _ (by first | (go_simp; done) | (go_simp; rfl)) (by first | (go_simp; done) | (go_simp; rfl)) _ HV1.out).mono ?_; rintro e w' ⟨rfl, rfl⟩)
    have HQ2 := Lib.hid (pa (o := .cells #[.int .i64 (unlessV (decide (0 < n)) 10), .int .i64 (unlessV (decide ((n : Int) ≤ 4)) 8)] 33) HQ1.out)
    have R0 := Lib.hid (r0.alloc (o := .cells #[.int .i64 (unlessV (decide (0 < n)) 10), .int .i64 (unlessV (decide ((n : Int) ≤ 4)) 8)] 33))
    clear r0 g0 gl HQ1
    generalize w1.alloc (.cells #[.int .i64 (unlessV (decide (0 < n)) 10), .int .i64 (unlessV (decide ((n : Int) ≤ 4)) 8)] 33) = v at *
    go_loopw [25] (fun i wr => ∃ k : Nat, k ≤ n ∧ i = .int .i64 (k : Int) ∧ scan F n 0 = scan F n k ∧ Below v.heap.size v wr) (fun i _ => n - (intOf i).toNat)
    case atStart => exact ⟨0, Nat.zero_le _, rfl, rfl, pr⟩
    case round =>
      obtain ⟨k, hk, rfl, hf, hq⟩ := hrel
      have q0 := R0.out.past hq
      have HQ := Lib.hid (pt HQ2.out hq)
      have c0 := q0.cellAt 0 rfl
      have z0 := q0.lt
      by_cases hlt : k < n
      · obtain ⟨b, off, rfl, hb, hct⟩ := terms_at (HR.out.below (HQ.out.mono hB)) (k := k) (by rw [hn]; exact hlt)
        obtain ⟨u0, u1⟩ := hct k (by rw [hn]; exact hlt)
        have HS := Lib.hid (hf.trans (scan_step hlt))
        have hFk : F k = termE (ts.getD k default) unit (ts.take k) := by rw [← HF.out]; rfl
        have hbw := Nat.lt_of_lt_of_le hb (Nat.le_trans hB HQ.out.size)
        have HCt := fun (t : DTerm) W (hW : Below w.heap.size w W) => termErr_any B t unit (ts.take k) _ k c W (terms_take (HR.out.below (hW.mono hB)) k) (Nat.le_trans hB hW.size) (by rw [List.length_take, hn]; omega) (by omega) (HU.out.below hW)
        have i0 : (0 : Int) ≤ (k : Int) := by omega
        have i1 : (k : Int) ≤ (c : Int) := by omega
        clear hct hf
        generalize ts.getD k default = t at *
        have HCk := Lib.hid (HCt t)
        obtain ⟨tf, tq⟩ := t
        have u0 : wr.cell? ⟨b, off + k * 2, none⟩ = some (.int .i64 tf) := u0
        have u1 : wr.cell? ⟨b, off + k * 2 + 1, none⟩ = some (.int .i64 tq) := u1
        rw [← hFk] at HCk
        have HB := Lib.hid (pa (o := .cells #[.int .i64 tf, .int .i64 tq] 64) HQ.out)
        clear HCt hFk HF
        generalize F k = e at *
        go_wp2
        have r2 : Blk (wr.alloc (.cells #[.int .i64 tf, .int .i64 tq] 64)) wr.heap.size 64 #[.int .i64 tf, .int .i64 tq] := Blk.newAt rfl
        have p0 := r2.cellAt 0 rfl
        have p1 := r2.cellAt 1 rfl
        have q1 := q0.alloc (o := .cells #[.int .i64 tf, .int .i64 tq] 64)
        have p2 := q1.cellAt 0 rfl
        have p3 := q1.cellAt 3 rfl
        refine region_below 8 follows_mixed (by kernel_rfl) ?_
        intro C hC
        simp only [List.take_succ_cons, List.take_zero, List.drop_succ_cons, List.drop_zero]
        repeat (first
          | ((with_reducible refine quiet_plain rfl (fun K hK => ?_)); (focus (apply quiet_val; (focus (intro w' hw; obtain ⟨hcq, hfq⟩ := bcell ((hC.out _).1 hw); go_simp; (first | done | rfl | (with_reducible exact call_below hC hw (HCk.out _ (pt HB.out ((hC.out _).1 hw))))))); (simp only [Act.put, List.setIfInBounds_toArray, List.set_cons_succ, List.set_cons_zero]); (with_reducible refine hK _ ?_); clear hK K)))
          | ((with_reducible refine quiet_skip ?_ ?_); (focus (first | (simp [Region.wanted, yielded]; done) | (simp [Region.wanted, yielded, undef]; done))); simp only [Act.put, List.setIfInBounds_toArray, List.set_cons_succ, List.set_cons_zero])
          | ((with_reducible refine quiet_go ?_ (fun K hK => ?_)); (focus (first | (simp [Region.wanted, yielded]; done) | (simp [Region.wanted, yielded, undef]; done))); (focus (apply quiet_val; (focus (intro w' hw; obtain ⟨hcq, hfq⟩ := bcell ((hC.out _).1 hw); go_simp; (first | done | rfl | (with_reducible exact call_below hC hw (HCk.out _ (pt HB.out ((hC.out _).1 hw))))))); (simp only [Act.put, List.setIfInBounds_toArray, List.set_cons_succ, List.set_cons_zero]); (with_reducible refine hK _ ?_); clear hK K))))
        refine wpQuiet_nil ?_
        intro w1 hb1
        replace hb1 := (hC.out _).1 hb1
        clear hC C
        obtain ⟨hc1, hf1⟩ := bcell hb1
        have HQ3 := Lib.hid (pt HB.out hb1)
        have HQv := Lib.hid (pt (pa (o := .cells #[.int .i64 tf, .int .i64 tq] 64) hq) hb1)
        clear hc1 hf1 hb1 p0 p1 p2 p3 r2 q1
        by_cases he : e = 0
        · subst he
          have HS2 := Lib.hid (show scan F n 0 = scan F n (k + 1) by rw [HS.out, if_pos rfl])
          go_wp2
          go_roundw
          case rel => exact ⟨k + 1, by omega, by go_num, HS2.out, HQv.out⟩
          case measure => simp [intOf]; omega
        · have he1 : (e == 0) = false := by simpa using he
          have he2 : (e != 0) = true := by simpa using he
          have HRs := Lib.hid (show E = e by rw [HE.out, HS.out, if_neg he, if_pos he])
          go_wp2
          go_ret
          exact ⟨ret_int HRs.out.symm, HQ3.out⟩
      · have HRs := Lib.hid (show E = unlessV (withinB lim (-1000000000) 1000000000) 2 by rw [HE.out, hf, scan_end (by omega), if_neg (by simp)])
        have c2 := q0.cellAt 2 rfl
        clear hf
        go_wp2_with (first
          | (go_at_call 101; refine (small_any _ _ (by decide) (by decide) _).mono ?_; rintro e w' ⟨rfl, rfl⟩)
          | (go_at_call 48; refine (unless_any _ _ _).mono ?_; rintro e w' ⟨rfl, rfl⟩))
        go_ret
        exact ⟨ret_int HRs.out.symm, HQ.out⟩
  · have hE1 : (E1 == 0) = false := by simpa using hE
    have hE2 : (E1 != 0) = true := by simpa using hE
    have HE := Lib.hid (show E = E1 by rw [HT.out, if_pos hE])
    clear HT
    go_enter Tryz.func85, Tryz.ntmps85
    go_wp2
    refine region_below 10 follows_mixed (by kernel_rfl) ?_
    intro C hC
    simp only [List.take_succ_cons, List.take_zero, List.drop_succ_cons, List.drop_zero]
    repeat (first
      | ((with_reducible refine quiet_plain rfl (fun K hK => ?_)); (focus (apply quiet_val; (focus (intro w' hw; obtain ⟨hcq, hfq⟩ := bcell ((hC.out _).1 hw); go_simp; (first | done | rfl | (with_reducible exact call_same hw (unless_any _ _ _))))); (simp only [Act.put, List.setIfInBounds_toArray, List.set_cons_succ, List.set_cons_zero]); (with_reducible refine hK _ ?_); clear hK K)))
      | ((with_reducible refine quiet_skip ?_ ?_); (focus (first | (simp [Region.wanted, yielded]; done) | (simp [Region.wanted, yielded, undef]; done))); simp only [Act.put, List.setIfInBounds_toArray, List.set_cons_succ, List.set_cons_zero])
      | ((with_reducible refine quiet_go ?_ (fun K hK => ?_)); (focus (first | (simp [Region.wanted, yielded]; done) | (simp [Region.wanted, yielded, undef]; done))); (focus (apply quiet_val; (focus (intro w' hw; obtain ⟨hcq, hfq⟩ := bcell ((hC.out _).1 hw); go_simp; (first | done | rfl | (with_reducible exact call_same hw (unless_any _ _ _))))); (simp only [Act.put, List.setIfInBounds_toArray, List.set_cons_succ, List.set_cons_zero]); (with_reducible refine hK _ ?_); clear hK K))))
    refine wpQuiet_nil ?_
    intro w1 hb1
    replace hb1 := (hC.out _).1 hb1
    clear hC C
    obtain ⟨hc1, hf1⟩ := bcell hb1
    clear hc1 hf1
    go_wp2_with (go_at_call 44; refine (first2 _ _ _ _ _ (by first | (go_simp; done) | (go_simp; rfl)) (by first | (go_simp; done) | (go_simp; rfl)) _ HV1.out).mono ?_; rintro e w' ⟨rfl, rfl⟩)
    go_ret
    exact ⟨ret_int HE.out.symm, pa (pt (pa pr) hb1)⟩

set_option maxHeartbeats 2000000 in
set_option maxRecDepth 100000 in
theorem CheckSpec_any (B : Nat) (rs : List DReq) (A : Option Addr) (n c : Nat) (w : World) (hr : ReqsIn B w A rs) (hB : B ≤ w.heap.size) (hn : rs.length = n) (hm : n ≤ 1000) (hs : ∀ r ∈ rs, r.ts.length ≤ 1000) (hU : UnitIn w) :
    Calls Tryz.prog 60 #[.agg #[.slice A n c]] w fun e w' => e = .returned (.tuple #[.int .i64 ((specE rs).1 : Int), .int .i64 (specE rs).2]) ∧ Below w.heap.size w w' := by
  have HT := Lib.hid (show specE rs = if specE1 rs.length ≠ 0 then (0, specE1 rs.length) else scan (reqErrs rs) rs.length 0 from rfl)
  have HR := Lib.hid hr
  have HU := Lib.hid hU
  have HSm := Lib.hid hs
  have HV1 := Lib.hid (show firstV [unlessV (decide (0 < n)) 10, unlessV (decide ((n : Int) ≤ 6)) 8] = specE1 rs.length by rw [← hn]; rfl)
  have HN := Lib.hid hn
  clear hr hU hs
  generalize specE rs = R at *
  generalize specE1 rs.length = E1 at *
  by_cases hE : E1 = 0
  · subst hE
    have HE := Lib.hid (show R = scan (reqErrs rs) n 0 by rw [HT.out, if_neg (by simp), hn])
    clear HT
    go_enter Tryz.func60, Tryz.ntmps60
    go_wp2_with (first
      | (go_at_call 48; refine (unless_any _ _ _).mono ?_; rintro e w' ⟨rfl, rfl⟩)
      | (go_at_call 44; refine (first2 _ _ _ _ _ (by first | (go_simp; done) | (go_simp; rfl)) (by first | (go_simp; done) | (go_simp; rfl)) _ HV1.out).mono ?_; rintro e w' ⟨rfl, rfl⟩))
    generalize hv : World.alloc (w.alloc _) _ = v
    have HQ1 : Hid (Below w.heap.size w v) := Lib.hid (by rw [← hv]; exact pa (pa pr))
    clear hv
    go_loopw [26] (fun i wr => ∃ k : Nat, k ≤ n ∧ i = .int .i64 (k : Int) ∧ scan (reqErrs rs) n 0 = scan (reqErrs rs) n k ∧ Below v.heap.size v wr) (fun i _ => n - (intOf i).toNat)
    case atStart => exact ⟨0, Nat.zero_le _, rfl, rfl, pr⟩
    case round =>
      obtain ⟨k, hk, rfl, hf, hq⟩ := hrel
      have HQ := Lib.hid (pt HQ1.out hq)
      by_cases hlt : k < n
      · have hk' : k < rs.length := by rw [hn]; exact hlt
        obtain ⟨b, off, rfl, hb, hct⟩ := (HR.out.below (HQ.out.mono hB)).at_ hk'
        obtain ⟨A', c', u0, u1, u2, u3, hts, hcap⟩ := hct k hk'
        have HS := Lib.hid (hf.trans (scan_step hlt))
        have hFk : reqErrs rs k = reqE (rs.getD k default) := rfl
        have hl := HSm.out _ (getD_mem' hk')
        have HCt := Lib.hid (fun W (hW : Below wr.heap.size wr W) => requirementErr_any B (rs.getD k default) A' _ c' W (hts.below (hW.mono (Nat.le_trans hB HQ.out.size))) (Nat.le_trans hB (Nat.le_trans HQ.out.size hW.size)) rfl hl hcap (HU.out.below (pt HQ.out hW)))
        rw [← hFk] at HCt
        clear hct hts hf hFk hcap
        generalize reqErrs rs k = e at *
        generalize rs.getD k default = r at *
        obtain ⟨ts, ge, lim, unit⟩ := r
        have u0 : wr.cell? ⟨b, off + k * 4, none⟩ = some (.slice A' ts.length c') := u0
        have u1 : wr.cell? ⟨b, off + k * 4 + 1, none⟩ = some (.bool ge) := u1
        have u2 : wr.cell? ⟨b, off + k * 4 + 2, none⟩ = some (.int .i64 lim) := u2
        have u3 : wr.cell? ⟨b, off + k * 4 + 3, none⟩ = some (.int .i64 unit) := u3
        have HCt : Hid (∀ W, Below wr.heap.size wr W → Calls Tryz.prog 85 #[.agg #[.slice A' ts.length c', .bool ge, .int .i64 lim, .int .i64 unit]] W fun e' w' => e' = .returned (.int .i64 e) ∧ Below W.heap.size W w') := HCt
        by_cases he : e = 0
        · subst he
          have HS2 := Lib.hid (show scan (reqErrs rs) n 0 = scan (reqErrs rs) n (k + 1) by rw [HS.out, if_pos rfl])
          go_wp2_with (go_at_call 85; refine (HCt.out _ (pa pr)).mono ?_; rintro e w2 ⟨rfl, hb2⟩; have HQ2 := Lib.hid (pt (pa hq) hb2))
          go_roundw
          case rel => exact ⟨k + 1, by omega, by go_num, HS2.out, HQ2.out⟩
          case measure => simp [intOf]; omega
        · have he1 : (e == 0) = false := by simpa using he
          have he2 : (e != 0) = true := by simpa using he
          have HRs := Lib.hid (show R = (k, e) by rw [HE.out, HS.out, if_neg he])
          go_wp2_with (go_at_call 85; refine (HCt.out _ (pa pr)).mono ?_; rintro e w2 ⟨rfl, hb2⟩; have HQ2 := Lib.hid (pt (pa HQ.out) hb2))
          go_ret2
          exact ⟨ret_ii (by rw [HRs.out]) (by rw [HRs.out]), HQ2.out⟩
      · have HRs := Lib.hid (show R = (0, 0) by rw [HE.out, hf, scan_end (by omega)])
        clear hf
        go_wp2
        go_ret2
        exact ⟨ret_ii (by rw [HRs.out]; rfl) (by rw [HRs.out]), HQ.out⟩
  · have hE1 : (E1 == 0) = false := by simpa using hE
    have hE2 : (E1 != 0) = true := by simpa using hE
    have HE := Lib.hid (show R = (0, E1) by rw [HT.out, if_pos hE])
    clear HT
    go_enter Tryz.func60, Tryz.ntmps60
    go_wp2_with (first
      | (go_at_call 48; refine (unless_any _ _ _).mono ?_; rintro e w' ⟨rfl, rfl⟩)
      | (go_at_call 44; refine (first2 _ _ _ _ _ (by first | (go_simp; done) | (go_simp; rfl)) (by first | (go_simp; done) | (go_simp; rfl)) _ HV1.out).mono ?_; rintro e w' ⟨rfl, rfl⟩))
    go_ret2
    exact ⟨ret_ii (by rw [HE.out]; rfl) (by rw [HE.out]), pa (pa pr)⟩

end Go.Proofs.YtnfbdkdjoekifaaGreatDoor
end
