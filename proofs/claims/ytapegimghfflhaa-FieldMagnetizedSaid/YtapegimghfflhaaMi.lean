/- Contract: CheckCurve (package field).
Memory of networks: branches in a row. No condition.
Contract: dot (package field). -/
import Derived.Test.YtapegimghfflhaaMh
import Derived.Test.YtapegimghfflhaaM5
import Derived.Test.YtapegimghfflhaaMd

section
namespace Go.Proofs.Ytapegimghfflhaa
open Go.RowKit

theorem scan_noneF {f : Nat → Int} {n : Nat} : ∀ {m k : Nat}, n - k = m → (scan f n k).2 = 0 → ∀ j, k ≤ j → j < n → f j = 0
  | 0, k, h, _, j, h1, h2 => by omega
  | m + 1, k, h, hs, j, h1, h2 => by
    rw [scan_step (by omega)] at hs
    by_cases h0 : f k = 0
    · rw [if_pos h0] at hs
      rcases Nat.eq_or_lt_of_le h1 with rfl | h3
      · exact h0
      · exact scan_noneF (m := m) (k := k + 1) (by omega) hs j h3 h2
    · rw [if_neg h0] at hs
      exact absurd hs h0
def curveE1 (n : Nat) : Int := firstV [unlessV (decide (0 < n)) 10, unlessV (decide ((n : Int) ≤ 8)) 8]
def ptErr (ps : List DTerm) (k : Nat) : Int := firstV [unlessV (withinB (ps.getD k default).f 1 1000 && withinB (ps.getD k default).q 1 1000) 2, unlessV (decide ((fromP ps k).1 < (ps.getD k default).f) && decide ((fromP ps k).2 < (ps.getD k default).q)) 9]
/-- The index of an invalid point, and the error of a curve. -/
def curveC (ps : List DTerm) : Nat × Int := if curveE1 ps.length ≠ 0 then (0, curveE1 ps.length) else scan (ptErr ps) ps.length 0
theorem curve_ok {ps : List DTerm} (h : (curveC ps).2 = 0) : CurveOk ps := by
  unfold curveC at h
  by_cases h1 : curveE1 ps.length = 0
  · rw [if_neg (by simpa using h1)] at h
    obtain ⟨g1, g2⟩ := firstV_zero.1 h1
    have g1 := (unless_ne (by decide)).1 g1
    have g2 := (unless_ne (by decide)).1 (firstV_zero.1 g2).1
    simp only [decide_eq_true_eq] at g1 g2
    refine ⟨⟨g1, by omega⟩, fun k hk => ?_⟩
    have h2 := scan_noneF (m := ps.length) (k := 0) rfl h k (Nat.zero_le _) hk
    unfold ptErr at h2
    obtain ⟨f1, f2⟩ := firstV_zero.1 h2
    have f1 := (unless_ne (by decide)).1 f1
    have f2 := (unless_ne (by decide)).1 (firstV_zero.1 f2).1
    unfold withinB at f1
    simp only [Bool.and_eq_true, decide_eq_true_eq] at f1 f2
    exact ⟨f1.1, f1.2, f2⟩
  · rw [if_pos h1] at h
    exact absurd h h1
theorem curve_pts {ps : List DTerm} (h : CurveOk ps) : PtsOk ps := ⟨Nat.le_trans h.len.2 (by decide), fun t ht => by
  obtain ⟨k, hk, e⟩ := List.getElem_of_mem ht
  have h1 := h.pts k hk
  have e2 : ps.getD k default = t := by rw [List.getD_eq_getElem?_getD, List.getElem?_eq_getElem hk]; exact e
  rw [e2] at h1
  omega⟩

theorem withinFd_v (x lo hi : Int) (v : Bool) (h : withinB x lo hi = v) (w : World) :
    Calls Try.prog 31 #[.int .i64 x, .int .i64 lo, .int .i64 hi] w fun r w' => r = .returned (.bool v) ∧ w = w' := by
  subst h
  exact withinFd_any _ _ _ _

set_option maxHeartbeats 4000000 in
set_option maxRecDepth 100000 in
theorem CheckCurve_any (B : Nat) (cv : List DTerm) (A : Option Addr) (n c : Nat) (w : World) (hr : CellsIn B w A (termsC cv)) (hB : B ≤ w.heap.size) (hn : cv.length = n) (hm : n ≤ 1000) :
    Calls Try.prog 47 #[.agg #[.slice A n c]] w fun e w' => e = .returned (.tuple #[.int .i64 ((curveC cv).1 : Int), .int .i64 (curveC cv).2]) ∧ Below w.heap.size w w' := by
  have HT := Lib.hid (show curveC cv = if curveE1 cv.length ≠ 0 then (0, curveE1 cv.length) else scan (ptErr cv) cv.length 0 from rfl)
  have HR := Lib.hid hr
  have HV1 := Lib.hid (show firstV [unlessV (decide (0 < n)) 10, unlessV (decide ((n : Int) ≤ 8)) 8] = curveE1 cv.length by rw [← hn]; rfl)
  have HN := Lib.hid hn
  clear hr
  generalize curveC cv = R at *
  generalize curveE1 cv.length = E1 at *
  by_cases hE : E1 = 0
  · subst hE
    have HE := Lib.hid (show R = scan (ptErr cv) n 0 by rw [HT.out, if_neg (by simp), hn])
    clear HT hn
    go_enter Try.func47, Try.ntmps47
    go_wp2
    refine region_below 10 follows_mixed (by kernel_rfl) ?_
    intro C hC
    simp only [List.take_succ_cons, List.take_zero, List.drop_succ_cons, List.drop_zero]
    repeat (first
      | ((with_reducible refine quiet_plain rfl (fun K hK => ?_)); (focus (apply quiet_val; (focus (intro w' hw; obtain ⟨hcq, hfq⟩ := bcell ((hC.out _).1 hw); go_simp; (first | done | rfl | (with_reducible exact call_same hw (unlessFd_any _ _ _))))); (simp only [Act.put, List.setIfInBounds_toArray, List.set_cons_succ, List.set_cons_zero]); (with_reducible refine hK _ ?_); clear hK K)))
      | ((with_reducible refine quiet_skip ?_ ?_); (focus (first | (simp [Region.wanted, yielded]; done) | (simp [Region.wanted, yielded, undef]; done))); simp only [Act.put, List.setIfInBounds_toArray, List.set_cons_succ, List.set_cons_zero])
      | ((with_reducible refine quiet_go ?_ (fun K hK => ?_)); (focus (first | (simp [Region.wanted, yielded]; done) | (simp [Region.wanted, yielded, undef]; done))); (focus (apply quiet_val; (focus (intro w' hw; obtain ⟨hcq, hfq⟩ := bcell ((hC.out _).1 hw); go_simp; (first | done | rfl | (with_reducible exact call_same hw (unlessFd_any _ _ _))))); (simp only [Act.put, List.setIfInBounds_toArray, List.set_cons_succ, List.set_cons_zero]); (with_reducible refine hK _ ?_); clear hK K))))
    refine wpQuiet_nil ?_
    intro w1 hb1
    replace hb1 := (hC.out _).1 hb1
    clear hC C
    obtain ⟨hc1, hf1⟩ := bcell hb1
    have HQ1 := Lib.hid (pt (pa (o := .cells #[.slice A n c] 24) (pr (w := w))) hb1)
    have r0 : Blk w1 w.heap.size 24 #[.slice A n c] := (Blk.newAt rfl).past hb1
    have R0 := Lib.hid r0
    have x0 := r0.cellAt 0 rfl
    have xl := r0.lt
    clear hc1 hf1 hb1 r0
    go_wp2_with (go_at_call 25; refine (first2Fd _ _ _ _ _ (by first | (go_simp; done) | (go_simp; rfl)) (by first | (go_simp; done) | (go_simp; rfl)) _ HV1.out).mono ?_; rintro e w' ⟨rfl, rfl⟩)
    clear x0 xl R0
    generalize hv : World.alloc (w1.alloc _) _ = v
    have HQv := Lib.hid (show Below w.heap.size w v from by rw [← hv]; exact pa (pa HQ1.out))
    have q0 : Blk v (w1.heap.size + 1) 89 #[.int .i64 0, .int .i64 0] := by rw [← hv]; exact Blk.newAt (by simp)
    have hgw : w.heap.size ≤ w1.heap.size + 1 := Nat.le_succ_of_le HQ1.out.size
    clear hv HQ1
    generalize w1.heap.size + 1 = g at *
    go_loopw [28] (fun iv wr => ∃ k : Nat, k ≤ n ∧ iv = .int .i64 (k : Int) ∧ scan (ptErr cv) n 0 = scan (ptErr cv) n k ∧ Blk wr g 89 #[.int .i64 (fromP cv k).1, .int .i64 (fromP cv k).2] ∧ Below w.heap.size w wr) (fun iv _ => n - (intOf iv).toNat)
    case atStart => exact ⟨0, Nat.zero_le _, rfl, rfl, q0, HQv.out⟩
    case round =>
      clear HQv q0
      obtain ⟨k, hk, rfl, hf, hg, hq⟩ := hrel
      by_cases hlt : k < n
      · have hk' : k < cv.length := by rw [HN.out]; exact hlt
        obtain ⟨b, off, rfl, hb, hct⟩ := terms_at (HR.out.below (hq.mono hB)) hk'
        obtain ⟨u0, u1⟩ := hct k hk'
        have HS := Lib.hid (hf.trans (scan_step hlt))
        have HPt : ptErr cv k = firstV [unlessV (withinB (cv.getD k default).f 1 1000 && withinB (cv.getD k default).q 1 1000) 2, unlessV (decide ((fromP cv k).1 < (cv.getD k default).f) && decide ((fromP cv k).2 < (cv.getD k default).q)) 9] := rfl
        have HNx := Lib.hid (show fromP cv (k + 1) = ((cv.getD k default).f, (cv.getD k default).q) from rfl)
        have HQ := Lib.hid hq
        have HG := Lib.hid hg
        have hbw : b < wr.heap.size := Nat.lt_of_lt_of_le hb (Nat.le_trans hB hq.size)
        clear hct hf hq hg
        generalize ptErr cv k = e at *
        generalize (cv.getD k default).f = tf at *
        generalize (cv.getD k default).q = tq at *
        generalize (fromP cv k).1 = fa at *
        generalize (fromP cv k).2 = fb at *
        replace HPt := Lib.hid HPt.symm
        cases hA : withinB tf 1 1000
        all_goals cases hB2 : decide (fa < tf)
        all_goals
          have hA' := Lib.hid hA
          have hB' := Lib.hid hB2
          first
            | have hlt1 : ¬ fa < tf := of_decide_eq_false hB2
            | have hlt1 : fa < tf := of_decide_eq_true hB2
          have HW := Lib.hid (HPt.out)
          rw [hA, hB2] at HW
          simp only [Bool.true_and, Bool.false_and] at HW
          have hB3 := hB2
          clear hA hB2
          have x0 := HG.out.cellAt 0 rfl
          have x1 := HG.out.cellAt 1 rfl
          have xl := HG.out.lt
          have HB1 := Lib.hid (show Below w.heap.size w (wr.alloc (.cells #[.int .i64 tf, .int .i64 tq] 89)) from pa HQ.out)
          have HG1 := Lib.hid (show Blk (wr.alloc (.cells #[.int .i64 tf, .int .i64 tq] 89)) g 89 #[.int .i64 fa, .int .i64 fb] from HG.out.alloc)
          have HP1 := Lib.hid (show Blk (wr.alloc (.cells #[.int .i64 tf, .int .i64 tq] 89)) wr.heap.size 89 #[.int .i64 tf, .int .i64 tq] from Blk.newAt rfl)
          go_wp2_with (first
            | (go_at_call 31; (with_reducible refine (withinFd_v _ _ _ _ hA'.out _).mono ?_); rintro e w' ⟨rfl, rfl⟩)
            | (go_at_call 31; refine (withinFd_any _ _ _ _).mono ?_; rintro e w' ⟨rfl, rfl⟩))
          refine region_below 15 follows_mixed (by kernel_rfl) ?_
          intro C hC
          simp only [List.take_succ_cons, List.take_zero, List.drop_succ_cons, List.drop_zero]
          repeat (first
            | ((with_reducible refine quiet_plain rfl (fun K hK => ?_)); (focus (apply quiet_val; (focus (intro w' hw; obtain ⟨hcq, hfq⟩ := bcell ((hC.out _).1 hw); go_simp; (first | done | rfl | (with_reducible exact call_same hw (unlessFd_any _ _ _))))); (simp only [Act.put, List.setIfInBounds_toArray, List.set_cons_succ, List.set_cons_zero]); (with_reducible refine hK _ ?_); clear hK K)))
            | ((with_reducible refine quiet_skip ?_ ?_); (focus (first | (simp [Region.wanted, yielded]; done) | (simp [Region.wanted, yielded, undef]; done))); simp only [Act.put, List.setIfInBounds_toArray, List.set_cons_succ, List.set_cons_zero])
            | ((with_reducible refine quiet_go ?_ (fun K hK => ?_)); (focus (first | (simp [Region.wanted, yielded]; done) | (simp [Region.wanted, yielded, undef]; done))); (focus (apply quiet_val; (focus (intro w' hw; obtain ⟨hcq, hfq⟩ := bcell ((hC.out _).1 hw); go_simp; (first | done | rfl | (with_reducible exact call_same hw (unlessFd_any _ _ _))))); (simp only [Act.put, List.setIfInBounds_toArray, List.set_cons_succ, List.set_cons_zero]); (with_reducible refine hK _ ?_); clear hK K))))
          refine wpQuiet_nil ?_
          intro w1 hb1
          replace hb1 := (hC.out _).1 hb1
          clear hC C
          obtain ⟨hc1, hf1⟩ := bcell hb1
          have HB2 := Lib.hid (pt HB1.out hb1)
          have HG2 := Lib.hid (HG1.out.past hb1)
          have HP2 := Lib.hid (HP1.out.past hb1)
          have hne : g < wr.heap.size := xl
          clear hc1 hf1 hb1 x0 x1 xl u0 u1
          have x0 := HG2.out.cellAt 0 rfl
          have x1 := HG2.out.cellAt 1 rfl
          have xf0 := HG2.out.frozen 0
          have xf1 := HG2.out.frozen 1
          have xl := HG2.out.lt
          have y0 := HP2.out.cellAt 0 rfl
          have y1 := HP2.out.cellAt 1 rfl
          have yl := HP2.out.lt
          by_cases he : e = 0
          · subst he
            have HS2 := Lib.hid (show scan (ptErr cv) n 0 = scan (ptErr cv) n (k + 1) by rw [HS.out, if_pos rfl])
            go_wp2_with (go_at_call 25; refine (first2Fd _ _ _ _ _ (by first | (go_simp; done) | (go_simp; rfl)) (by first | (go_simp; done) | (go_simp; rfl)) _ HW.out).mono ?_; rintro e w' ⟨rfl, rfl⟩)
            go_roundw
            case rel => exact ⟨k + 1, by omega, by go_num, HS2.out, by rw [HNx.out]; exact (by simpa using (HG2.out.set_ 0 (.int .i64 tf)).set_ 1 (.int .i64 tq) : Blk ((w1.setCell ⟨g, 0, none⟩ (.int .i64 tf)).setCell ⟨g, 1, none⟩ (.int .i64 tq)) g 89 #[.int .i64 tf, .int .i64 tq]).alloc, pa (ps (ps HB2.out (by dsimp only; omega)) (by dsimp only; omega))⟩
            case measure => simp [intOf]; omega
          · have he1 : (e == 0) = false := by simpa using he
            have he2 : (e != 0) = true := by simpa using he
            have HRs := Lib.hid (show R = (k, e) by rw [HE.out, HS.out, if_neg he])
            go_wp2_with (go_at_call 25; refine (first2Fd _ _ _ _ _ (by first | (go_simp; done) | (go_simp; rfl)) (by first | (go_simp; done) | (go_simp; rfl)) _ HW.out).mono ?_; rintro e w' ⟨rfl, rfl⟩)
            go_ret2
            exact ⟨ret_ii (by rw [HRs.out]) (by rw [HRs.out]), pa HB2.out⟩
      · have HRs := Lib.hid (show R = (0, 0) by rw [HE.out, hf, scan_end (by omega)])
        have HQ := Lib.hid hq
        clear hf hq hg
        go_wp2
        go_ret2
        exact ⟨ret_ii (by rw [HRs.out]; rfl) (by rw [HRs.out]), HQ.out⟩
  · have hE1 : (E1 == 0) = false := by simpa using hE
    have hE2 : (E1 != 0) = true := by simpa using hE
    have HE := Lib.hid (show R = (0, E1) by rw [HT.out, if_pos hE])
    clear HT hn
    go_enter Try.func47, Try.ntmps47
    go_wp2
    refine region_below 10 follows_mixed (by kernel_rfl) ?_
    intro C hC
    simp only [List.take_succ_cons, List.take_zero, List.drop_succ_cons, List.drop_zero]
    repeat (first
      | ((with_reducible refine quiet_plain rfl (fun K hK => ?_)); (focus (apply quiet_val; (focus (intro w' hw; obtain ⟨hcq, hfq⟩ := bcell ((hC.out _).1 hw); go_simp; (first | done | rfl | (with_reducible exact call_same hw (unlessFd_any _ _ _))))); (simp only [Act.put, List.setIfInBounds_toArray, List.set_cons_succ, List.set_cons_zero]); (with_reducible refine hK _ ?_); clear hK K)))
      | ((with_reducible refine quiet_skip ?_ ?_); (focus (first | (simp [Region.wanted, yielded]; done) | (simp [Region.wanted, yielded, undef]; done))); simp only [Act.put, List.setIfInBounds_toArray, List.set_cons_succ, List.set_cons_zero])
      | ((with_reducible refine quiet_go ?_ (fun K hK => ?_)); (focus (first | (simp [Region.wanted, yielded]; done) | (simp [Region.wanted, yielded, undef]; done))); (focus (apply quiet_val; (focus (intro w' hw; obtain ⟨hcq, hfq⟩ := bcell ((hC.out _).1 hw); go_simp; (first | done | rfl | (with_reducible exact call_same hw (unlessFd_any _ _ _))))); (simp only [Act.put, List.setIfInBounds_toArray, List.set_cons_succ, List.set_cons_zero]); (with_reducible refine hK _ ?_); clear hK K))))
    refine wpQuiet_nil ?_
    intro w1 hb1
    replace hb1 := (hC.out _).1 hb1
    clear hC C
    obtain ⟨hc1, hf1⟩ := bcell hb1
    have HQ1 := Lib.hid (pt (pa (o := .cells #[.slice A n c] 24) (pr (w := w))) hb1)
    clear hc1 hf1 hb1
    go_wp2_with (go_at_call 25; refine (first2Fd _ _ _ _ _ (by first | (go_simp; done) | (go_simp; rfl)) (by first | (go_simp; done) | (go_simp; rfl)) _ HV1.out).mono ?_; rintro e w' ⟨rfl, rfl⟩)
    go_ret2
    exact ⟨ret_ii (by rw [HE.out]; rfl) (by rw [HE.out]), pa HQ1.out⟩
theorem curveErrFd_any (B : Nat) (cv : List DTerm) (A : Option Addr) (n c : Nat) (w : World) (hr : CellsIn B w A (termsC cv)) (hB : B ≤ w.heap.size) (hn : cv.length = n) (hm : n ≤ 1000) :
    Calls Try.prog 26 #[.agg #[.slice A n c]] w fun e w' => e = .returned (.int .i64 (curveC cv).2) ∧ Below w.heap.size w w' := by
  have HC := Lib.hid (fun W (hW : Below w.heap.size w W) => CheckCurve_any B cv A n c W (hr.below (hW.mono hB)) (Nat.le_trans hB hW.size) hn hm)
  generalize curveC cv = R at *
  go_enter Try.func26, Try.ntmps26
  go_wp2_with (go_at_call 47; refine (HC.out _ (pa pr)).mono ?_; rintro e w' ⟨rfl, hb⟩; have HB := Lib.hid (pt (pa pr) hb); clear hb)
  go_ret
  exact ⟨rfl, HB.out⟩
end Go.Proofs.Ytapegimghfflhaa
end

section
namespace Go.Proofs.Ytapegimghfflhaa
open Go.RowKit

def brU (x : FBr) : List Value := [.int .i64 x.a, .int .i64 x.b, .int .i64 x.r, .int .i64 x.t]
theorem br_len (x : FBr) : (brU x).length = 4 := rfl
theorem br_one (x : FBr) : ∀ u ∈ brU x, u.oneCell' = true := by simp [brU, Value.oneCell']
def brsC (l : List FBr) : List Value := l.flatMap brU
def BrAt (w : World) (b off : Nat) (x : FBr) : Prop := w.cell? ⟨b, off, none⟩ = some (.int .i64 x.a) ∧ w.cell? ⟨b, off + 1, none⟩ = some (.int .i64 x.b) ∧ w.cell? ⟨b, off + 2, none⟩ = some (.int .i64 x.r) ∧ w.cell? ⟨b, off + 3, none⟩ = some (.int .i64 x.t)
theorem brs_at {B : Nat} {w : World} {A : Option Addr} {bs : List FBr} {k : Nat} (h : CellsIn B w A (brsC bs)) (hk : k < bs.length) : ∃ b off, A = some ⟨b, off, none⟩ ∧ b < B ∧ ∀ i, i < bs.length → BrAt w b (off + i * 4) (bs.getD i default) := by
  obtain ⟨b, off, hA, hb, hc⟩ := h.elem br_len hk (by decide)
  exact ⟨b, off, hA, hb, fun i hi => ⟨hc i hi 0 (by decide), hc i hi 1 (by decide), hc i hi 2 (by decide), hc i hi 3 (by decide)⟩⟩
/-- Numbers of branches are within 64 bits. -/
def BrW (x : FBr) : Prop := WF x.a ∧ WF x.b ∧ WF x.r ∧ WF x.t
/-- The index of an invalid branch, and the error of a network. -/
def netE (N : Int) (bs : List FBr) : Nat × Int := if netE1 N bs.length ≠ 0 then (0, netE1 N bs.length) else scan (fun k => brErr N (bs.getD k default)) bs.length 0

/-- A block of numbers. -/
def intA (l : List Int) : Array Value := (l.map (Value.int .i64)).toArray
section
variable {w w' : World} {g : Nat} {t : TypeId} {l : List Int} {k : Nat}
theorem intA_cell (h : Blk w g t (intA l)) (hk : k < l.length) : w.cell? ⟨g, k, none⟩ = some (.int .i64 (l.getD k 0)) := by
  refine (h.cell k).trans ?_
  simp [intA, hk]
theorem intA_setA (l : List Int) (k : Nat) (v : Int) : (intA l).setIfInBounds k (.int .i64 v) = intA (l.set k v) := by
  unfold intA
  simp [List.map_set]
theorem intA_set (h : Blk w g t (intA l)) (k : Nat) (v : Int) : Blk (w.setCell ⟨g, k, none⟩ (.int .i64 v)) g t (intA (l.set k v)) := by
  have h1 := h.set_ k (.int .i64 v)
  have e : (intA l).setIfInBounds k (.int .i64 v) = intA (l.set k v) := by
    unfold intA
    simp [List.map_set]
  rwa [e] at h1
theorem intA_ints (h : Blk w g t (intA l)) : IntsIn w.heap.size w (some ⟨g, 0, none⟩) l := by
  refine .inr ⟨g, 0, rfl, h.lt, fun j hj => ?_⟩
  rw [Nat.zero_add]
  exact intA_cell h hj
theorem intA_rep (n : Nat) (v : Int) : Array.replicate n (Value.int .i64 v) = intA (List.replicate n v) := by
  unfold intA
  simp
end
/-- Numbers that fit with room. -/
def Wd (x : Int) : Prop := -9200000000000000000 ≤ x ∧ x ≤ 9200000000000000000
end Go.Proofs.Ytapegimghfflhaa
end

section
namespace Go.Proofs.Ytapegimghfflhaa
open Go.RowKit
set_option maxHeartbeats 2000000 in
theorem dotFd_any (B : Nat) (v u : List Int) (A1 A2 : Option Addr) (n c1 n2 c2 : Nat) (w : World) (h1 : IntsIn B w A1 v) (h2 : IntsIn B w A2 u) (_hB : B ≤ w.heap.size) (hv : v.length = n) (hu : u.length = n2) (hn : n ≤ n2) (hn2 : n2 ≤ 1000)
    (hp : ∀ k, k < n → Wd (v.getD k 0 * u.getD k 0)) (hs : ∀ k, k ≤ n → Wd (dotTo v u k)) :
    Calls Try.prog 56 #[.slice A1 n c1, .slice A2 n2 c2] w fun e w' => e = .returned (.int .i64 (dotV v u)) ∧ w = w' := by
  have H1 := Lib.hid h1
  have H2 := Lib.hid h2
  have HV := Lib.hid hv
  have HU := Lib.hid hu
  have HP := Lib.hid hp
  have HS := Lib.hid hs
  have HD := Lib.hid (show dotV v u = dotTo v u n by unfold dotV; rw [hv])
  clear h1 h2 hv hu hp hs
  go_enter Try.func56, Try.ntmps56
  go_wp2
  go_loopw [5, 10] (fun sv iv wr => ∃ k : Nat, k ≤ n ∧ iv = .int .i64 (k : Int) ∧ sv = .int .i64 (dotTo v u k) ∧ wr = w) (fun _ iv _ => n - (intOf iv).toNat)
  case atStart => exact ⟨0, Nat.zero_le _, rfl, rfl, rfl⟩
  case round =>
    obtain ⟨k, hk, rfl, rfl, rfl⟩ := hrel
    by_cases hlt : k < n
    · obtain ⟨b1, o1, rfl, hb1, hc1⟩ := H1.out.at_ (show k < v.length by rw [HV.out]; exact hlt)
      obtain ⟨b2, o2, rfl, hb2, hc2⟩ := H2.out.at_ (show k < u.length by rw [HU.out]; omega)
      have x0 := hc1 k (by rw [HV.out]; exact hlt)
      have y0 := hc2 k (by rw [HU.out]; omega)
      have p1 := HP.out k hlt
      have p2 := HS.out k hk
      have p3 := HS.out (k + 1) hlt
      have HNx := Lib.hid (show dotTo v u (k + 1) = dotTo v u k + v.getD k 0 * u.getD k 0 from rfl)
      rw [HNx.out] at p3
      clear hc1 hc2
      have k0 : (0 : Int) ≤ (k : Int) := by omega
      have k1 : (k : Int) < (n2 : Int) := by omega
      generalize dotTo v u k = s at *
      generalize v.getD k 0 = a at *
      generalize u.getD k 0 = c at *
      unfold Wd at p1 p2 p3
      have w1 : wrap64 (a * c) = a * c := w64 (by omega)
      have w1i : IntKind.i64.wrap (a * c) = a * c := IntWalk.i64_in _ (by omega)
      have w2 : wrap64 (s + a * c) = s + a * c := w64 (by omega)
      have w2i : IntKind.i64.wrap (s + a * c) = s + a * c := IntWalk.i64_in _ (by omega)
      clear p1 p2 p3
      go_wp2
      go_roundw
      case rel => exact ⟨k + 1, by omega, by go_num, by rw [HNx.out], (by first | trivial | rfl)⟩
      case measure => simp [intOf]; omega
    · obtain rfl : k = n := by omega
      go_wp2
      go_ret
      exact ⟨ret_int HD.out.symm, (by first | trivial | rfl)⟩
end Go.Proofs.Ytapegimghfflhaa
end
