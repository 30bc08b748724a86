/- Contracts: the bound of chains, the program's and the specification's. Valid plans. -/
import Derived.Test.YtlgioldmjohhlaaS1Min
import Derived.Test.YtlgioldmjohhlaaR2RefHeads
import Derived.Test.YtlgioldmjohhlaaQBRefSched
namespace Go.Proofs.Ytlgioldmjohhlaa
open Go.RowKit Go.Shelf

theorem headsV_ok {ts : List Task} (ha : AcyOk ts) (hl : LenOk ts) (hm : MachOk ts) (hp : PosOk ts) : ∀ j, 0 ≤ (headsV ts).getD j 0 ∧ (headsV ts).getD j 0 ≤ 90000 := fun j => by
  by_cases hj : j < ts.length
  · obtain ⟨b, _, h2, _, h4, _⟩ := best_min ha hl hm hp
    have h5 := feas_heads ha hl hp h2 hj
    have h6 := h4 j
    have h7 : (ts.getD j default).release ≤ (headsV ts).getD j 0 := by rw [← heads_fix ha hj]; exact maxF_ge.1
    have h8 := hl j hj
    omega
  · have : (headsV ts).getD j 0 = 0 := by simp [List.getD, List.getElem?_eq_none (show (headsV ts).length ≤ j by rw [heads_len ha]; omega)]
    omega

def pathR (ts : List Task) (hs tl : List Int) : Nat → Nat → Int → Int
  | 0, _, o => o
  | k + 1, i, o => pathR ts hs tl k (i + 1) (max o (hs.getD i 0 + (ts.getD i default).length + tl.getD i 0))
def pathV (ts : List Task) : Int := pathR ts (headsV ts) (tailsV ts) ts.length 0 0

theorem ints_of_iarr {w : World} {g B : Nat} {xs : List Int} (h : Blk w g 3 (iarr xs)) (hB : g < B) : IntsIn B w (some ⟨g, 0, none⟩) xs :=
  .inr ⟨g, 0, rfl, hB, fun j hj => by rw [Nat.zero_add]; exact h.cellAt j (iarr_get xs j hj)⟩


set_option maxHeartbeats 2000000 in
set_option maxRecDepth 100000 in
theorem path_ok (B : Nat) (ts : List Task) (A : Option Addr) (c : Nat) (m : Int) (w : World) (hr : TasksIn B w A ts) (hB : B ≤ w.heap.size) (hs : SmallPlan ts) (he : (openV m ts).2 = 0) :
    Calls Try.prog 70 #[.agg #[.int .i64 m, .slice A ts.length c]] w fun e w' => e = .returned (.tuple #[.int .i64 (pathV ts), .int .i64 0]) ∧ Below w.heap.size w w' := by
  obtain ⟨ha, hl, hm, _, _, hpos⟩ := open_ok he
  have hp : PosOk ts := fun i hi => (hpos i hi).2
  have h7 := ha.1.1
  have hopen := opened_any B ts A c m (w.alloc (.cells #[.int .i64 m, .slice A ts.length c] 24)) (hr.below ((pa pr).mono hB)) (by simp; omega) hs
  rw [he] at hopen
  have HO := Lib.hid hopen
  have HH := Lib.hid fun W (hW : Below w.heap.size w W) => (callsIn_wide (n := 2)).1 (heads_in B 2 ts A c m W (Nat.le_refl _) (hr.below (hW.mono hB)) (Nat.le_trans hB hW.size) ha hl)
  have HT := Lib.hid fun W (hW : Below w.heap.size w W) => (callsIn_wide (n := 3)).1 (tails_in B 3 ts A c m W (Nat.le_refl _) (hr.below (hW.mono hB)) (Nat.le_trans hB hW.size) ha hl)
  have HHb := Lib.hid (headsV_ok ha hl hm hp)
  have HTb := Lib.hid (tailsV_ok ha.1 hl).2
  have HHl := Lib.hid (heads_len ha)
  have HTl := Lib.hid (tailsV_ok ha.1 hl).1
  have HL := Lib.hid hl
  have HV := Lib.hid (show pathV ts = pathR ts (headsV ts) (tailsV ts) ts.length 0 0 from rfl)
  generalize pathV ts = V at *
  generalize headsV ts = hs_ at *
  generalize tailsV ts = tl_ at *
  have HR := Lib.hid hr
  clear hopen he hs ha hl hm hpos hp hr
  go_enter Try.func70, Try.ntmps70
  go_wp2_with (go_at_call 80; go_must (refine HO.out.mono ?_); rintro e w1 ⟨rfl, hb1⟩)
  have RA := Lib.hid ((((Blk.newAt (w := w) (t := 24) (cs := #[.int .i64 m, .slice A ts.length c]) rfl).past hb1)).alloc (o := .cells #[.int .i64 m, .slice A ts.length c] 107))
  have RB := Lib.hid (Blk.new w1 107 #[.int .i64 m, .slice A ts.length c])
  have HBo := Lib.hid (show Below w.heap.size w (w1.alloc (.cells #[.int .i64 m, .slice A ts.length c] 107)) from pa (pt (pa pr) hb1))
  clear hb1
  generalize w1.alloc (.cells #[.int .i64 m, .slice A ts.length c] 107) = wo at *
  generalize w1.heap.size = pb at *
  have HS := Lib.hid (show ∀ W, Hid (Below wo.heap.size wo W) → Hid (Below wo.heap.size wo W) ∧ W.cell? ⟨pb, 0, none⟩ = some (.int .i64 m) ∧ W.cell? ⟨pb, 1, none⟩ = some (.slice A ts.length c) from fun W hW => ⟨hW, (RB.out.past hW.out).cellAt 0 rfl, (RB.out.past hW.out).cellAt 1 rfl⟩)
  have x0 := RB.out.lt
  go_region_held3 (fun w' => Hid (Below wo.heap.size wo w') ∧ w'.cell? ⟨pb, 0, none⟩ = some (.int .i64 m) ∧ w'.cell? ⟨pb, 1, none⟩ = some (.slice A ts.length c)) ((refine HS.out _ (Lib.hid ?_); repeat (first | assumption | (with_reducible exact pr) | (with_reducible refine pd ?_) | (with_reducible refine pa ?_) | (with_reducible refine pt ?_ (by assumption)))))
    (first
      | (go_at_call 116; (with_reducible refine (HH.out _ (pt HBo.out (pd pr))).mono ?_); rintro e w2 ⟨g, rfl, hg, hgl, hb2⟩)
      | (go_at_call 81; (with_reducible refine (HT.out _ (pt (pt HBo.out (pd pr)) hb2)).mono ?_); rintro e w3 ⟨g2, rfl, hg2, hgl2, hb3⟩))
  have hbw3 : Below wo.heap.size wo w3 := pt (pt (pd pr) hb2) hb3
  have HG := Lib.hid (hg.past hb3)
  have HG2 := Lib.hid hg2
  have RA3 := Lib.hid (RA.out.past hbw3)
  have HB3 := Lib.hid (pt HBo.out hbw3)
  have a1 := RA3.out.cellAt 1 rfl
  have x1 := RA3.out.lt
  clear hbw3 hg hg2 hgl hgl2 hb2 hb3 HS x0 RA RB HBo
  go_wp2
  clear a1 x1
  go_loopw [6, 26] (fun ov iv wr => ∃ (o : Int) (i : Nat), ov = .int .i64 o ∧ iv = .int .i64 (i : Int) ∧ i ≤ ts.length ∧ V = pathR ts hs_ tl_ (ts.length - i) i o ∧ (0 ≤ o ∧ o ≤ 2000000) ∧ Below w3.heap.size w3 wr) (fun _ iv _ => ts.length - (intOf iv).toNat)
  case atStart => exact ⟨0, 0, rfl, rfl, Nat.zero_le _, HV.out, by omega, pr⟩
  case round =>
    obtain ⟨o, i, rfl, rfl, hi, hrun, hob, hq⟩ := hrel
    have HRun := Lib.hid hrun
    have HQ := Lib.hid hq
    clear hrun hq
    by_cases hlt : i < ts.length
    · obtain ⟨b, off, hA, hbB, hct⟩ := HR.out.at_ hlt
      obtain ⟨t0w, t1w, t2w, A3, c3, t3w, _, _⟩ := hct i hlt
      have hbx := pt HB3.out HQ.out
      have t0 := ((bcell (hbx.mono hB)).1 _ _ hbB).trans t0w
      have t1 := ((bcell (hbx.mono hB)).1 _ _ hbB).trans t1w
      have t2 := ((bcell (hbx.mono hB)).1 _ _ hbB).trans t2w
      have t3 := ((bcell (hbx.mono hB)).1 _ _ hbB).trans t3w
      have hbw : b < wr.heap.size := by have := hbx.size; omega
      have i0 : (0 : Int) ≤ (i : Int) := by omega
      have i1 : (i : Int) < (ts.length : Int) := by omega
      have h1 := HHb.out i
      have h2 := HTb.out i
      have h3 := HL.out i hlt
      have hw1 : IntKind.i64.wrap (hs_.getD i 0 + (ts.getD i default).length) = hs_.getD i 0 + (ts.getD i default).length := IntWalk.i64_in _ (by omega)
      have hw2 : IntKind.i64.wrap (hs_.getD i 0 + (ts.getD i default).length + tl_.getD i 0) = hs_.getD i 0 + (ts.getD i default).length + tl_.getD i 0 := IntWalk.i64_in _ (by omega)
      have HStep := Lib.hid (show V = pathR ts hs_ tl_ (ts.length - (i + 1)) (i + 1) (max o (hs_.getD i 0 + (ts.getD i default).length + tl_.getD i 0)) by
        rw [HRun.out, show ts.length - i = ts.length - (i + 1) + 1 by omega]
        rfl)
      have hbd : 0 ≤ hs_.getD i 0 + (ts.getD i default).length + tl_.getD i 0 ∧ hs_.getD i 0 + (ts.getD i default).length + tl_.getD i 0 ≤ 2000000 := by omega
      have G1 := HG.out.past HQ.out
      have G2 := HG2.out.past HQ.out
      have gh : wr.cell? ⟨g, i, none⟩ = some (.int .i64 (hs_.getD i 0)) := G1.cellAt i (iarr_get hs_ i (by rw [HHl.out]; exact hlt))
      have gt : wr.cell? ⟨g2, i, none⟩ = some (.int .i64 (tl_.getD i 0)) := G2.cellAt i (iarr_get tl_ i (by rw [HTl.out]; exact hlt))
      have gl := G1.lt
      have gl2 := G2.lt
      have HA := Lib.hid hA
      subst hA
      clear hct t0w t1w t2w t3w hbx h1 h2 h3 G1 G2
      generalize hs_.getD i 0 = hi_ at *
      generalize tl_.getD i 0 = ti_ at *
      generalize (ts.getD i default).length = li at *
      generalize (ts.getD i default).machine = mi at *
      generalize (ts.getD i default).release = ri at *
      generalize (ts.getD i default).after = fi at *
      go_wp2
      go_quiet (fail)
      go_wp2
      go_roundw
      case rel => exact ⟨max o (hi_ + li + ti_), i + 1, by go_num, by go_num, by omega, HStep.out, by omega, below_drewN' (pa HQ.out) _⟩
      case measure => simp [intOf]; omega
    · have HRes := Lib.hid (show V = o by rw [HRun.out, show ts.length - i = 0 by omega]; rfl)
      go_wp2
      go_ret2
      exact ⟨ret_ii HRes.out.symm rfl, pt HB3.out HQ.out⟩

end Go.Proofs.Ytlgioldmjohhlaa
