/- Contract: the specification's bound of chains. Valid plans. -/
import Derived.Test.YtlgioldmjohhlaaU1Path
namespace Go.Proofs.Ytlgioldmjohhlaa
open Go.RowKit Go.Shelf


set_option maxHeartbeats 2000000 in
set_option maxRecDepth 100000 in
theorem refPath_any (B : Nat) (ts : List Task) (A : Option Addr) (c : Nat) (m : Int) (w : World) (hr : TasksIn B w A ts) (hB : B ≤ w.heap.size) (ha : AcyOk ts) (hl : LenOk ts) (hm : MachOk ts) (hp : PosOk ts) :
    Calls Try.prog 73 #[.agg #[.int .i64 m, .slice A ts.length c]] w fun e w' => e = .returned (.int .i64 (pathV ts)) ∧ Below w.heap.size w w' := by
  have h7 := ha.1.1
  have hHe := fun W (hW : Below w.heap.size w W) => refHeads_any B ts A c m W (hr.below (hW.mono hB)) (Nat.le_trans hB hW.size) ha.1 hl
  have hTa := fun W (hW : Below w.heap.size w W) => refTails_any B ts A c m W (hr.below (hW.mono hB)) (Nat.le_trans hB hW.size) ha.1 hl
  rw [heads_same ha hl] at hHe
  rw [tails_same ha] at hTa
  have HH := Lib.hid hHe
  have HT := Lib.hid hTa
  clear hHe hTa
  have HHb := Lib.hid (headsV_ok ha hl hm hp)
  have HTb := Lib.hid (tailsV_ok ha.1 hl).2
  have HHl := Lib.hid (heads_len ha)
  have HTl := Lib.hid (tailsV_ok ha.1 hl).1
  have HL := Lib.hid hl
  have HV := Lib.hid (show pathV ts = pathR ts (headsV ts) (tailsV ts) ts.length 0 0 from rfl)
  generalize pathV ts = V at *
  generalize headsV ts = hs_ at *
  generalize tailsV ts = tl_ at *
  have HR := Lib.hid hr
  clear ha hl hm hp hr
  go_enter Try.func73, Try.ntmps73
  go_wp2_with (fail)
  have RA := Lib.hid (Blk.newAt (w := w) (t := 24) (cs := #[.int .i64 m, .slice A ts.length c]) rfl)
  have HBo := Lib.hid (show Below w.heap.size w (w.alloc (.cells #[.int .i64 m, .slice A ts.length c] 24)) from pa pr)
  generalize w.alloc (.cells #[.int .i64 m, .slice A ts.length c] 24) = wo at *
  have HS := Lib.hid (show ∀ W, Hid (Below wo.heap.size wo W) → Hid (Below wo.heap.size wo W) ∧ W.cell? ⟨w.heap.size, 0, none⟩ = some (.int .i64 m) ∧ W.cell? ⟨w.heap.size, 1, none⟩ = some (.slice A ts.length c) from fun W hW => ⟨hW, (RA.out.past hW.out).cellAt 0 rfl, (RA.out.past hW.out).cellAt 1 rfl⟩)
  have x0 := RA.out.lt
  go_region_held3 (fun w' => Hid (Below wo.heap.size wo w') ∧ w'.cell? ⟨w.heap.size, 0, none⟩ = some (.int .i64 m) ∧ w'.cell? ⟨w.heap.size, 1, none⟩ = some (.slice A ts.length c)) ((refine HS.out _ (Lib.hid ?_); repeat (first | assumption | (with_reducible exact pr) | (with_reducible refine pd ?_) | (with_reducible refine pa ?_) | (with_reducible refine pt ?_ (by assumption)))))
    (first
      | (go_at_call 65; (with_reducible refine (HH.out _ (pt HBo.out (pd pr))).mono ?_); rintro e w2 ⟨g, rfl, hg, hgl, hb2⟩)
      | (go_at_call 66; (with_reducible refine (HT.out _ (pt (pt HBo.out (pd pr)) hb2)).mono ?_); rintro e w3 ⟨g2, rfl, hg2, hgl2, hb3⟩))
  have hbw3 : Below wo.heap.size wo w3 := pt (pt (pd pr) hb2) hb3
  have HG := Lib.hid (hg.past hb3)
  have HG2 := Lib.hid hg2
  have RA3 := Lib.hid (RA.out.past hbw3)
  have HB3 := Lib.hid (pt HBo.out hbw3)
  have a1 := RA3.out.cellAt 1 rfl
  have x1 := RA3.out.lt
  clear hbw3 hg hg2 hgl hgl2 hb2 hb3 HS x0 RA HBo
  clear a1 x1
  go_wp2
  go_loopw [5, 6] (fun ov iv wr => ∃ (o : Int) (i : Nat), ov = .int .i64 o ∧ iv = .int .i64 (i : Int) ∧ i ≤ ts.length ∧ V = pathR ts hs_ tl_ (ts.length - i) i o ∧ (0 ≤ o ∧ o ≤ 2000000) ∧ Below w3.heap.size w3 wr) (fun _ iv _ => ts.length - (intOf iv).toNat)
  case atStart => exact ⟨0, 0, rfl, rfl, Nat.zero_le _, HV.out, by omega, pr⟩
  case round =>
    obtain ⟨o, i, rfl, rfl, hi, hrun, hob, hq⟩ := hrel
    have HRun := Lib.hid hrun
    have HQ := Lib.hid hq
    have a1 := (RA3.out.past hq).cellAt 1 rfl
    have x1 := (RA3.out.past hq).lt
    clear hrun hq
    by_cases hlt : i < ts.length
    · obtain ⟨b, off, hA, hbB, hct⟩ := HR.out.at_ hlt
      obtain ⟨t0w, t1w, t2w, A3, c3, t3w, _, _⟩ := hct i hlt
      have hbx := pt HB3.out HQ.out
      have t0 := ((bcell (hbx.mono hB)).1 _ _ hbB).trans t0w
      have t1 := ((bcell (hbx.mono hB)).1 _ _ hbB).trans t1w
      have t2 := ((bcell (hbx.mono hB)).1 _ _ hbB).trans t2w
      have t3 := ((bcell (hbx.mono hB)).1 _ _ hbB).trans t3w
      have hbw : b < wr.heap.size := by have := hbx.size; omega
      have i0 : (0 : Int) ≤ (i : Int) := by omega
      have i1 : (i : Int) < (ts.length : Int) := by omega
      have h1 := HHb.out i
      have h2 := HTb.out i
      have h3 := HL.out i hlt
      have hw1 : IntKind.i64.wrap (hs_.getD i 0 + (ts.getD i default).length) = hs_.getD i 0 + (ts.getD i default).length := IntWalk.i64_in _ (by omega)
      have hw2 : IntKind.i64.wrap (hs_.getD i 0 + (ts.getD i default).length + tl_.getD i 0) = hs_.getD i 0 + (ts.getD i default).length + tl_.getD i 0 := IntWalk.i64_in _ (by omega)
      have HStep := Lib.hid (show V = pathR ts hs_ tl_ (ts.length - (i + 1)) (i + 1) (max o (hs_.getD i 0 + (ts.getD i default).length + tl_.getD i 0)) by
        rw [HRun.out, show ts.length - i = ts.length - (i + 1) + 1 by omega]
        rfl)
      have hbd : 0 ≤ hs_.getD i 0 + (ts.getD i default).length + tl_.getD i 0 ∧ hs_.getD i 0 + (ts.getD i default).length + tl_.getD i 0 ≤ 2000000 := by omega
      have G1 := HG.out.past HQ.out
      have G2 := HG2.out.past HQ.out
      have gh : wr.cell? ⟨g, i, none⟩ = some (.int .i64 (hs_.getD i 0)) := G1.cellAt i (iarr_get hs_ i (by rw [HHl.out]; exact hlt))
      have gt : wr.cell? ⟨g2, i, none⟩ = some (.int .i64 (tl_.getD i 0)) := G2.cellAt i (iarr_get tl_ i (by rw [HTl.out]; exact hlt))
      have gl := G1.lt
      have gl2 := G2.lt
      have HA := Lib.hid hA
      subst hA
      clear hct t0w t1w t2w t3w hbx h1 h2 h3 G1 G2
      generalize hs_.getD i 0 = hi_ at *
      generalize tl_.getD i 0 = ti_ at *
      generalize (ts.getD i default).length = li at *
      generalize (ts.getD i default).machine = mi at *
      generalize (ts.getD i default).release = ri at *
      generalize (ts.getD i default).after = fi at *
      go_wp2
      go_quiet (fail)
      go_wp2
      go_roundw
      case rel => exact ⟨max o (hi_ + li + ti_), i + 1, by go_num, by go_num, by omega, HStep.out, by omega, below_drewN' HQ.out _⟩
      case measure => simp [intOf]; omega
    · have HRes := Lib.hid (show V = o by rw [HRun.out, show ts.length - i = 0 by omega]; rfl)
      go_wp2
      go_ret
      exact ⟨ret_int HRes.out.symm, pt HB3.out HQ.out⟩

end Go.Proofs.Ytlgioldmjohhlaa
