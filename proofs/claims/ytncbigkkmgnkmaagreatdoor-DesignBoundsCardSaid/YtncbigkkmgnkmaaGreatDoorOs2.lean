/- Contract: the gap of an offer, or an error (package design). Printed by a program (gen_e4gap.py). -/
import Derived.Test.YtncbigkkmgnkmaaGreatDoorOc3
import Derived.Test.YtncbigkkmgnkmaaGreatDoorOn3
import Derived.Test.YtncbigkkmgnkmaaGreatDoorOc6

section
namespace Go.Proofs.YtncbigkkmgnkmaaGreatDoor
open Go.RowKit

/-- The error of an offer ahead of whether it meets the specification. -/
def offE (rs : List DReq) (idle price : Int) (sl : List (List DPart)) (ch ps : List Int) : Int := firstV [allE rs idle price sl ch, pricesE rs.length ps]
def gapE (rs : List DReq) (idle price : Int) (sl : List (List DPart)) (ch ps : List Int) : Int := if offE rs idle price sl ch ps ≠ 0 then offE rs idle price sl ch ps else if meetsV rs sl ch = 2 then 0 else 24
def gapV (rs : List DReq) (idle price : Int) (sl : List (List DPart)) (ch ps : List Int) : Int := if gapE rs idle price sl ch ps = 0 then costC idle price sl ch - boundV idle price rs ps sl else 0
theorem boundV_bd {idle price : Int} {rs : List DReq} {ps : List Int} {sl : List (List DPart)} (hok : TaskOk rs idle price sl) (hp : ∀ x ∈ ps, 0 ≤ x ∧ x ≤ 10000) (hl : ps.length = rs.length) : -100000000000000000 ≤ boundV idle price rs ps sl ∧ boundV idle price rs ps sl ≤ 100000000000000000 := by
  have h1 := boundF_bd hok.s hok.r hp hok.i hok.p hok.n hl sl.length (Nat.le_refl _)
  rw [List.take_length] at h1
  have hlb : ∀ r ∈ rs, -1000000000 ≤ limitV r ∧ limitV r ≤ 1000000000 := fun r hr => by
    have h := (hok.r r hr).2
    unfold limitV
    split <;> omega
  have h2 := payV_bd (M := 1000000000) (by decide) hlb hp rs.length (Nat.le_refl _) (by omega)
  rw [List.take_length, ← hl, List.take_length] at h2
  have h5 := hok.s.1.2
  have h6 := hok.n
  unfold boundV
  omega
theorem costC_bd {sl : List (List DPart)} {ch : List Int} {idle price : Int} (hs : SlotsOk sl) (hch : ChoiceOk sl ch) (h1 : 0 ≤ idle ∧ idle ≤ 1000) (h2 : 0 ≤ price ∧ price ≤ 1000) : 0 ≤ costC idle price sl ch ∧ costC idle price sl ch ≤ 100000000000 := by
  have h := cost_bd hs hch h1 h2 (k := ch.length) (by rw [hch.1]; exact Nat.le_refl _)
  have h5 := hs.1.2
  have h6 := hch.1
  unfold costC
  omega
theorem allE_zero {rs : List DReq} {idle price : Int} {sl : List (List DPart)} {ch : List Int} (h : allE rs idle price sl ch = 0) : openE rs idle price sl = 0 ∧ choiceE sl ch = 0 := by
  unfold allE at h
  by_cases h1 : openE rs idle price sl = 0
  · rw [if_pos h1] at h; exact ⟨h1, h⟩
  · rw [if_neg h1] at h; exact absurd h h1

set_option maxRecDepth 100000 in
set_option maxHeartbeats 4000000 in
theorem gapOf_any (B : Nat) (rs : List DReq) (RA : Option Addr) (rn rc : Nat) (sl : List (List DPart)) (SA : Option Addr) (n c : Nat) (idle price : Int) (ch : List Int) (CA : Option Addr) (m cc : Nat) (ps : List Int) (PA : Option Addr) (pn pc : Nat) (w : World) (hrr : ReqsIn B w RA rs) (hr : SlotsIn B w SA sl) (hc : IntsIn B w CA ch) (hp : IntsIn B w PA ps) (hB : B ≤ w.heap.size) (hrn : rs.length = rn) (hrm : rn ≤ 1000) (hrs : ∀ r ∈ rs, r.ts.length ≤ 1000) (hU : UnitIn w) (hn : sl.length = n) (hn1 : n ≤ 1000) (hs : SmallSlots sl) (hm : ch.length = m) (hpn : ps.length = pn) (hpm : pn ≤ 1000) (h6 : Six sl) :
    Calls Tryz.prog 20 #[.agg #[.slice RA rn rc], .agg #[.slice SA n c, .int .i64 idle, .int .i64 price], .agg #[.slice CA m cc, .slice PA pn pc]] w fun e w' => e = .returned (.tuple #[.int .i64 (gapV rs idle price sl ch ps), .int .i64 (gapE rs idle price sl ch ps)]) ∧ Below w.heap.size w w' := by
  have HO := Lib.hid (fun W (hW : Below w.heap.size w W) => openAll_any B rs RA rn rc sl SA n c idle price ch CA m cc W (hrr.below (hW.mono hB)) (hr.below (hW.mono hB)) (hc.below (hW.mono hB)) (Nat.le_trans hB hW.size) hn hm hn1 hs hrn hrm hrs (hU.below hW))
  have HPe := Lib.hid (fun W (hW : Below w.heap.size w W) => pricesErr_any B PA pn pc ps SA RA n c rn rc idle price W (hp.below (hW.mono hB)) (Nat.le_trans hB hW.size) hpn hpm)
  have HV := Lib.hid (show firstV [allE rs idle price sl ch, pricesE rn ps] = offE rs idle price sl ch ps by unfold offE; rw [hrn])
  have HG := Lib.hid (show gapE rs idle price sl ch ps = if offE rs idle price sl ch ps ≠ 0 then offE rs idle price sl ch ps else if meetsV rs sl ch = 2 then 0 else 24 from rfl)
  have HGv := Lib.hid (show gapV rs idle price sl ch ps = if gapE rs idle price sl ch ps = 0 then costC idle price sl ch - boundV idle price rs ps sl else 0 from rfl)
  have HB0 := Lib.hid (show Below w.heap.size w (((w.alloc (.cells #[.slice RA rn rc] 24)).alloc (.cells #[.slice SA n c, .int .i64 idle, .int .i64 price] 27)).alloc (.cells #[.slice CA m cc, .slice PA pn pc] 46)) from pa (pa (pa pr)))
  have O0 := Lib.hid (show Blk (((w.alloc (.cells #[.slice RA rn rc] 24)).alloc (.cells #[.slice SA n c, .int .i64 idle, .int .i64 price] 27)).alloc (.cells #[.slice CA m cc, .slice PA pn pc] 46)) (w.heap.size + 1 + 1) 46 #[.slice CA m cc, .slice PA pn pc] from Blk.newAt (by simp))
  by_cases h0 : offE rs idle price sl ch ps = 0
  · have hz := h0
    unfold offE at hz
    obtain ⟨z1, z2⟩ := firstV_zero.1 hz
    obtain ⟨y1, y2⟩ := allE_zero z1
    have hok := openE_ok h6 y1
    have hch := choiceE_ok y2
    have hpo := prices_ok (firstV_zero.1 z2).1
    have hpr : pn = rn := by rw [← hpn, hpo.1, hrn]
    subst hpr
    have hnm : m = n := by rw [← hm, ← hn]; exact hch.1
    subst hnm
    have HMe := Lib.hid (fun W (hW : Below w.heap.size w W) => meets_any B rs RA pn rc sl SA m c idle price ch CA cc W (hrr.below (hW.mono hB)) (hr.below (hW.mono hB)) (hc.below (hW.mono hB)) (Nat.le_trans hB hW.size) hrn hrm hn hok.s hch hok.r)
    have HCo := Lib.hid (fun W (hW : Below w.heap.size w W) => cost_any B sl SA m c idle price ch CA cc W (hr.below (hW.mono hB)) (hc.below (hW.mono hB)) (Nat.le_trans hB hW.size) hn hok.s hch hok.i hok.p)
    have HBn := Lib.hid (fun W (hW : Below w.heap.size w W) => bound_any B rs RA pn rc sl SA m c idle price ps PA pc W (hrr.below (hW.mono hB)) (hr.below (hW.mono hB)) (hp.below (hW.mono hB)) (Nat.le_trans hB hW.size) hrn (by rw [← hrn]; exact hok.n) hn hpn hok.s hok.r hpo.2 hok.i hok.p)
    have hbb := boundV_bd hok hpo.2 hpo.1
    have hcb := costC_bd hok.s hch hok.i hok.p
    rw [h0] at HV HG
    rw [if_neg (by decide)] at HG
    clear hrr hr hc hp hrn hrs hU hn hs hm hpn h0 hz z1 z2 y1 y2 hok hch hpo
    generalize allE rs idle price sl ch = e1 at *
    generalize pricesE pn ps = e2 at *
    generalize gapE rs idle price sl ch ps = GE at *
    generalize gapV rs idle price sl ch ps = GV at *
    generalize boundV idle price rs ps sl = bv at *
    generalize costC idle price sl ch = cv at *
    generalize meetsV rs sl ch = mv at *
    have hw1 : IntKind.i64.wrap (cv - bv) = cv - bv := IntWalk.i64_in _ (by omega)
    have hw2 : wrap64 (cv - bv) = cv - bv := w64 (by omega)
    by_cases hmv : mv = 2
    · subst hmv
      rw [if_pos rfl] at HG
      have HGE := Lib.hid HG.out
      rw [HGE.out, if_pos rfl] at HGv
      clear HG hbb hcb
      go_enter Tryz.func20, Tryz.ntmps20
      go_wp2_with (first
        | (go_at_call 60; refine (HO.out _ HB0.out).mono ?_; rintro e w1 ⟨rfl, hb1⟩; have HB1 := Lib.hid (pt HB0.out hb1); have O1 := Lib.hid (O0.out.past hb1); have T1 := Lib.hid (show Blk (w1.alloc (.cells #[.slice SA m c, .int .i64 idle, .int .i64 price, .slice RA pn rc] 94)) w1.heap.size 94 #[.slice SA m c, .int .i64 idle, .int .i64 price, .slice RA pn rc] from Blk.newAt rfl); have o0 := O1.out.cellAt 0 rfl; have o1 := O1.out.cellAt 1 rfl; have ol := O1.out.lt; clear hb1)
        | (go_at_call 58; refine (HPe.out _ (pa HB1.out)).mono ?_; rintro e w2 ⟨rfl, hb2⟩; have HB2 := Lib.hid (pt (pa HB1.out) hb2); have O2 := Lib.hid ((O1.out.alloc).past hb2); have T2 := Lib.hid (T1.out.past hb2); clear o0 o1 ol; have o0 := O2.out.cellAt 0 rfl; have o1 := O2.out.cellAt 1 rfl; have ol := O2.out.lt; have t0 := T2.out.cellAt 0 rfl; have t1 := T2.out.cellAt 1 rfl; have t2 := T2.out.cellAt 2 rfl; have t3 := T2.out.cellAt 3 rfl; have tl := T2.out.lt; clear hb2)
        | (go_at_call 57; refine (first2 _ _ _ _ _ (by first | (go_simp; done) | (go_simp; rfl)) (by first | (go_simp; done) | (go_simp; rfl)) _ HV.out).mono ?_; rintro e w' ⟨rfl, rfl⟩)
        | (go_at_call 50; refine (HMe.out _ (pa HB2.out)).mono ?_; rintro e w3 ⟨rfl, hb3⟩; have HB3 := Lib.hid (pt (pa HB2.out) hb3); have O3 := Lib.hid ((O2.out.alloc).past hb3); have T3 := Lib.hid ((T2.out.alloc).past hb3); clear o0 o1 ol t0 t1 t2 t3 tl; have o0 := O3.out.cellAt 0 rfl; have o1 := O3.out.cellAt 1 rfl; have ol := O3.out.lt; have t0 := T3.out.cellAt 0 rfl; have t1 := T3.out.cellAt 1 rfl; have t2 := T3.out.cellAt 2 rfl; have t3 := T3.out.cellAt 3 rfl; have tl := T3.out.lt; clear hb3))
      refine region_below 11 follows_mixed (by kernel_rfl) ?_
      intro C hC
      simp only [List.take_succ_cons, List.take_zero, List.drop_succ_cons, List.drop_zero]
      repeat (first
        | ((with_reducible refine quiet_plain rfl (fun K hK => ?_)); (focus (apply quiet_val; (focus (intro w' hw; obtain ⟨hcq, hfq⟩ := bcell ((hC.out _).1 hw); go_simp; (first | done | rfl | (with_reducible exact call_below hC hw (HCo.out _ (pt HB3.out ((hC.out _).1 hw)))) | (with_reducible exact call_below hC hw (HBn.out _ (pt HB3.out ((hC.out _).1 hw))))))); (simp only [Act.put, List.setIfInBounds_toArray, List.set_cons_succ, List.set_cons_zero]); (with_reducible refine hK _ ?_); clear hK K)))
        | ((with_reducible refine quiet_skip ?_ ?_); (focus (first | (simp [Region.wanted, yielded]; done) | (simp [Region.wanted, yielded, undef]; done))); simp only [Act.put, List.setIfInBounds_toArray, List.set_cons_succ, List.set_cons_zero])
        | ((with_reducible refine quiet_go ?_ (fun K hK => ?_)); (focus (first | (simp [Region.wanted, yielded]; done) | (simp [Region.wanted, yielded, undef]; done))); (focus (apply quiet_val; (focus (intro w' hw; obtain ⟨hcq, hfq⟩ := bcell ((hC.out _).1 hw); go_simp; (first | done | rfl | (with_reducible exact call_below hC hw (HCo.out _ (pt HB3.out ((hC.out _).1 hw)))) | (with_reducible exact call_below hC hw (HBn.out _ (pt HB3.out ((hC.out _).1 hw))))))); (simp only [Act.put, List.setIfInBounds_toArray, List.set_cons_succ, List.set_cons_zero]); (with_reducible refine hK _ ?_); clear hK K))))
      refine wpQuiet_nil ?_
      intro w1 hb1
      replace hb1 := (hC.out _).1 hb1
      clear hC C
      obtain ⟨hc1, hf1⟩ := bcell hb1
      have HB4 := Lib.hid (pt HB3.out hb1)
      clear hb1 hc1 hf1 o0 o1 ol t0 t1 t2 t3 tl
      go_wp2
      refine bodyPost_ret (v := .tuple #[.int .i64 (cv - bv), .int .i64 0]) (by simp [results, Tryz.results20, go_sem]) rfl ?_
      exact ⟨by rw [HGv.out, HGE.out], HB4.out⟩
    · have zm : (mv != 2) = true := by simpa using hmv
      rw [if_neg hmv] at HG
      have HGE := Lib.hid HG.out
      rw [HGE.out, if_neg (by decide)] at HGv
      clear HG hbb hcb hmv
      go_enter Tryz.func20, Tryz.ntmps20
      go_wp2_with (first
        | (go_at_call 60; refine (HO.out _ HB0.out).mono ?_; rintro e w1 ⟨rfl, hb1⟩; have HB1 := Lib.hid (pt HB0.out hb1); have O1 := Lib.hid (O0.out.past hb1); have T1 := Lib.hid (show Blk (w1.alloc (.cells #[.slice SA m c, .int .i64 idle, .int .i64 price, .slice RA pn rc] 94)) w1.heap.size 94 #[.slice SA m c, .int .i64 idle, .int .i64 price, .slice RA pn rc] from Blk.newAt rfl); have o0 := O1.out.cellAt 0 rfl; have o1 := O1.out.cellAt 1 rfl; have ol := O1.out.lt; clear hb1)
        | (go_at_call 58; refine (HPe.out _ (pa HB1.out)).mono ?_; rintro e w2 ⟨rfl, hb2⟩; have HB2 := Lib.hid (pt (pa HB1.out) hb2); have O2 := Lib.hid ((O1.out.alloc).past hb2); have T2 := Lib.hid (T1.out.past hb2); clear o0 o1 ol; have o0 := O2.out.cellAt 0 rfl; have o1 := O2.out.cellAt 1 rfl; have ol := O2.out.lt; have t0 := T2.out.cellAt 0 rfl; have t1 := T2.out.cellAt 1 rfl; have t2 := T2.out.cellAt 2 rfl; have t3 := T2.out.cellAt 3 rfl; have tl := T2.out.lt; clear hb2)
        | (go_at_call 57; refine (first2 _ _ _ _ _ (by first | (go_simp; done) | (go_simp; rfl)) (by first | (go_simp; done) | (go_simp; rfl)) _ HV.out).mono ?_; rintro e w' ⟨rfl, rfl⟩)
        | (go_at_call 50; refine (HMe.out _ (pa HB2.out)).mono ?_; rintro e w3 ⟨rfl, hb3⟩; have HB3 := Lib.hid (pt (pa HB2.out) hb3); clear o0 o1 ol t0 t1 t2 t3 tl hb3))
      refine bodyPost_ret (v := .tuple #[.int .i64 0, .int .i64 24]) (by simp [results, Tryz.results20, go_sem]) rfl ?_
      exact ⟨by rw [HGv.out, HGE.out], HB3.out⟩
  · have hE1 : (offE rs idle price sl ch ps == 0) = false := by simpa using h0
    have hE2 : (offE rs idle price sl ch ps != 0) = true := by simpa using h0
    rw [if_pos h0] at HG
    have HGE := Lib.hid HG.out
    rw [HGE.out, if_neg h0] at HGv
    clear hrr hr hc hp hrn hrs hU hn hs hm hpn h0 HG
    generalize allE rs idle price sl ch = e1 at *
    generalize pricesE rn ps = e2 at *
    generalize offE rs idle price sl ch ps = E at *
    generalize gapE rs idle price sl ch ps = GE at *
    generalize gapV rs idle price sl ch ps = GV at *
    go_enter Tryz.func20, Tryz.ntmps20
    go_wp2_with (first
      | (go_at_call 60; refine (HO.out _ HB0.out).mono ?_; rintro e w1 ⟨rfl, hb1⟩; have HB1 := Lib.hid (pt HB0.out hb1); have O1 := Lib.hid (O0.out.past hb1); have o1 := O1.out.cellAt 1 rfl; have ol := O1.out.lt; clear hb1)
      | (go_at_call 58; refine (HPe.out _ (pa HB1.out)).mono ?_; rintro e w2 ⟨rfl, hb2⟩; have HB2 := Lib.hid (pt (pa HB1.out) hb2); clear hb2)
      | (go_at_call 57; refine (first2 _ _ _ _ _ (by first | (go_simp; done) | (go_simp; rfl)) (by first | (go_simp; done) | (go_simp; rfl)) _ HV.out).mono ?_; rintro e w' ⟨rfl, rfl⟩))
    refine bodyPost_ret (v := .tuple #[.int .i64 0, .int .i64 E]) (by simp [results, Tryz.results20, go_sem]) rfl ?_
    exact ⟨by rw [HGv.out, HGE.out], pa HB2.out⟩

end Go.Proofs.YtncbigkkmgnkmaaGreatDoor
end
