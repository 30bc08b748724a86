/- Contract: the bound of prices, or an error (package design). Printed by a program (gen_d2bof.py). -/
import Derived.Test.YtnfbdkdjoekifaaGreatDoorOc2

section
namespace Go.Proofs.YtnfbdkdjoekifaaGreatDoor
open Go.RowKit

/-- What holds of valid specifications, stocks and prices. -/
structure TaskOk (rs : List DReq) (idle price : Int) (sl : List (List DPart)) : Prop where
  s : SlotsOk sl
  r : ∀ r ∈ rs, ReqOk r
  n : rs.length ≤ 6
  i : 0 ≤ idle ∧ idle ≤ 1000
  p : 0 ≤ price ∧ price ≤ 1000
def boundE (rs : List DReq) (idle price : Int) (sl : List (List DPart)) (ps : List Int) : Int := firstV [openE rs idle price sl, pricesE rs.length ps]
theorem prices_ok {rn : Nat} {ps : List Int} (h : pricesE rn ps = 0) : ps.length = rn ∧ ∀ x ∈ ps, 0 ≤ x ∧ x ≤ 10000 := by
  obtain ⟨h1, h2⟩ := firstV_zero.1 h
  have g1 := (unless_ne (by decide)).1 h1
  have g2 := (unless_ne (by decide)).1 (firstV_zero.1 h2).1
  refine ⟨by simpa using g1, fun x hx => ?_⟩
  unfold anyG at g2
  have := (List.any_eq_false.1 (by simpa using g2)) x hx
  simpa [oddP, withinB] using this

set_option maxRecDepth 100000 in
set_option maxHeartbeats 4000000 in
theorem boundOf_any (B : Nat) (rs : List DReq) (RA : Option Addr) (rn rc : Nat) (sl : List (List DPart)) (SA : Option Addr) (n c : Nat) (idle price : Int) (ps : List Int) (PA : Option Addr) (pn pc : Nat) (w : World) (hrr : ReqsIn B w RA rs) (hr : SlotsIn B w SA sl) (hp : IntsIn B w PA ps) (hB : B ≤ w.heap.size) (hrn : rs.length = rn) (hrm : rn ≤ 1000) (hrs : ∀ r ∈ rs, r.ts.length ≤ 1000) (hU : UnitIn w) (hn : sl.length = n) (hm : n ≤ 1000) (hs : SmallSlots sl) (hpn : ps.length = pn) (hpm : pn ≤ 1000) (hok : openE rs idle price sl = 0 → TaskOk rs idle price sl) :
    Calls Tryz.prog 23 #[.agg #[.slice RA rn rc], .agg #[.slice SA n c, .int .i64 idle, .int .i64 price], .slice PA pn pc] w fun e w' => e = .returned (.tuple #[.int .i64 (if boundE rs idle price sl ps = 0 then boundV idle price rs ps sl else 0), .int .i64 (boundE rs idle price sl ps)]) ∧ Below w.heap.size w w' := by
  have HO := Lib.hid (fun W (hW : Below w.heap.size w W) => open_any B rs RA rn rc sl SA n c idle price W (hrr.below (hW.mono hB)) (hr.below (hW.mono hB)) (Nat.le_trans hB hW.size) hrn hrm hrs (hU.below hW) hn hm hs)
  have HPe := Lib.hid (fun W (hW : Below w.heap.size w W) => pricesErr_any B PA pn pc ps SA RA n c rn rc idle price W (hp.below (hW.mono hB)) (Nat.le_trans hB hW.size) hpn hpm)
  have HV := Lib.hid (show firstV [openE rs idle price sl, pricesE rn ps] = boundE rs idle price sl ps by unfold boundE; rw [hrn])
  by_cases h0 : boundE rs idle price sl ps = 0
  · have hz := h0
    unfold boundE at hz
    obtain ⟨z1, z2⟩ := firstV_zero.1 hz
    have hok := hok z1
    have hpo := prices_ok (firstV_zero.1 z2).1
    have hpr : pn = rn := by rw [← hpn, hpo.1, hrn]
    subst hpr
    have HBn := Lib.hid (fun W (hW : Below w.heap.size w W) => bound_any B rs RA pn rc sl SA n c idle price ps PA pc W (hrr.below (hW.mono hB)) (hr.below (hW.mono hB)) (hp.below (hW.mono hB)) (Nat.le_trans hB hW.size) hrn (by rw [← hrn]; exact hok.n) hn hpn hok.s hok.r hpo.2 hok.i hok.p)
    rw [if_pos h0]
    rw [h0] at HV ⊢
    clear hrr hr hp hrn hrs hU hn hs hpn h0 hz z1 z2 hok hpo
    generalize openE rs idle price sl = e1 at *
    generalize pricesE pn ps = e2 at *
    generalize boundV idle price rs ps sl = R at *
    go_enter Tryz.func23, Tryz.ntmps23
    go_wp2_with (first
      | (go_at_call 33; refine (HO.out _ (pa (pa pr))).mono ?_; rintro e w1 ⟨rfl, hb1⟩; have HB1 := Lib.hid (pt (pa (pa pr)) hb1); clear hb1)
      | (go_at_call 45; refine (HPe.out _ (pa HB1.out)).mono ?_; rintro e w2 ⟨rfl, hb2⟩; have HB2 := Lib.hid (pt (pa HB1.out) hb2); have T8 := Lib.hid ((show Blk (w1.alloc (.cells #[.slice SA n c, .int .i64 idle, .int .i64 price, .slice RA pn rc] 82)) w1.heap.size 82 #[.slice SA n c, .int .i64 idle, .int .i64 price, .slice RA pn rc] from Blk.newAt rfl).past hb2); clear hb2; have t0 := T8.out.cellAt 0 rfl; have t1 := T8.out.cellAt 1 rfl; have t2 := T8.out.cellAt 2 rfl; have t3 := T8.out.cellAt 3 rfl; have tl := T8.out.lt)
      | (go_at_call 44; refine (first2 _ _ _ _ _ (by first | (go_simp; done) | (go_simp; rfl)) (by first | (go_simp; done) | (go_simp; rfl)) _ HV.out).mono ?_; rintro e w' ⟨rfl, rfl⟩)
      | (go_at_call 46; refine (HBn.out _ (pa HB2.out)).mono ?_; rintro e w3 ⟨rfl, hb3⟩; have HB3 := Lib.hid (pt (pa HB2.out) hb3)))
    go_ret2
    exact ⟨rfl, HB3.out⟩
  · have hE1 : (boundE rs idle price sl ps == 0) = false := by simpa using h0
    have hE2 : (boundE rs idle price sl ps != 0) = true := by simpa using h0
    rw [if_neg h0]
    clear hrr hr hp hrn hrs hU hn hs hpn h0 hok
    generalize openE rs idle price sl = e1 at *
    generalize pricesE rn ps = e2 at *
    generalize boundE rs idle price sl ps = E at *
    go_enter Tryz.func23, Tryz.ntmps23
    go_wp2_with (first
      | (go_at_call 33; refine (HO.out _ (pa (pa pr))).mono ?_; rintro e w1 ⟨rfl, hb1⟩; have HB1 := Lib.hid (pt (pa (pa pr)) hb1); clear hb1)
      | (go_at_call 45; refine (HPe.out _ (pa HB1.out)).mono ?_; rintro e w2 ⟨rfl, hb2⟩; have HB2 := Lib.hid (pt (pa HB1.out) hb2); clear hb2)
      | (go_at_call 44; refine (first2 _ _ _ _ _ (by first | (go_simp; done) | (go_simp; rfl)) (by first | (go_simp; done) | (go_simp; rfl)) _ HV.out).mono ?_; rintro e w' ⟨rfl, rfl⟩))
    go_ret2
    exact ⟨rfl, pa HB2.out⟩

end Go.Proofs.YtnfbdkdjoekifaaGreatDoor
end
