/- Contract: the examples of chapter 2 hold (designShown). Printed by a program (gen_d2shown.py). -/
import Derived.Test.YtabbehmodmmgoaaDoorOe2
import Derived.Test.YtabbehmodmmgoaaDoorOe3

section
namespace Go.Proofs.YtabbehmodmmgoaaDoor
open Go.RowKit

theorem cheapest_x (B : Nat) (RA : Option Addr) (rc : Nat) (SA : Option Addr) (c : Nat) (w : World) (hrr : ReqsIn B w RA specX) (hr : SlotsIn B w SA stockX) (hB : B ≤ w.heap.size) (hU : UnitIn w) :
    Calls Tryd.prog 30 #[.agg #[.slice RA 2 rc], .agg #[.slice SA 2 c, .int .i64 2, .int .i64 1]] w (StepsRet w [0, 1] 175 0) := by
  have h := cheapest_any B specX RA 2 rc stockX SA 2 c 2 1 w hrr hr hB rfl (by decide) terms_x hU rfl (by decide) small_x (fun _ => task_x.s) (fun _ => task_x.r) (fun _ => task_x.i) (fun _ => task_x.p) open_x
  rw [chea_x] at h
  exact h
theorem boundOf_x (B : Nat) (RA : Option Addr) (rc : Nat) (SA : Option Addr) (c : Nat) (PA : Option Addr) (pc : Nat) (w : World) (hrr : ReqsIn B w RA specX) (hr : SlotsIn B w SA stockX) (hp : IntsIn B w PA [8, 0]) (hB : B ≤ w.heap.size) (hU : UnitIn w) :
    Calls Tryd.prog 33 #[.agg #[.slice RA 2 rc], .agg #[.slice SA 2 c, .int .i64 2, .int .i64 1], .slice PA 2 pc] w fun e w' => e = .returned (.tuple #[.int .i64 159, .int .i64 0]) ∧ Below w.heap.size w w' := by
  have h := boundOf_any B specX RA 2 rc stockX SA 2 c 2 1 [8, 0] PA 2 pc w hrr hr hp hB rfl (by decide) terms_x hU rfl (by decide) small_x rfl (by decide) (fun _ => task_x)
  rw [if_pos boundE_x, boundE_x, bound_x] at h
  exact h

theorem ints_more {B B' : Nat} {w : World} {A : Option Addr} {xs : List Int} (h : IntsIn B w A xs) (hB : B ≤ B') : IntsIn B' w A xs := by
  rcases h with h | ⟨b, off, hA, hb, hc⟩
  · exact .inl h
  · exact .inr ⟨b, off, hA, by omega, hc⟩
theorem ints_x {B : Nat} (A A2 : Option Addr) (c c2 : Nat) (w : World) (hr : IntsIn B w A [0, 1]) (hr2 : IntsIn B w A2 [0, 1]) :
    Calls Tryd.prog 22 #[.slice A 2 c, .slice A2 2 c2] w fun e w' => e = .returned (.bool true) ∧ Below w.heap.size w w' :=
  ints_any B A A2 c c2 [0, 1] [0, 1] w hr hr2 (by decide)
theorem lit2_ints (w : World) (t : TypeId) (a b : Int) : IntsIn (w.heap.size + 1) (w.alloc (.cells #[.int .i64 a, .int .i64 b] t)) (some ⟨w.heap.size, 0, none⟩) [a, b] := by
  have X := Blk.new w t #[.int .i64 a, .int .i64 b]
  refine .inr ⟨w.heap.size, 0, rfl, by omega, fun j hj => ?_⟩
  match j, hj with
  | 0, _ => exact X.cellAt 0 rfl
  | 1, _ => exact X.cellAt 1 rfl
  | j + 2, hj => exact absurd hj (by simp)
theorem ReqsIn.alloc_ {w : World} {A : Option Addr} {rs : List DReq} (h : ReqsIn w.heap.size w A rs) (o : Obj) : ReqsIn (w.heap.size + 1) (w.alloc o) A rs := by
  have := h.past (Nat.le_refl _) (pa (o := o) pr)
  simpa using this
theorem SlotsIn.alloc_ {w : World} {A : Option Addr} {sl : List (List DPart)} (h : SlotsIn w.heap.size w A sl) (o : Obj) : SlotsIn (w.heap.size + 1) (w.alloc o) A sl := by
  have := h.past (Nat.le_refl _) (pa (o := o) pr)
  simpa using this

set_option maxRecDepth 100000 in
set_option maxHeartbeats 4000000 in
theorem designShown_any (w : World) (hU : UnitIn w) : Calls Tryd.prog 7 #[] w fun e w' => e = .returned (.bool true) ∧ Below w.heap.size w w' := by
  have HU := Lib.hid hU
  have M1 := Lib.hid trivial
  have M2 := Lib.hid trivial
  clear hU
  go_enter Tryd.func7, Tryd.ntmps7
  go_wp2_with (first
    | (go_at_call 31; have hm := M1; clear M1 hm; refine (specX_any _).mono ?_; rintro e w1 ⟨RA, rc, rfl, hr1, hb1⟩; have HRq := Lib.hid hr1; have HB1 := Lib.hid hb1; clear hr1 hb1)
    | (go_at_call 32; have hm := M2; clear M2 hm; refine (stockX_any _).mono ?_; rintro e w2 ⟨SA, c, rfl, hs2, hb2⟩; have HSl := Lib.hid hs2; have HRq2 := Lib.hid (HRq.out.past (Nat.le_refl _) hb2); have HB2 := Lib.hid (pt HB1.out hb2); clear hs2 hb2)
    | (go_at_call 30; refine (cheapest_x w2.heap.size RA rc SA c _ HRq2.out HSl.out (Nat.le_refl _) (HU.out.below HB2.out)).mono ?_; rintro e w3 ⟨A, c9, rfl, hI, hcap, hb3⟩; have HIn := Lib.hid hI; have HB3 := Lib.hid (pt HB2.out hb3); clear hI hb3)
    | (go_at_call 31; refine (specX_any _).mono ?_; rintro e w4 ⟨RA4, rc4, rfl, hr4, hb4⟩; have HRq4 := Lib.hid hr4; have HB4 := Lib.hid hb4; clear hr4 hb4)
    | (go_at_call 32; refine (stockX_any _).mono ?_; rintro e w5 ⟨SA5, c5, rfl, hs5, hb5⟩; have HSl5 := Lib.hid hs5; have HRq5 := Lib.hid (HRq4.out.past (Nat.le_refl _) hb5); have HB5 := Lib.hid (pt HB4.out hb5); clear hs5 hb5)
    | (go_at_call 33; refine (boundOf_x (w5.heap.size + 1) RA4 rc4 SA5 c5 _ 2 _ (HRq5.out.alloc_ _) (HSl5.out.alloc_ _) (lit2_ints _ _ _ _) (by simp) (HU.out.below (pt HB3.out (pa HB5.out)))).mono ?_; rintro e w6 ⟨rfl, hb6⟩; have HB6 := Lib.hid (pt (pa HB5.out) hb6); clear hb6)
    | (go_at_call 22; refine (ints_x A _ c9 2 _ (ints_more (HIn.out.below (pa HB6.out)) (by have := HB6.out.size; omega)) (lit2_ints _ _ _ _)).mono ?_; rintro e w7 ⟨rfl, hb7⟩; have HB7 := Lib.hid (pt (pa HB6.out) hb7); clear hb7))
  go_ret
  exact ⟨rfl, pt HB3.out HB7.out⟩

end Go.Proofs.YtabbehmodmmgoaaDoor
end
