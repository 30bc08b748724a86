/- Contract: the examples of chapter 2 hold (buchholzlaw02.awake). -/
import Derived.Test.YtnfbdkdjoekifaaGreatDoorOe4
import Derived.Test.YtnfbdkdjoekifaaGreatDoorOg2

section
namespace Go.Proofs.YtnfbdkdjoekifaaGreatDoor
open Go.RowKit
attribute [local go_sem] ByteArray.toList_mk

theorem itoa_natD (k : Nat) : Lib.itoa (k : Int) = Lib.decDigits k := by
  unfold Lib.itoa
  rw [if_neg (by omega)]
  rfl
theorem it_small (k : Nat) (hk : k < 100) (hl : (Lib.decDigits k).length ≤ 21) (w : World) : ItIn w (k : Int) := by
  refine ⟨by rw [itoa_natD]; exact hl, fun W _ => ?_⟩
  rw [itoa_natD]
  exact (Tryz.strconv_Itoa_small k hk W).mono fun e w' ⟨h1, h2⟩ => ⟨h1, h2 ▸ pr⟩
theorem its_x (w : World) : ∀ r ∈ specX, ItIn w r.lim ∧ ∀ t ∈ r.ts, ItIn w t.f := by
  have i1 := it_small 1 (by decide) (Nat.le_of_ble_eq_true (by kernel_rfl)) w
  have i2 := it_small 18 (by decide) (Nat.le_of_ble_eq_true (by kernel_rfl)) w
  have i3 := it_small 40 (by decide) (Nat.le_of_ble_eq_true (by kernel_rfl)) w
  intro r hr
  simp only [specX, List.mem_cons, List.not_mem_nil, or_false] at hr
  rcases hr with rfl | rfl
  · refine ⟨i2, fun t ht => ?_⟩
    simp only [List.mem_cons, List.not_mem_nil, or_false] at ht
    subst ht
    exact i1
  · refine ⟨i3, fun t ht => ?_⟩
    simp only [List.mem_cons, List.not_mem_nil, or_false] at ht
    rcases ht with rfl | rfl <;> exact i1
theorem fmt_x : fmtV specX = [109, 97, 115, 115, 32, 60, 61, 32, 49, 56, 32, 107, 103, 32, 59, 32, 105, 100, 108, 101, 32, 43, 32, 108, 111, 97, 100, 32, 60, 61, 32, 52, 48, 32, 87] := by kernel_rfl
theorem formatSpec_x (B : Nat) (RA : Option Addr) (rc : Nat) (w : World) (hrr : ReqsIn B w RA specX) (hB : B ≤ w.heap.size) (hQ : TabS 1 qWords w) (hU : TabS 0 uWords w) :
    Calls Tryz.prog 29 #[.agg #[.slice RA 2 rc]] w fun e w' => e = .returned (.string ⟨#[109, 97, 115, 115, 32, 60, 61, 32, 49, 56, 32, 107, 103, 32, 59, 32, 105, 100, 108, 101, 32, 43, 32, 108, 111, 97, 100, 32, 60, 61, 32, 52, 48, 32, 87]⟩) ∧ Below w.heap.size w w' := by
  have h := FormatSpec_any B specX RA 2 rc w hrr hB rfl (by decide) (by decide) hQ hU (its_x w)
  rw [fmt_x] at h
  exact h
theorem steps_x : stepsB 10 [9, 8, 6] 2 = ([9, 6], 60) ∧ stepsE 10 [9, 8, 6] 2 = 0 := ⟨by kernel_rfl, by kernel_rfl⟩
theorem bestSteps_x (B : Nat) (A : Option Addr) (c : Nat) (w : World) (hr : IntsIn B w A [9, 8, 6]) (hB : B ≤ w.heap.size) :
    Calls Tryz.prog 28 #[.int .i64 10, .slice A 3 c, .int .i64 2] w (StepsRet w [9, 6] 60 0) := by
  have h := bestSteps_any B 10 [9, 8, 6] A 3 c 2 w hr hB rfl (by decide)
  rw [steps_x.1, steps_x.2] at h
  exact h
theorem ints96_x {B : Nat} (A A2 : Option Addr) (c c2 : Nat) (w : World) (hr : IntsIn B w A [9, 6]) (hr2 : IntsIn B w A2 [9, 6]) :
    Calls Tryz.prog 30 #[.slice A 2 c, .slice A2 2 c2] w fun e w' => e = .returned (.bool true) ∧ Below w.heap.size w w' :=
  ints_any B A A2 c c2 [9, 6] [9, 6] w hr hr2 (by decide)
theorem lit3_ints (w : World) (t : TypeId) (a b c : Int) : IntsIn (w.heap.size + 1) (w.alloc (.cells #[.int .i64 a, .int .i64 b, .int .i64 c] t)) (some ⟨w.heap.size, 0, none⟩) [a, b, c] := by
  have X := Blk.new w t #[.int .i64 a, .int .i64 b, .int .i64 c]
  refine .inr ⟨w.heap.size, 0, rfl, by omega, fun j hj => ?_⟩
  match j, hj with
  | 0, _ => exact X.cellAt 0 rfl
  | 1, _ => exact X.cellAt 1 rfl
  | 2, _ => exact X.cellAt 2 rfl
  | j + 3, hj => exact absurd hj (by simp)

set_option maxRecDepth 100000 in
set_option maxHeartbeats 4000000 in
theorem awake_any (w : World) (hU : UnitIn w) (hQ : TabS 1 qWords w) (hW : TabS 0 uWords w) : Calls Tryz.prog 6 #[] w fun e w' => e = .returned (.bool true) ∧ Below w.heap.size w w' := by
  have HU := Lib.hid hU
  have HQW := Lib.hid hQ
  have HUW := Lib.hid hW
  have M1 := Lib.hid trivial
  have M2 := Lib.hid trivial
  have M3 := Lib.hid trivial
  have M4 := Lib.hid trivial
  clear hU hQ hW
  go_enter Tryz.func6, Tryz.ntmps6
  go_wp2_with (first
    | (go_at_call 26; have hm := M1; clear M1 hm; refine (specX_any _).mono ?_; rintro e w1 ⟨RA, rc, rfl, hr1, hb1⟩; have HRq := Lib.hid hr1; have HB1 := Lib.hid hb1; clear hr1 hb1)
    | (go_at_call 27; have hm := M2; clear M2 hm; refine (stockX_any _).mono ?_; rintro e w2 ⟨SA, c, rfl, hs2, hb2⟩; have HSl := Lib.hid hs2; have HRq2 := Lib.hid (HRq.out.past (Nat.le_refl _) hb2); have HB2 := Lib.hid (pt HB1.out hb2); clear hs2 hb2)
    | (go_at_call 10; refine (cheapest_x w2.heap.size RA rc SA c _ HRq2.out HSl.out (Nat.le_refl _) (HU.out.below HB2.out)).mono ?_; rintro e w3 ⟨A, c9, rfl, hI, hcap, hb3⟩; have HIn := Lib.hid hI; have HB3 := Lib.hid (pt HB2.out hb3); clear hI hb3)
    | (go_at_call 26; have hm := M3; clear M3 hm; refine (specX_any _).mono ?_; rintro e w4 ⟨RA4, rc4, rfl, hr4, hb4⟩; have HRq4 := Lib.hid hr4; have HB4 := Lib.hid hb4; clear hr4 hb4)
    | (go_at_call 27; refine (stockX_any _).mono ?_; rintro e w5 ⟨SA5, c5, rfl, hs5, hb5⟩; have HSl5 := Lib.hid hs5; have HRq5 := Lib.hid (HRq4.out.past (Nat.le_refl _) hb5); have HB5 := Lib.hid (pt HB4.out hb5); clear hs5 hb5)
    | (go_at_call 23; refine (boundOf_x (w5.heap.size + 1) RA4 rc4 SA5 c5 _ 2 _ (HRq5.out.alloc_ _) (HSl5.out.alloc_ _) (lit2_ints _ _ _ _) (by simp) (HU.out.below (pt HB3.out (pa HB5.out)))).mono ?_; rintro e w6 ⟨rfl, hb6⟩; have HB6 := Lib.hid (pt HB3.out (pt (pa HB5.out) hb6)); have HIn6 := Lib.hid (ints_more (HIn.out.below (pt (pa HB5.out) hb6)) (pt (pa HB5.out) hb6).size); clear hb6)
    | (go_at_call 28; refine (bestSteps_x _ _ 3 _ (lit3_ints _ _ _ _ _) (by simp)).mono ?_; rintro e w7 ⟨A7, c7, rfl, hI7, hc7, hb7⟩; have HI7 := Lib.hid hI7; have HB7 := Lib.hid (pt (pa HB6.out) hb7); have HIn7 := Lib.hid (ints_more (HIn6.out.below (pt (pa pr) hb7)) (pt (pa pr) hb7).size); clear hI7 hb7)
    | (go_at_call 26; refine (specX_any _).mono ?_; rintro e w8 ⟨RA8, rc8, rfl, hr8, hb8⟩; have HRq8 := Lib.hid hr8; have HB8 := Lib.hid (pt HB7.out hb8); have HI8 := Lib.hid (ints_more (HI7.out.below hb8) hb8.size); have HIn8 := Lib.hid (ints_more (HIn7.out.below hb8) hb8.size); clear hr8 hb8)
    | (go_at_call 29; refine (formatSpec_x _ _ _ _ HRq8.out (Nat.le_refl _) (HQW.out.below HB8.out) (HUW.out.below HB8.out)).mono ?_; rintro e w9 ⟨rfl, hb9⟩; have HB9 := Lib.hid (pt HB8.out hb9); have HI9 := Lib.hid (ints_more (HI8.out.below hb9) hb9.size); have HIn9 := Lib.hid (ints_more (HIn8.out.below hb9) hb9.size); clear hb9)
    | (go_at_call 30; have hm := M4; clear M4 hm; refine (ints_x A _ c9 2 _ (ints_more (HIn9.out.below (pa pr)) (Nat.le_succ _)) (lit2_ints _ _ _ _)).mono ?_; rintro e wa ⟨rfl, hba⟩; have HBa := Lib.hid (pt (pa HB9.out) hba); have HIa := Lib.hid (ints_more (HI9.out.below (pt (pa pr) hba)) (pt (pa pr) hba).size); clear hba)
    | (go_at_call 30; refine (ints96_x A7 _ c7 2 _ (ints_more (HIa.out.below (pa pr)) (Nat.le_succ _)) (lit2_ints _ _ _ _)).mono ?_; rintro e wb ⟨rfl, hbb⟩; have HBb := Lib.hid (pt (pa HBa.out) hbb); clear hbb))
  go_ret
  exact ⟨rfl, HBb.out⟩

end Go.Proofs.YtnfbdkdjoekifaaGreatDoor
end
