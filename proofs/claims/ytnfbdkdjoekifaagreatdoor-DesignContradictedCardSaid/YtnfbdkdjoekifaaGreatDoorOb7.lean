/- Contracts: the error of prices, the minimum of numbers (package design, slices). Printed by a program (gen_d2bnd.py). -/
import Derived.Test.YtnfbdkdjoekifaaGreatDoorOb6

section
namespace Go.Proofs.YtnfbdkdjoekifaaGreatDoor
open Go.RowKit
attribute [local go_sem high] minI maxI

def oddP (x : Int) : Bool := !withinB x 0 10000
def pricesE (rn : Nat) (ps : List Int) : Int := firstV [unlessV (decide (ps.length = rn)) 10, unlessV (!anyG oddP ps) 2]
theorem priceCb_any (x : Int) (w : World) : Calls Tryz.prog 71 #[.int .i64 x] w fun e w' => e = .returned (.bool (oddP x)) ∧ w = w' := by
  go_enter Tryz.func71, Tryz.ntmps71
  go_wp2_with (go_at_call 49; refine (within_any _ _ _ _).mono ?_; rintro e w' ⟨rfl, rfl⟩)
  go_ret
  exact ⟨rfl, rfl⟩
set_option maxHeartbeats 2000000 in
theorem indexPrices_any (B : Nat) (A : Option Addr) (n c : Nat) (ts : List Int) (w : World) (hr : IntsIn B w A ts) (_hB : B ≤ w.heap.size) (hn : ts.length = n) (hm : n ≤ 1000) :
    Calls Tryz.prog 87 #[.slice A n c, .func (.func 71) #[] #[]] w fun e w' => e = .returned (.int .i64 (findG oddP ts 0)) ∧ w = w' := by
  subst hn
  have HR := Lib.hid hr
  clear hr
  go_enter Tryz.func87, Tryz.ntmps87
  go_wp2
  go_loop [8] (fun i => ∃ k : Nat, k ≤ ts.length ∧ i = .int .i64 k ∧ findG oddP ts 0 = findG oddP ts k) (fun i => ts.length - (intOf i).toNat)
  case atStart => exact ⟨0, Nat.zero_le _, rfl, rfl⟩
  case round =>
    obtain ⟨k, hk, rfl, hf⟩ := hrel
    by_cases hlt : k < ts.length
    · obtain ⟨b, off, rfl, hb, hc⟩ := HR.out.at_ hlt
      have c0 := hc k hlt
      have HF := Lib.hid (hf.trans (findG_step oddP ts k 0 hlt))
      clear hc hf
      generalize ts.getD k 0 = t at *
      have HCt := Lib.hid (priceCb_any t w)
      cases hx : oddP t
      · have HX := Lib.hid hx
        rw [hx] at HCt
        clear hx
        go_wp2_with (go_at_call 71; refine HCt.out.mono ?_; rintro e w' ⟨rfl, hw'⟩; subst hw')
        go_round
        case rel => exact ⟨k + 1, by omega, by go_num, by rw [HF.out, HX.out]; simp⟩
        case measure => simp [intOf]; omega
      · have HX := Lib.hid hx
        rw [hx] at HCt
        clear hx
        go_wp2_with (go_at_call 71; refine HCt.out.mono ?_; rintro e w' ⟨rfl, hw'⟩; subst hw')
        go_ret
        exact ⟨ret_int (by rw [HF.out, HX.out]; simp), rfl⟩
    · have HF := Lib.hid (show findG oddP ts 0 = -1 by rw [hf]; exact findG_end _ _ _ (by omega))
      clear hf
      go_wp2
      go_ret
      exact ⟨ret_int HF.out.symm, rfl⟩
theorem containsPrices_any (B : Nat) (A : Option Addr) (n c : Nat) (ts : List Int) (w : World) (hr : IntsIn B w A ts) (hB : B ≤ w.heap.size) (hn : ts.length = n) (hm : n ≤ 1000) :
    Calls Tryz.prog 70 #[.slice A n c, .func (.func 71) #[] #[]] w fun e w' => e = .returned (.bool (anyG oddP ts)) ∧ w = w' := by
  have H := Lib.hid (findG_any oddP ts)
  have HI := Lib.hid (indexPrices_any B A n c ts w hr hB hn hm)
  clear hr hn
  go_enter Tryz.func70, Tryz.ntmps70
  go_wp2_with (go_at_call 87; refine HI.out.mono ?_; rintro e w' ⟨rfl, hw'⟩; subst hw')
  go_ret
  exact ⟨ret_bool H.out, rfl⟩
set_option maxHeartbeats 2000000 in
theorem pricesErr_any (B : Nat) (A : Option Addr) (pn pc : Nat) (ps : List Int) (SA RA : Option Addr) (n c rn rc : Nat) (idle price : Int) (w : World) (hr : IntsIn B w A ps) (hB : B ≤ w.heap.size) (hn : ps.length = pn) (hm : pn ≤ 1000) :
    Calls Tryz.prog 45 #[.agg #[.slice SA n c, .int .i64 idle, .int .i64 price, .slice RA rn rc], .slice A pn pc] w fun e w' => e = .returned (.int .i64 (pricesE rn ps)) ∧ Below w.heap.size w w' := by
  have HC := Lib.hid (fun W (hW : Below w.heap.size w W) => containsPrices_any B A pn pc ps W (hr.below (hW.mono hB)) (Nat.le_trans hB hW.size) hn hm)
  have HV := Lib.hid (show firstV [unlessV (decide (pn = rn)) 10, unlessV (!anyG oddP ps) 2] = pricesE rn ps by rw [← hn]; rfl)
  have he : ((pn : Int) == (rn : Int)) = decide (pn = rn) := by
    by_cases h : pn = rn
    · simp [h]
    · have h2 : ¬ (pn : Int) = (rn : Int) := by omega
      simp [h]; omega
  clear hr hn
  generalize pricesE rn ps = E at *
  generalize anyG oddP ps = q at *
  go_enter Tryz.func45, Tryz.ntmps45
  go_wp2_with (first
    | (go_at_call 70; refine (HC.out _ (pa pr)).mono ?_; rintro e w' ⟨rfl, hw'⟩; subst hw')
    | (go_at_call 48; refine (unless_any _ _ _).mono ?_; rintro e w' ⟨rfl, rfl⟩)
    | (go_at_call 44; refine (first2 _ _ _ _ _ (by first | (go_simp; done) | (go_simp; rfl)) (by first | (go_simp; done) | (go_simp; rfl)) _ HV.out).mono ?_; rintro e w' ⟨rfl, rfl⟩))
  go_ret
  exact ⟨rfl, pa (pa pr)⟩

theorem take_snoc0' {l : List Int} {k : Nat} (h : k < l.length) : l.take (k + 1) = l.take k ++ [l.getD k 0] := by
  have e : l.getD k 0 = l[k] := by simp [List.getD, h]
  rw [List.take_succ_eq_append_getElem h, e]
theorem minL_snoc : ∀ {l : List Int} (x : Int), l ≠ [] → minL (l ++ [x]) = min (minL l) x
  | [], _, h => absurd rfl h
  | [y], x, _ => rfl
  | y :: z :: l, x, _ => by
    have := minL_snoc (l := z :: l) x (by simp)
    show min y (minL ((z :: l) ++ [x])) = _
    rw [this]
    show _ = min (min y (minL (z :: l))) x
    omega
set_option maxHeartbeats 2000000 in
theorem minInts_any (B : Nat) (A : Option Addr) (n c : Nat) (ts : List Int) (w : World) (hr : IntsIn B w A ts) (hn : ts.length = n) (hm : n ≤ 1000) (h1 : 1 ≤ n) :
    Calls Tryz.prog 73 #[.slice A n c] w fun e w' => e = .returned (.int .i64 (minL ts)) ∧ w = w' := by
  subst hn
  have HR := Lib.hid hr
  obtain ⟨b, off, rfl, hb, hc⟩ := hr.at_ (k := 0) h1
  have c0 : w.cell? ⟨b, off, none⟩ = some (.int .i64 (ts.getD 0 0)) := hc 0 h1
  have HC := Lib.hid hc
  have i0 : (0 : Int) < (ts.length : Int) := by omega
  have i1 : ¬ (ts.length : Int) < 1 := by omega
  have i2 : 0 < ts.length := h1
  clear hc
  have HM := Lib.hid (show minL (ts.take 1) = ts.getD 0 0 by
    cases ts with
    | nil => simp at h1
    | cons x l => rfl)
  obtain ⟨y0, hy0⟩ : ∃ y0, y0 = ts.getD 0 0 := ⟨_, rfl⟩
  rw [← hy0] at c0 HM
  clear hy0
  go_enter Tryz.func73, Tryz.ntmps73
  go_wp2
  go_loop [3, 4] (fun s i => ∃ k : Nat, 1 ≤ k ∧ k ≤ ts.length ∧ i = .int .i64 k ∧ s = .int .i64 (minL (ts.take k))) (fun _ i => ts.length - (intOf i).toNat)
  case atStart => exact ⟨1, Nat.le_refl _, h1, rfl, by rw [HM.out]⟩
  case round =>
    obtain ⟨k, hk1, hk, rfl, rfl⟩ := hrel
    clear c0
    by_cases hlt : k < ts.length
    · have c1 := HC.out k hlt
      have HS := Lib.hid (show minL (ts.take (k + 1)) = min (minL (ts.take k)) (ts.getD k 0) by
        rw [take_snoc0' hlt, minL_snoc _ (fun h => by
          have := congrArg List.length h
          rw [List.length_take, List.length_nil] at this
          omega)])
      generalize ts.getD k 0 = y at *
      generalize minL (ts.take k) = s at *
      go_wp2
      go_round
      case rel => exact ⟨k + 1, by omega, by omega, by go_num, by rw [HS.out]⟩
      case measure => simp [intOf]; omega
    · have ht : ts.take k = ts := List.take_of_length_le (by omega)
      have HT := Lib.hid ht
      clear ht
      go_wp2
      go_ret
      exact ⟨ret_int (by rw [HT.out]), rfl⟩

end Go.Proofs.YtnfbdkdjoekifaaGreatDoor
end
