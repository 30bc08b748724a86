/- Contracts: diameters, widths, heights and areas (package design). Printed by a program (gen_d2core.py). -/
import Derived.Test.YtnfbdkdjoekifaaGreatDoorOd7
import Derived.Test.YtnfbdkdjoekifaaGreatDoorOd1

section
namespace Go.Proofs.YtnfbdkdjoekifaaGreatDoor
open Go.RowKit

def diamE (d : Int) : Int := unlessV (withinB d 1 2000) 2
def widthErr (d : Int) (ws : List Int) (i : Nat) : Int := firstV [unlessV (withinB (ws.getD i 0) 1 d) 2, unlessV (decide (i = 0) || decide (ws.getD i 0 < ws.getD (i - 1) 0)) 9]
/-- The error of widths of a valid diameter; of a diameter and widths. -/
def wE (d : Int) (ws : List Int) : Int := if ws.length ≤ 12 then (scan (widthErr d ws) ws.length 0).2 else 8
def widthsE (d : Int) (ws : List Int) : Int := if diamE d ≠ 0 then diamE d else wE d ws
theorem scan_none {f : Nat → Int} {n : Nat} : ∀ {m k : Nat}, n - k = m → (scan f n k).2 = 0 → ∀ j, k ≤ j → j < n → f j = 0
  | 0, k, h, _, j, h1, h2 => by omega
  | m + 1, k, h, hs, j, h1, h2 => by
    rw [scan_step (by omega)] at hs
    by_cases h0 : f k = 0
    · rw [if_pos h0] at hs
      rcases Nat.eq_or_lt_of_le h1 with rfl | h3
      · exact h0
      · exact scan_none (m := m) (k := k + 1) (by omega) hs j h3 h2
    · rw [if_neg h0] at hs
      exact absurd hs h0
theorem scan_all {f : Nat → Int} {n : Nat} : ∀ {m k : Nat}, n - k = m → (∀ j, k ≤ j → j < n → f j = 0) → scan f n k = (0, 0)
  | 0, k, h, _ => scan_end (by omega)
  | m + 1, k, h, hz => by
    rw [scan_step (by omega), if_pos (hz k (Nat.le_refl _) (by omega))]
    exact scan_all (m := m) (k := k + 1) (by omega) fun j h1 h2 => hz j (by omega) h2
theorem diamE_ok {d : Int} : diamE d = 0 ↔ 1 ≤ d ∧ d ≤ 2000 := by
  unfold diamE
  rw [unless_ne (by decide)]
  simp [withinB]
theorem widthErr_ok {d : Int} {ws : List Int} {i : Nat} (h : widthErr d ws i = 0) : (1 ≤ ws.getD i 0 ∧ ws.getD i 0 ≤ d) ∧ (i = 0 ∨ ws.getD i 0 < ws.getD (i - 1) 0) := by
  obtain ⟨h1, h2⟩ := firstV_zero.1 h
  have g1 := (unless_ne (by decide)).1 h1
  have g2 := (unless_ne (by decide)).1 (firstV_zero.1 h2).1
  simp only [withinB, Bool.and_eq_true, Bool.or_eq_true, decide_eq_true_eq] at g1 g2
  exact ⟨g1, g2⟩
theorem widths_of {d : Int} : ∀ {ws : List Int}, (∀ i, i < ws.length → (1 ≤ ws.getD i 0 ∧ ws.getD i 0 ≤ d) ∧ (i = 0 ∨ ws.getD i 0 < ws.getD (i - 1) 0)) → WidthsOk d ws
  | [], _ => trivial
  | w :: l, h => by
    have h0 := (h 0 (by simp)).1
    have ih : WidthsOk d l := widths_of fun i hi => by
      have h1 := h (i + 1) (by simpa using hi)
      refine ⟨by simpa using h1.1, ?_⟩
      rcases Nat.eq_zero_or_pos i with h2 | h2
      · exact .inl h2
      · refine .inr ?_
        rcases h1.2 with h3 | h3
        · omega
        · obtain ⟨j, rfl⟩ : ∃ j, i = j + 1 := ⟨i - 1, by omega⟩
          simpa using h3
    refine ⟨by simpa using h0.1, by simpa using h0.2, fun v hv => ?_, ih⟩
    cases l with
    | nil => cases hv
    | cons x l =>
      have h1 := h 1 (by simp)
      have h2 : x < w := by
        rcases h1.2 with h3 | h3
        · omega
        · simpa using h3
      rcases List.mem_cons.1 hv with rfl | hv
      · exact h2
      · exact Int.lt_trans (ih.2.2.1 v hv) h2
theorem wE_ok {d : Int} {ws : List Int} (h : wE d ws = 0) : WidthsOk d ws ∧ ws.length ≤ 12 := by
  unfold wE at h
  split at h
  · rename_i h1
    exact ⟨widths_of fun i hi => widthErr_ok (scan_none rfl h i (Nat.zero_le _) hi), h1⟩
  · exact absurd h (by decide)
/-- The height of the last width, or the height at which the area begins. -/
def lastH (d a : Int) (l : List Int) : Int := l.foldl (fun _ w => hgt d w) a
theorem areaF_snoc (d w : Int) : ∀ (l : List Int) (a : Int), areaF d a (l ++ [w]) = areaF d a l + w * (hgt d w - lastH d a l)
  | [], a => by simp [areaF, lastH]
  | v :: l, a => by
    rw [List.cons_append, areaF, areaF_snoc d w l, areaF]
    show _ = _ + w * (hgt d w - lastH d (hgt d v) l)
    omega
theorem lastH_snoc (d a w : Int) (l : List Int) : lastH d a (l ++ [w]) = hgt d w := by simp [lastH]
theorem lastH_bd {d : Int} {l : List Int} (hd : d ≤ 2000) (h : WidthsOk d l) : 0 ≤ lastH d 0 l ∧ lastH d 0 l ≤ 2000 := by
  rcases List.eq_nil_or_concat l with rfl | ⟨m, w, rfl⟩
  · exact ⟨Int.le_refl 0, show (0 : Int) ≤ 2000 by decide⟩
  · rw [List.concat_eq_append] at h ⊢
    rw [lastH_snoc]
    have h1 := h.mem w (by simp)
    have := (hgt_spec (d := d) (w := w) (by omega) h1.2).1
    have := hgt_lt h1.1 h1.2
    omega
theorem WidthsOk.take {d : Int} : ∀ {l : List Int}, WidthsOk d l → ∀ k, WidthsOk d (l.take k)
  | [], _, k => by rw [List.take_nil]; trivial
  | w :: l, _, 0 => trivial
  | w :: l, h, k + 1 => ⟨h.1, h.2.1, fun v hv => h.2.2.1 v (List.mem_of_mem_take hv), h.2.2.2.take k⟩
theorem take_snoc0 {l : List Int} {k : Nat} (h : k < l.length) : l.take (k + 1) = l.take k ++ [l.getD k 0] := by
  have e : l.getD k 0 = l[k] := by simp [List.getD, h]
  rw [List.take_succ_eq_append_getElem h, e]
theorem mulw_bd {a b : Int} (ha : 0 ≤ a ∧ a ≤ 2000) (hb : -2000 ≤ b ∧ b ≤ 2000) : -4000000 ≤ a * b ∧ a * b ≤ 4000000 := by
  have h1 := Int.mul_le_mul_of_nonneg_left hb.2 ha.1
  have h2 := Int.mul_le_mul_of_nonneg_left hb.1 ha.1
  omega

theorem diameterErr_any (d : Int) (w : World) :
    Calls Tryz.prog 76 #[.int .i64 d] w fun e w' => e = .returned (.int .i64 (diamE d)) ∧ w = w' := by
  go_enter Tryz.func76, Tryz.ntmps76
  go_wp2_with (first
    | (go_at_call 49; refine (within_any _ _ _ _).mono ?_; rintro e w' ⟨rfl, rfl⟩)
    | (go_at_call 48; refine (unless_any _ _ _).mono ?_; rintro e w' ⟨rfl, rfl⟩))
  go_ret
  exact ⟨rfl, rfl⟩
set_option maxHeartbeats 2000000 in
set_option maxRecDepth 100000 in
theorem widthsErr_any (B : Nat) (d : Int) (ws : List Int) (A : Option Addr) (n c : Nat) (w : World) (hr : IntsIn B w A ws) (hB : B ≤ w.heap.size) (hn : ws.length = n) (hm : n ≤ 1000) :
    Calls Tryz.prog 52 #[.int .i64 d, .slice A n c] w fun e w' => e = .returned (.int .i64 (widthsE d ws)) ∧ Below w.heap.size w w' := by
  have hV : firstV [diamE d, unlessV (decide ((n : Int) ≤ 12)) 8] = firstV [diamE d, unlessV (decide ((n : Int) ≤ 12)) 8] := rfl
  have HT := Lib.hid (show widthsE d ws = if firstV [diamE d, unlessV (decide ((n : Int) ≤ 12)) 8] ≠ 0 then firstV [diamE d, unlessV (decide ((n : Int) ≤ 12)) 8] else (scan (widthErr d ws) n 0).2 by
    unfold widthsE wE
    rw [hn]
    by_cases h0 : diamE d = 0
    · by_cases h1 : n ≤ 12
      · rw [h0, decide_eq_true (show (n : Int) ≤ 12 by omega)]
        simp [firstV, unlessV, h1]
      · rw [h0, decide_eq_false (show ¬ (n : Int) ≤ 12 by omega)]
        simp [firstV, unlessV, h1]
    · simp [firstV, h0])
  have HR := Lib.hid hr
  have HN := Lib.hid hn
  generalize hE : firstV [diamE d, unlessV (decide ((n : Int) ≤ 12)) 8] = E1 at *
  have HV := Lib.hid hE
  clear hr hV hE
  generalize widthsE d ws = E at *
  by_cases hE : E1 = 0
  · subst hE
    have HE := Lib.hid (show E = (scan (widthErr d ws) n 0).2 by rw [HT.out, if_neg (by simp)])
    clear HT
    go_enter Tryz.func52, Tryz.ntmps52
    go_wp2_with (first
      | (go_at_call 76; refine (diameterErr_any _ _).mono ?_; rintro e w' ⟨rfl, rfl⟩)
      | (go_at_call 48; refine (unless_any _ _ _).mono ?_; rintro e w' ⟨rfl, rfl⟩)
      | (go_at_call 44; refine (first2 _ _ _ _ _ (by first | (go_simp; done) | (go_simp; rfl)) (by first | (go_simp; done) | (go_simp; rfl)) _ HV.out).mono ?_; rintro e w' ⟨rfl, rfl⟩))
    generalize hv : w.alloc _ = v
    have HQ1 : Hid (Below w.heap.size w v) := Lib.hid (by rw [← hv]; exact pa pr)
    clear hv
    go_loopw [22] (fun i wr => ∃ k : Nat, k ≤ n ∧ i = .int .i64 (k : Int) ∧ scan (widthErr d ws) n 0 = scan (widthErr d ws) n k ∧ Below v.heap.size v wr) (fun i _ => n - (intOf i).toNat)
    case atStart => exact ⟨0, Nat.zero_le _, rfl, rfl, pr⟩
    case round =>
      obtain ⟨k, hk, rfl, hf, hq⟩ := hrel
      have HQ := Lib.hid (pt HQ1.out hq)
      by_cases hlt : k < n
      · obtain ⟨b, off, rfl, hb, hct⟩ := (HR.out.below (HQ.out.mono hB)).at_ (k := k) (by rw [hn]; exact hlt)
        have d0 := hct k (by rw [hn]; exact hlt)
        have d1 := hct (k - 1) (by rw [hn]; omega)
        have hbw := Nat.lt_of_lt_of_le hb (Nat.le_trans hB HQ.out.size)
        have HS := Lib.hid (hf.trans (scan_step hlt))
        have hFk : firstV [unlessV (withinB (ws.getD k 0) 1 d) 2, unlessV (decide (k = 0) || decide (ws.getD k 0 < ws.getD (k - 1) 0)) 9] = widthErr d ws k := rfl
        have HQv := Lib.hid (pa (o := .cells #[] 33) hq)
        have HQz := Lib.hid hq
        clear hct hf HQv hq
        generalize widthErr d ws k = e at *
        generalize ws.getD k 0 = x at *
        generalize ws.getD (k - 1) 0 = y at *
        have HFk := Lib.hid hFk
        clear hFk
        by_cases hk0 : k = 0
        · have HW := Lib.hid (show firstV [unlessV (withinB x 1 d) 2, unlessV true 9] = e by rw [← HFk.out, decide_eq_true hk0]; rfl)
          have hz : ((k : Int) == 0) = true := by simp [hk0]
          clear HFk d1 hk0
          by_cases he : e = 0
          · subst he
            have HS2 := Lib.hid (show scan (widthErr d ws) n 0 = scan (widthErr d ws) n (k + 1) by rw [HS.out, if_pos rfl])
            go_wp2_with (first
              | (go_at_call 49; refine (within_any _ _ _ _).mono ?_; rintro e w' ⟨rfl, rfl⟩)
              | (go_at_call 48; refine (unless_any _ _ _).mono ?_; rintro e w' ⟨rfl, rfl⟩)
              | (go_at_call 44; refine (first2 _ _ _ _ _ (by first | (go_simp; done) | (go_simp; rfl)) (by first | (go_simp; done) | (go_simp; rfl)) _ HW.out).mono ?_; rintro e w' ⟨rfl, rfl⟩))
            go_roundw
            case rel => exact ⟨k + 1, by omega, by go_num, HS2.out, pa HQz.out⟩
            case measure => simp [intOf]; omega
          · have he1 : (e == 0) = false := by simpa using he
            have he2 : (e != 0) = true := by simpa using he
            have HRs := Lib.hid (show E = e by rw [HE.out, HS.out, if_neg he])
            go_wp2_with (first
              | (go_at_call 49; refine (within_any _ _ _ _).mono ?_; rintro e w' ⟨rfl, rfl⟩)
              | (go_at_call 48; refine (unless_any _ _ _).mono ?_; rintro e w' ⟨rfl, rfl⟩)
              | (go_at_call 44; refine (first2 _ _ _ _ _ (by first | (go_simp; done) | (go_simp; rfl)) (by first | (go_simp; done) | (go_simp; rfl)) _ HW.out).mono ?_; rintro e w' ⟨rfl, rfl⟩))
            go_ret
            exact ⟨ret_int HRs.out.symm, pa HQ.out⟩
        · have HW := Lib.hid (show firstV [unlessV (withinB x 1 d) 2, unlessV (decide (x < y)) 9] = e by rw [← HFk.out, decide_eq_false hk0, Bool.false_or])
          have hz : ((k : Int) == 0) = false := by simp; omega
          have i2 : max (k : Int) 1 = (k : Int) := by omega
          have i3 : ((k : Int) - 1).toNat = k - 1 := by omega
          have i4 : (0 : Int) ≤ (k : Int) - 1 := by omega
          have i5 : (k : Int) - 1 < (n : Int) := by omega
          have i6 : (1 : Int) ≤ (k : Int) := by omega
          clear HFk hk0
          by_cases he : e = 0
          · subst he
            have HS2 := Lib.hid (show scan (widthErr d ws) n 0 = scan (widthErr d ws) n (k + 1) by rw [HS.out, if_pos rfl])
            go_wp2_with (first
              | (go_at_call 49; refine (within_any _ _ _ _).mono ?_; rintro e w' ⟨rfl, rfl⟩)
              | (go_at_call 48; refine (unless_any _ _ _).mono ?_; rintro e w' ⟨rfl, rfl⟩)
              | (go_at_call 44; refine (first2 _ _ _ _ _ (by first | (go_simp; done) | (go_simp; rfl)) (by first | (go_simp; done) | (go_simp; rfl)) _ HW.out).mono ?_; rintro e w' ⟨rfl, rfl⟩))
            go_roundw
            case rel => exact ⟨k + 1, by omega, by go_num, HS2.out, pa HQz.out⟩
            case measure => simp [intOf]; omega
          · have he1 : (e == 0) = false := by simpa using he
            have he2 : (e != 0) = true := by simpa using he
            have HRs := Lib.hid (show E = e by rw [HE.out, HS.out, if_neg he])
            go_wp2_with (first
              | (go_at_call 49; refine (within_any _ _ _ _).mono ?_; rintro e w' ⟨rfl, rfl⟩)
              | (go_at_call 48; refine (unless_any _ _ _).mono ?_; rintro e w' ⟨rfl, rfl⟩)
              | (go_at_call 44; refine (first2 _ _ _ _ _ (by first | (go_simp; done) | (go_simp; rfl)) (by first | (go_simp; done) | (go_simp; rfl)) _ HW.out).mono ?_; rintro e w' ⟨rfl, rfl⟩))
            go_ret
            exact ⟨ret_int HRs.out.symm, pa HQ.out⟩
      · have HRs := Lib.hid (show E = 0 by rw [HE.out, hf, scan_end (by omega)])
        clear hf
        go_wp2
        go_ret
        exact ⟨ret_int HRs.out.symm, HQ.out⟩
  · have hE1 : (E1 == 0) = false := by simpa using hE
    have hE2 : (E1 != 0) = true := by simpa using hE
    have HE := Lib.hid (show E = E1 by rw [HT.out, if_pos hE])
    clear HT
    go_enter Tryz.func52, Tryz.ntmps52
    go_wp2_with (first
      | (go_at_call 76; refine (diameterErr_any _ _).mono ?_; rintro e w' ⟨rfl, rfl⟩)
      | (go_at_call 48; refine (unless_any _ _ _).mono ?_; rintro e w' ⟨rfl, rfl⟩)
      | (go_at_call 44; refine (first2 _ _ _ _ _ (by first | (go_simp; done) | (go_simp; rfl)) (by first | (go_simp; done) | (go_simp; rfl)) _ HV.out).mono ?_; rintro e w' ⟨rfl, rfl⟩))
    go_ret
    exact ⟨ret_int HE.out.symm, pa pr⟩

set_option maxHeartbeats 2000000 in
set_option maxRecDepth 100000 in
theorem area_any (B : Nat) (d : Int) (ws : List Int) (A : Option Addr) (n c : Nat) (w : World) (hr : IntsIn B w A ws) (hn : ws.length = n) (hm : n ≤ 1000) (hd : 1 ≤ d ∧ d ≤ 2000) (hw : WidthsOk d ws) :
    Calls Tryz.prog 53 #[.int .i64 d, .slice A n c] w fun e w' => e = .returned (.int .i64 (areaD d ws)) ∧ w = w' := by
  subst hn
  have HW := Lib.hid hw
  have HD := Lib.hid hd
  clear hw hd
  go_enter Tryz.func53, Tryz.ntmps53
  go_wp2
  go_loop [5, 6, 12] (fun s l i => ∃ k : Nat, k ≤ ws.length ∧ i = .int .i64 (k : Int) ∧ s = .int .i64 (areaD d (ws.take k)) ∧ l = .int .i64 (lastH d 0 (ws.take k))) (fun _ _ i => ws.length - (intOf i).toNat)
  case atStart => exact ⟨0, Nat.zero_le _, rfl, rfl, rfl⟩
  case round =>
    obtain ⟨k, hk, rfl, rfl, rfl⟩ := hrel
    by_cases hlt : k < ws.length
    · obtain ⟨b, off, rfl, hb, hct⟩ := hr.at_ hlt
      have d0 := hct k hlt
      have hm2 := HW.out.mem _ (show ws.getD k 0 ∈ ws by simp [List.getD, hlt])
      have HH := Lib.hid (fun W => height_any d _ hm2.1 hm2.2 HD.out.2 W)
      have hl := lastH_bd HD.out.2 (HW.out.take k)
      have ha := area_bd HD.out.1 (HW.out.take k)
      have hg := (hgt_spec (d := d) (w := ws.getD k 0) (Int.le_trans (by decide) hm2.1) hm2.2).1
      have hg2 := hgt_lt hm2.1 hm2.2
      have hD := HD.out
      have hp := mulw_bd (a := ws.getD k 0) (b := hgt d (ws.getD k 0) - lastH d 0 (ws.take k)) (by omega) (by omega)
      have hdd := sq_bd (show (0 : Int) ≤ d by omega) hD.2
      have HA := Lib.hid (show areaD d (ws.take (k + 1)) = areaD d (ws.take k) + ws.getD k 0 * (hgt d (ws.getD k 0) - lastH d 0 (ws.take k)) by rw [take_snoc0 hlt]; exact areaF_snoc _ _ _ _)
      have HLs := Lib.hid (show lastH d 0 (ws.take (k + 1)) = hgt d (ws.getD k 0) by rw [take_snoc0 hlt, lastH_snoc])
      clear hct hr
      generalize ws.getD k 0 = x at *
      generalize hgt d x = h at *
      generalize lastH d 0 (ws.take k) = l at *
      generalize areaD d (ws.take k) = S at *
      have b1 : -2000 ≤ h - l ∧ h - l ≤ 2000 := by omega
      have b2 : 0 ≤ S ∧ S ≤ 4000000 := by omega
      have q1 : wrap64 (h - l) = h - l := w64 (by omega)
      have q2 : wrap64 (x * (h - l)) = x * (h - l) := w64 (by omega)
      have q3 : wrap64 (S + x * (h - l)) = S + x * (h - l) := w64 (by omega)
      clear hp hdd ha hg hg2 hl hD hm2 b1 b2
      go_wp2_with (first
        | (go_at_call 77; refine (HH.out _).mono ?_; rintro e w' ⟨rfl, rfl⟩))
      go_round
      case rel => exact ⟨k + 1, by omega, by go_num, by rw [HA.out, q3], by rw [HLs.out]⟩
      case measure => simp [intOf]; omega
    · obtain rfl : k = ws.length := by omega
      have HT := Lib.hid (show ws.take ws.length = ws from List.take_length)
      go_wp2
      go_ret
      exact ⟨ret_int (by first | rfl | rw [HT.out]), rfl⟩
end Go.Proofs.YtnfbdkdjoekifaaGreatDoor
end
