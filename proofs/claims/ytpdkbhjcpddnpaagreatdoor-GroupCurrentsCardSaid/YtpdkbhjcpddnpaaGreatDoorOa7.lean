/- Contracts: sums and differences of digits. Printed by a program (gen_wideops.py).
Contracts: which of two lists of digits is greater; the wide number of an int. -/
import Derived.Test.YtpdkbhjcpddnpaaGreatDoorOa5
import Derived.Test.YtpdkbhjcpddnpaaGreatDoorOa6

section
namespace Go.Proofs.YtpdkbhjcpddnpaaGreatDoor
open Go.RowKit
attribute [local go_sem ↓] Go.wp_at_zero Go.wp_at_succ

/-- A new row of digits as a result. -/
def DigRet (w : World) (P : List Int → Prop) (e : Ending) (w' : World) : Prop :=
  ∃ (A : Option Addr) (c : Nat) (zs : List Int), e = .returned (.slice A zs.length c) ∧ P zs ∧ DigAt w' A zs ∧ zs.length ≤ c ∧ SlOk A c ∧ Below w.heap.size w w'
theorem dg_bd {d : Int} (h : 0 ≤ d ∧ d < wB) : 0 ≤ d ∧ d ≤ 999999999 := by unfold wB at h; omega
theorem app_len {n : Nat} (h : n ≤ wL) : n + 1 ≤ maxLen ∧ (n + 1) * 8 ≤ 140737488355328 := by
  unfold wL at h
  exact ⟨by simp only [maxLen]; omega, by omega⟩
theorem sum_bd {x y c v : Int} (hx : 0 ≤ x ∧ x ≤ 999999999) (hy : 0 ≤ y ∧ y ≤ 999999999) (hc : 0 ≤ c ∧ c ≤ 1) (h : x + y + c = v) : 0 ≤ v ∧ v ≤ 1999999999 := by omega
theorem tm_eq {v : Int} (h : 0 ≤ v) : Int.tmod v 1000000000 = v % wB ∧ v % 1000000000 = v % wB ∧ Int.tdiv v 1000000000 = v / wB ∧ v / 1000000000 = v / wB := ⟨Int.tmod_eq_emod_of_nonneg h, rfl, Int.tdiv_eq_ediv_of_nonneg h, rfl⟩
theorem okD_snoc {l : List Int} {d : Int} (h : okD l) (hd : 0 ≤ d ∧ d < wB) : okD (l ++ [d]) := okD_app.2 ⟨h, okD_cons.2 ⟨hd, okD_nil⟩⟩
theorem wd_succ (n : Nat) : Value.int .i64 ((n : Int) + 1) = Value.int .i64 ((n + 1 : Nat) : Int) := by push_cast; rfl
theorem wd_cells (w : World) (t : TypeId) (cs : Array Value) : CellsIn (w.heap.size + 1) (w.alloc (.cells cs t)) (some ⟨w.heap.size, 0, none⟩) cs.toList := .inr ⟨w.heap.size, 0, rfl, by omega, fun q hq => by
  rw [Nat.zero_add]
  exact ((Blk.new w t cs).cell q).trans (by simp)⟩
theorem wd_past {w w' : World} {base : Nat} {e : TypeId} {size n : Nat} {v : Value} {xs : List Value} (hb : Below w.heap.size w w') (h : w.ownsRow base e size v n xs) : w'.ownsRow base e size v n xs :=
  h.kept (row := none) ⟨hb.os, hb.tape, hb.output, hb.size, fun i hi _ => hb.block i hi⟩ (by cases v.ownBlock <;> simp)
theorem getD_out {xs : List Int} {i : Nat} (h : ¬ i < xs.length) : xs.getD i 0 = 0 := by rw [List.getD_eq_getElem?_getD, List.getElem?_eq_none (by omega)]; rfl
theorem add_zero_carry {x y c v : Int} (hx : x = 0) (hy : y = 0) (hc : 0 ≤ c ∧ c ≤ 1) (h : x + y + c = v) : v / wB = 0 := by unfold wB; omega
theorem wl_int {n : Nat} (h : n ≤ wL) : (n : Int) ≤ 1000000000000 := by unfold wL at h; omega
theorem wd_ne {n m : Nat} (h : ¬ n < m) : ¬ (n : Int) < (m : Int) := by omega
theorem wd_meas2 {m j : Nat} (h : j ≤ m) : m + 2 - ((j : Int) + 1).toNat < m + 2 - (j : Int).toNat := by omega
theorem le_max_or {a b i : Nat} (h : i < a ∨ i < b) : i ≤ max a b := by omega
theorem wl_of {a b i : Nat} (h : i ≤ max a b) (ha : a ≤ wL) (hb : b ≤ wL) : i ≤ wL := by omega
theorem carry_end {c : Int} {m i : Nat} (hc : m + 1 ≤ i → c = 0) (h0 : 0 < c) (_h : i ≤ m + 1) : i ≤ m := by
  rcases Nat.lt_or_ge m i with h1 | h1
  · have := hc h1; omega
  · exact h1
theorem not_lt_zero {c : Int} (h : ¬ 0 < c) (h0 : 0 ≤ c) : c = 0 := by omega

set_option maxHeartbeats 8000000 in
set_option maxRecDepth 100000 in
theorem addDigits_any (B : Nat) (xs ys : List Int) (A A2 : Option Addr) (c c2 : Nat) (w : World) (hr : IntsIn B w A xs) (hr2 : IntsIn B w A2 ys) (hB : B ≤ w.heap.size) (ho : okD xs) (ho2 : okD ys) (hm : xs.length ≤ wL) (hm2 : ys.length ≤ wL) :
    Calls Tryz.prog 130 #[.slice A xs.length c, .slice A2 ys.length c2] w (DigRet w fun zs => okD zs ∧ valD zs = valD xs + valD ys ∧ zs.length ≤ max xs.length ys.length + 1) := by
  have HO := Lib.hid ho
  have HO2 := Lib.hid ho2
  have HD := Lib.hid (fun i W (hb : Below w.heap.size w W) => digit_any W.heap.size xs A c i W (((hr.more hB).below hb).more hb.size) (Nat.le_refl _))
  have HD2 := Lib.hid (fun i W (hb : Below w.heap.size w W) => digit_any W.heap.size ys A2 c2 i W (((hr2.more hB).below hb).more hb.size) (Nat.le_refl _))
  obtain ⟨i1, hi1, hy0, hy1, hy2⟩ := info_parts int_info
  have HM := Lib.hid hm
  have HM2 := Lib.hid hm2
  clear hr hr2 ho ho2 hm hm2 hB
  go_enter Tryz.func130, Tryz.ntmps130
  go_wp2
  go_loopw [5, 6, 7] (fun ov cv iv wr => ∃ (i : Nat) (A4 : Option Addr) (c4 : Nat) (zs : List Int) (cy : Int), ov = .slice A4 i c4 ∧ cv = .int .i64 cy ∧ iv = .int .i64 (i : Int) ∧ i ≤ max xs.length ys.length + 1 ∧ (0 ≤ cy ∧ cy ≤ 1) ∧ (max xs.length ys.length + 1 ≤ i → cy = 0) ∧ zs.length = i ∧ okD zs ∧ valD zs + wB ^ i * cy = valD (xs.take i) + valD (ys.take i) ∧ wr.ownsRow w.heap.size 3 1 (.slice A4 i c4) i (zs.map (Value.int .i64)) ∧ Below w.heap.size w wr) (fun _ _ iv _ => max xs.length ys.length + 2 - (intOf iv).toNat)
  case atStart => exact ⟨0, none, 0, [], 0, rfl, rfl, rfl, Nat.zero_le _, ⟨Int.le_refl _, by decide⟩, (fun h => absurd h (Nat.not_succ_le_zero _)), rfl, okD_nil, by simp [valD], World.ownsRow_nil _ _ _ _, pr⟩
  case round =>
    as_aux_lemma =>
    obtain ⟨i, A4, c4, zs, cy, rfl, rfl, rfl, hi, hcy, hend, hzl, hzo, hzv, hown, hq⟩ := hrel
    have HI := Lib.hid hi
    have HCy := Lib.hid hcy
    have HEnd := Lib.hid hend
    have HZl := Lib.hid hzl
    have HZo := Lib.hid hzo
    have HZv := Lib.hid hzv
    have HOw := Lib.hid hown
    have HQ := Lib.hid hq
    have i0 := wd_nn i
    obtain ⟨cy0, cy1⟩ := hcy
    clear hi hend hzl hzo hzv hown hq
    by_cases h1 : i < xs.length
    · have e1 := wd_lt h1
      have HI2 := Lib.hid (show i ≤ max xs.length ys.length from le_max_or (.inl h1))
      have HWl := Lib.hid (wl_of HI2.out HM.out HM2.out)
      have i9 := wl_int HWl.out
      have HX := Lib.hid (okD_at HO.out i)
      have HY := Lib.hid (okD_at HO2.out i)
      have HXo := Lib.hid (fun h : ¬ i < xs.length => getD_out h)
      have HYo := Lib.hid (fun h : ¬ i < ys.length => getD_out h)
      have HSt := Lib.hid (fun (s : Int) (hs : s = xs.getD i 0 + ys.getD i 0 + cy) => add_step HZl.out HZv.out hs)
      have HDi := Lib.hid (fun W hb => HD.out i W hb)
      have HDj := Lib.hid (fun W hb => HD2.out i W hb)
      generalize xs.getD i 0 = x at *
      generalize ys.getD i 0 = y at *
      obtain ⟨x0, x1⟩ := dg_bd HX.out
      obtain ⟨y0, y1⟩ := dg_bd HY.out
      obtain ⟨sv, hsv⟩ : ∃ v, x + y + cy = v := ⟨_, rfl⟩
      obtain ⟨s0, s1⟩ := sum_bd ⟨x0, x1⟩ ⟨y0, y1⟩ ⟨cy0, cy1⟩ hsv
      obtain ⟨t1, t2, t3, t4⟩ := tm_eq s0
      have HStv := Lib.hid (HSt.out sv hsv.symm)
      have HM1 := Lib.hid (mod_bd sv)
      have HCb := Lib.hid (show 0 ≤ sv / wB ∧ sv / wB ≤ 1 from hsv ▸ carry_bd HX.out HY.out HCy.out)
      have HEz := Lib.hid (show max xs.length ys.length + 1 ≤ i + 1 → sv / wB = 0 from fun h => add_zero_carry (HXo.out (fun h2 => absurd (Nat.le_trans (Nat.le_max_left _ _) (Nat.le_of_succ_le_succ h)) (Nat.not_le_of_lt h2))) (HYo.out (fun h2 => absurd (Nat.le_trans (Nat.le_max_right _ _) (Nat.le_of_succ_le_succ h)) (Nat.not_le_of_lt h2))) HCy.out hsv)
      generalize sv % wB = dm at *
      generalize sv / wB = dq at *
      have HO2_ := Lib.hid (HOw.out.alloc (.cells #[.int .i64 dm] 3))
      clear HX HY HXo HYo HSt HD HD2
      go_wp2_with (first
        | (go_at_call 152; (with_reducible refine (HDi.out _ HQ.out).mono ?_); rintro e w1 ⟨rfl, hb1⟩; have HQ1 := Lib.hid (pt HQ.out hb1); have HOa := Lib.hid (wd_past hb1 HOw.out); clear hb1)
        | (go_at_call 152; (with_reducible refine (HDj.out _ HQ1.out).mono ?_); rintro e w2 ⟨rfl, hb2⟩; have HQ2 := Lib.hid (pt HQ1.out hb2); have HOb := Lib.hid ((wd_past hb2 HOa.out).alloc (.cells #[.int .i64 dm] 3)); have HC := Lib.hid (wd_cells w2 3 #[.int .i64 dm]); clear hb2)
        | (at_builtin; go_must (refine wpList_append_cells _ rfl (.tmp 34) (.tmp 37) _ rfl w.heap.size 3 i1 _ 1 8 Tryz.underlying51 hi1 hy0 hy1 hy2 rfl Nat.one_pos _ i _ rfl HOb.out (w2.heap.size + 1) (some ⟨w2.heap.size, 0, none⟩) 1 1 _ rfl HC.out rfl (by simp [Value.oneCell']) (app_len HWl.out).1 (app_len HWl.out).2 (pa HQ2.out).size ?_); intro v6 w6 hown6 hg6 hat6; obtain ⟨A6, c6, rfl, hc6, hm6⟩ := own_form hown6; have HQ6 := Lib.hid (show Below w.heap.size w w6 from pg (pa HQ2.out) HOb.out (Nat.le_refl _) hg6); have HO6 := Lib.hid hown6; clear hown6 hg6 hat6))
      go_roundw
      case rel => exact ⟨i + 1, A6, c6, zs ++ [dm], dq, rfl, rfl, wd_succ _, Nat.succ_le_succ HI2.out, HCb.out, HEz.out, by rw [List.length_append, HZl.out]; rfl, okD_snoc HZo.out HM1.out, HStv.out, by rw [List.map_append]; exact HO6.out, HQ6.out⟩
      case measure => exact wd_meas2 HI2.out
    · have e1 := wd_ne h1
      by_cases h2 : i < ys.length
      · have e2 := wd_lt h2
        have HI2 := Lib.hid (show i ≤ max xs.length ys.length from le_max_or (.inr h2))
        have HWl := Lib.hid (wl_of HI2.out HM.out HM2.out)
        have i9 := wl_int HWl.out
        have HX := Lib.hid (okD_at HO.out i)
        have HY := Lib.hid (okD_at HO2.out i)
        have HXo := Lib.hid (fun h : ¬ i < xs.length => getD_out h)
        have HYo := Lib.hid (fun h : ¬ i < ys.length => getD_out h)
        have HSt := Lib.hid (fun (s : Int) (hs : s = xs.getD i 0 + ys.getD i 0 + cy) => add_step HZl.out HZv.out hs)
        have HDi := Lib.hid (fun W hb => HD.out i W hb)
        have HDj := Lib.hid (fun W hb => HD2.out i W hb)
        generalize xs.getD i 0 = x at *
        generalize ys.getD i 0 = y at *
        obtain ⟨x0, x1⟩ := dg_bd HX.out
        obtain ⟨y0, y1⟩ := dg_bd HY.out
        obtain ⟨sv, hsv⟩ : ∃ v, x + y + cy = v := ⟨_, rfl⟩
        obtain ⟨s0, s1⟩ := sum_bd ⟨x0, x1⟩ ⟨y0, y1⟩ ⟨cy0, cy1⟩ hsv
        obtain ⟨t1, t2, t3, t4⟩ := tm_eq s0
        have HStv := Lib.hid (HSt.out sv hsv.symm)
        have HM1 := Lib.hid (mod_bd sv)
        have HCb := Lib.hid (show 0 ≤ sv / wB ∧ sv / wB ≤ 1 from hsv ▸ carry_bd HX.out HY.out HCy.out)
        have HEz := Lib.hid (show max xs.length ys.length + 1 ≤ i + 1 → sv / wB = 0 from fun h => add_zero_carry (HXo.out (fun h2 => absurd (Nat.le_trans (Nat.le_max_left _ _) (Nat.le_of_succ_le_succ h)) (Nat.not_le_of_lt h2))) (HYo.out (fun h2 => absurd (Nat.le_trans (Nat.le_max_right _ _) (Nat.le_of_succ_le_succ h)) (Nat.not_le_of_lt h2))) HCy.out hsv)
        generalize sv % wB = dm at *
        generalize sv / wB = dq at *
        have HO2_ := Lib.hid (HOw.out.alloc (.cells #[.int .i64 dm] 3))
        clear HX HY HXo HYo HSt HD HD2
        go_wp2_with (first
          | (go_at_call 152; (with_reducible refine (HDi.out _ HQ.out).mono ?_); rintro e w1 ⟨rfl, hb1⟩; have HQ1 := Lib.hid (pt HQ.out hb1); have HOa := Lib.hid (wd_past hb1 HOw.out); clear hb1)
          | (go_at_call 152; (with_reducible refine (HDj.out _ HQ1.out).mono ?_); rintro e w2 ⟨rfl, hb2⟩; have HQ2 := Lib.hid (pt HQ1.out hb2); have HOb := Lib.hid ((wd_past hb2 HOa.out).alloc (.cells #[.int .i64 dm] 3)); have HC := Lib.hid (wd_cells w2 3 #[.int .i64 dm]); clear hb2)
          | (at_builtin; go_must (refine wpList_append_cells _ rfl (.tmp 34) (.tmp 37) _ rfl w.heap.size 3 i1 _ 1 8 Tryz.underlying51 hi1 hy0 hy1 hy2 rfl Nat.one_pos _ i _ rfl HOb.out (w2.heap.size + 1) (some ⟨w2.heap.size, 0, none⟩) 1 1 _ rfl HC.out rfl (by simp [Value.oneCell']) (app_len HWl.out).1 (app_len HWl.out).2 (pa HQ2.out).size ?_); intro v6 w6 hown6 hg6 hat6; obtain ⟨A6, c6, rfl, hc6, hm6⟩ := own_form hown6; have HQ6 := Lib.hid (show Below w.heap.size w w6 from pg (pa HQ2.out) HOb.out (Nat.le_refl _) hg6); have HO6 := Lib.hid hown6; clear hown6 hg6 hat6))
        go_roundw
        case rel => exact ⟨i + 1, A6, c6, zs ++ [dm], dq, rfl, rfl, wd_succ _, Nat.succ_le_succ HI2.out, HCb.out, HEz.out, by rw [List.length_append, HZl.out]; rfl, okD_snoc HZo.out HM1.out, HStv.out, by rw [List.map_append]; exact HO6.out, HQ6.out⟩
        case measure => exact wd_meas2 HI2.out
      · have e2 := wd_ne h2
        by_cases h3 : 0 < cy
        · have e3 := h3
          have HI2 := Lib.hid (show i ≤ max xs.length ys.length from carry_end HEnd.out h3 HI.out)
          have HWl := Lib.hid (wl_of HI2.out HM.out HM2.out)
          have i9 := wl_int HWl.out
          have HX := Lib.hid (okD_at HO.out i)
          have HY := Lib.hid (okD_at HO2.out i)
          have HXo := Lib.hid (fun h : ¬ i < xs.length => getD_out h)
          have HYo := Lib.hid (fun h : ¬ i < ys.length => getD_out h)
          have HSt := Lib.hid (fun (s : Int) (hs : s = xs.getD i 0 + ys.getD i 0 + cy) => add_step HZl.out HZv.out hs)
          have HDi := Lib.hid (fun W hb => HD.out i W hb)
          have HDj := Lib.hid (fun W hb => HD2.out i W hb)
          generalize xs.getD i 0 = x at *
          generalize ys.getD i 0 = y at *
          obtain ⟨x0, x1⟩ := dg_bd HX.out
          obtain ⟨y0, y1⟩ := dg_bd HY.out
          obtain ⟨sv, hsv⟩ : ∃ v, x + y + cy = v := ⟨_, rfl⟩
          obtain ⟨s0, s1⟩ := sum_bd ⟨x0, x1⟩ ⟨y0, y1⟩ ⟨cy0, cy1⟩ hsv
          obtain ⟨t1, t2, t3, t4⟩ := tm_eq s0
          have HStv := Lib.hid (HSt.out sv hsv.symm)
          have HM1 := Lib.hid (mod_bd sv)
          have HCb := Lib.hid (show 0 ≤ sv / wB ∧ sv / wB ≤ 1 from hsv ▸ carry_bd HX.out HY.out HCy.out)
          have HEz := Lib.hid (show max xs.length ys.length + 1 ≤ i + 1 → sv / wB = 0 from fun h => add_zero_carry (HXo.out (fun h2 => absurd (Nat.le_trans (Nat.le_max_left _ _) (Nat.le_of_succ_le_succ h)) (Nat.not_le_of_lt h2))) (HYo.out (fun h2 => absurd (Nat.le_trans (Nat.le_max_right _ _) (Nat.le_of_succ_le_succ h)) (Nat.not_le_of_lt h2))) HCy.out hsv)
          generalize sv % wB = dm at *
          generalize sv / wB = dq at *
          have HO2_ := Lib.hid (HOw.out.alloc (.cells #[.int .i64 dm] 3))
          clear HX HY HXo HYo HSt HD HD2
          go_wp2_with (first
            | (go_at_call 152; (with_reducible refine (HDi.out _ HQ.out).mono ?_); rintro e w1 ⟨rfl, hb1⟩; have HQ1 := Lib.hid (pt HQ.out hb1); have HOa := Lib.hid (wd_past hb1 HOw.out); clear hb1)
            | (go_at_call 152; (with_reducible refine (HDj.out _ HQ1.out).mono ?_); rintro e w2 ⟨rfl, hb2⟩; have HQ2 := Lib.hid (pt HQ1.out hb2); have HOb := Lib.hid ((wd_past hb2 HOa.out).alloc (.cells #[.int .i64 dm] 3)); have HC := Lib.hid (wd_cells w2 3 #[.int .i64 dm]); clear hb2)
            | (at_builtin; go_must (refine wpList_append_cells _ rfl (.tmp 34) (.tmp 37) _ rfl w.heap.size 3 i1 _ 1 8 Tryz.underlying51 hi1 hy0 hy1 hy2 rfl Nat.one_pos _ i _ rfl HOb.out (w2.heap.size + 1) (some ⟨w2.heap.size, 0, none⟩) 1 1 _ rfl HC.out rfl (by simp [Value.oneCell']) (app_len HWl.out).1 (app_len HWl.out).2 (pa HQ2.out).size ?_); intro v6 w6 hown6 hg6 hat6; obtain ⟨A6, c6, rfl, hc6, hm6⟩ := own_form hown6; have HQ6 := Lib.hid (show Below w.heap.size w w6 from pg (pa HQ2.out) HOb.out (Nat.le_refl _) hg6); have HO6 := Lib.hid hown6; clear hown6 hg6 hat6))
          go_roundw
          case rel => exact ⟨i + 1, A6, c6, zs ++ [dm], dq, rfl, rfl, wd_succ _, Nat.succ_le_succ HI2.out, HCb.out, HEz.out, by rw [List.length_append, HZl.out]; rfl, okD_snoc HZo.out HM1.out, HStv.out, by rw [List.map_append]; exact HO6.out, HQ6.out⟩
          case measure => exact wd_meas2 HI2.out
        · have hz := not_lt_zero h3 cy0
          subst hz
          have hv : valD zs = valD xs + valD ys := by
            have := HZv.out
            rw [Int.mul_zero, Int.add_zero, List.take_of_length_le (Nat.le_of_not_lt h1), List.take_of_length_le (Nat.le_of_not_lt h2)] at this
            exact this
          have HV := Lib.hid hv
          obtain ⟨_, _, he, hc4, _⟩ := own_form HOw.out
          have hc5 : i ≤ c4 := by injection he with _ _ e3; rw [e3]; exact hc4
          have HC5 := Lib.hid hc5
          clear hv he hc4 hc5 h1 h2 h3
          go_wp2
          go_ret
          exact ⟨A4, c4, zs, by rw [HZl.out]; rfl, ⟨HZo.out, HV.out, by rw [HZl.out]; exact HI.out⟩, dig_own HOw.out, by rw [HZl.out]; exact HC5.out, own_sl HOw.out, HQ.out⟩

theorem df_bd {x y c v : Int} (hx : 0 ≤ x ∧ x ≤ 999999999) (hy : 0 ≤ y ∧ y ≤ 999999999) (hc : c = 0 ∨ c = 1) (h : x - y - c = v) : -1000000000 ≤ v ∧ v ≤ 999999999 ∧ 0 ≤ c ∧ c ≤ 1 := by omega
theorem df_wraps {x y c v : Int} (hx : 0 ≤ x ∧ x ≤ 999999999) (hy : 0 ≤ y ∧ y ≤ 999999999) (hc : 0 ≤ c ∧ c ≤ 1) (h : x - y - c = v) : IntKind.i64.wrap (x - y) = x - y ∧ IntKind.i64.wrap (x - y - c) = v := ⟨IntWalk.i64_in _ (by omega), by rw [← h]; exact IntWalk.i64_in _ (by omega)⟩
theorem df_neg {v : Int} (h : v < 0) (h0 : -1000000000 ≤ v) : 0 ≤ v + 1000000000 ∧ v + 1000000000 < wB := by unfold wB; omega
theorem df_pos {v : Int} (h : ¬ v < 0) (h0 : v ≤ 999999999) : 0 ≤ v ∧ v < wB := by unfold wB; omega
theorem wd_meas3 {m j : Nat} (h : j < m) : m - ((j : Int) + 1).toNat < m - (j : Int).toNat := by omega

set_option maxHeartbeats 8000000 in
set_option maxRecDepth 100000 in
theorem subDigits_any (B : Nat) (xs ys : List Int) (A A2 : Option Addr) (c c2 : Nat) (w : World) (hr : IntsIn B w A xs) (hr2 : IntsIn B w A2 ys) (hB : B ≤ w.heap.size) (ho : okD xs) (ho2 : okD ys) (hm : xs.length ≤ wL) (hle : valD ys ≤ valD xs) (hyl : ys.length ≤ xs.length) :
    Calls Tryz.prog 132 #[.slice A xs.length c, .slice A2 ys.length c2] w (DigRet w fun zs => zs = canD (valD xs - valD ys).toNat) := by
  have HO := Lib.hid ho
  have HO2 := Lib.hid ho2
  have HA := Lib.hid (fun i (hi : i < xs.length) => hr.at_ hi)
  have HBw := Lib.hid hB
  have HD2 := Lib.hid (fun i W (hb : Below w.heap.size w W) => digit_any W.heap.size ys A2 c2 i W (((hr2.more hB).below hb).more hb.size) (Nat.le_refl _))
  obtain ⟨i1, hi1, hy0, hy1, hy2⟩ := info_parts int_info
  have HM := Lib.hid hm
  have HLe := Lib.hid hle
  have HYl := Lib.hid hyl
  clear hr hr2 ho ho2 hm hB hle hyl
  go_enter Tryz.func132, Tryz.ntmps132
  go_wp2
  go_loopw [5, 6, 7] (fun ov cv iv wr => ∃ (i : Nat) (A4 : Option Addr) (c4 : Nat) (zs : List Int) (cy : Int), ov = .slice A4 i c4 ∧ cv = .int .i64 cy ∧ iv = .int .i64 (i : Int) ∧ i ≤ xs.length ∧ (cy = 0 ∨ cy = 1) ∧ zs.length = i ∧ okD zs ∧ valD zs - wB ^ i * cy = valD (xs.take i) - valD (ys.take i) ∧ wr.ownsRow w.heap.size 3 1 (.slice A4 i c4) i (zs.map (Value.int .i64)) ∧ Below w.heap.size w wr) (fun _ _ iv _ => xs.length - (intOf iv).toNat)
  case atStart => exact ⟨0, none, 0, [], 0, rfl, rfl, rfl, Nat.zero_le _, .inl rfl, rfl, okD_nil, by simp [valD], World.ownsRow_nil _ _ _ _, pr⟩
  case round =>
    as_aux_lemma =>
    obtain ⟨i, A4, c4, zs, cy, rfl, rfl, rfl, hi, hcy, hzl, hzo, hzv, hown, hq⟩ := hrel
    have HCy := Lib.hid hcy
    have HZl := Lib.hid hzl
    have HZo := Lib.hid hzo
    have HZv := Lib.hid hzv
    have HOw := Lib.hid hown
    have HQ := Lib.hid hq
    have i0 := wd_nn i
    clear hcy hzl hzo hzv hown hq
    by_cases hlt : i < xs.length
    · have e1 := wd_lt hlt
      have HWl := Lib.hid (Nat.le_trans hi HM.out)
      have i9 := wl_int HWl.out
      obtain ⟨b, off, hA, hb, hct⟩ := HA.out i hlt
      subst hA
      have x3 : b < w.heap.size := Nat.lt_of_lt_of_le hb HBw.out
      have x4 := ((bcell HQ.out).1 b _ x3).trans (hct i hlt)
      have x5 : b < wr.heap.size := Nat.lt_of_lt_of_le x3 HQ.out.size
      have HX := Lib.hid (okD_at HO.out i)
      have HY := Lib.hid (okD_at HO2.out i)
      have HSt := Lib.hid (fun (s : Int) (hs : s = xs.getD i 0 - ys.getD i 0 - cy) => sub_step HZl.out HZv.out hs)
      have HDj := Lib.hid (fun W hb => HD2.out i W hb)
      clear hct hb x3
      generalize xs.getD i 0 = x at *
      generalize ys.getD i 0 = y at *
      obtain ⟨x0, x1⟩ := dg_bd HX.out
      obtain ⟨y0, y1⟩ := dg_bd HY.out
      obtain ⟨sv, hsv⟩ : ∃ v, x - y - cy = v := ⟨_, rfl⟩
      obtain ⟨s0, s1, c0, c1⟩ := df_bd ⟨x0, x1⟩ ⟨y0, y1⟩ HCy.out hsv
      have HSt := Lib.hid (HSt.out sv hsv.symm)
      obtain ⟨f1, f2⟩ := df_wraps ⟨x0, x1⟩ ⟨y0, y1⟩ ⟨c0, c1⟩ hsv
      clear HX HY HD2
      go_wp2
      refine region_below 10 follows_mixed (by kernel_rfl) ?_
      intro C hC
      simp only [List.take_succ_cons, List.take_zero, List.drop_succ_cons, List.drop_zero]
      repeat (first
        | ((with_reducible refine quiet_plain rfl (fun K hK => ?_)); (focus (apply quiet_val; (focus (intro w' hw; obtain ⟨hcq, hfq⟩ := bcell ((hC.out _).1 hw); go_simp; (first | done | rfl | (with_reducible exact call_below hC hw (HDj.out _ (pt HQ.out ((hC.out _).1 hw))))))); (simp only [Act.put, List.setIfInBounds_toArray, List.set_cons_succ, List.set_cons_zero]); (with_reducible refine hK _ ?_); clear hK K)))
        | ((with_reducible refine quiet_skip ?_ ?_); (focus (first | (simp [Region.wanted, yielded]; done) | (simp [Region.wanted, yielded, undef]; done))); simp only [Act.put, List.setIfInBounds_toArray, List.set_cons_succ, List.set_cons_zero])
        | ((with_reducible refine quiet_go ?_ (fun K hK => ?_)); (focus (first | (simp [Region.wanted, yielded]; done) | (simp [Region.wanted, yielded, undef]; done))); (focus (apply quiet_val; (focus (intro w' hw; obtain ⟨hcq, hfq⟩ := bcell ((hC.out _).1 hw); go_simp; (first | done | rfl | (with_reducible exact call_below hC hw (HDj.out _ (pt HQ.out ((hC.out _).1 hw))))))); (simp only [Act.put, List.setIfInBounds_toArray, List.set_cons_succ, List.set_cons_zero]); (with_reducible refine hK _ ?_); clear hK K))))
      refine wpQuiet_nil ?_
      intro w1 hb1
      replace hb1 := (hC.out _).1 hb1
      clear hC C
      obtain ⟨hc1, hf1⟩ := bcell hb1
      have HQ1 := Lib.hid (pt HQ.out hb1)
      have HOa := Lib.hid (wd_past hb1 HOw.out)
      clear hb1 hc1 hf1 x4 x5 f1 f2 hsv
      by_cases hneg : sv < 0
      · have HDm := Lib.hid (df_neg hneg s0)
        have HStv := Lib.hid (HSt.out 1)
        have HOb := Lib.hid (HOa.out.alloc (.cells #[.int .i64 (sv + 1000000000)] 3))
        have HC := Lib.hid (wd_cells w1 3 #[.int .i64 (sv + 1000000000)])
        go_wp2_with (at_builtin; go_must (refine wpList_append_cells _ rfl (.tmp 29) (.tmp 31) _ rfl w.heap.size 3 i1 _ 1 8 Tryz.underlying51 hi1 hy0 hy1 hy2 rfl Nat.one_pos _ i _ rfl HOb.out (w1.heap.size + 1) (some ⟨w1.heap.size, 0, none⟩) 1 1 _ rfl HC.out rfl (by simp [Value.oneCell']) (app_len HWl.out).1 (app_len HWl.out).2 (pa HQ1.out).size ?_); intro v6 w6 hown6 hg6 hat6; obtain ⟨A6, c6, rfl, hc6, hm6⟩ := own_form hown6; have HQ6 := Lib.hid (show Below w.heap.size w w6 from pg (pa HQ1.out) HOb.out (Nat.le_refl _) hg6); have HO6 := Lib.hid hown6; clear hown6 hg6 hat6)
        go_roundw
        case rel => exact ⟨i + 1, A6, c6, zs ++ [sv + 1000000000], 1, rfl, rfl, wd_succ _, Nat.succ_le_of_lt hlt, .inr rfl, by rw [List.length_append, HZl.out]; rfl, okD_snoc HZo.out HDm.out, by have := HStv.out; rw [Int.mul_one, Int.mul_one] at this; rw [Int.mul_one]; exact this, by rw [List.map_append]; exact HO6.out, HQ6.out⟩
        case measure => exact wd_meas3 hlt
      · have HDm := Lib.hid (df_pos hneg s1)
        have HStv := Lib.hid (HSt.out 0)
        have HOb := Lib.hid (HOa.out.alloc (.cells #[.int .i64 sv] 3))
        have HC := Lib.hid (wd_cells w1 3 #[.int .i64 sv])
        go_wp2_with (at_builtin; go_must (refine wpList_append_cells _ rfl (.tmp 29) (.tmp 31) _ rfl w.heap.size 3 i1 _ 1 8 Tryz.underlying51 hi1 hy0 hy1 hy2 rfl Nat.one_pos _ i _ rfl HOb.out (w1.heap.size + 1) (some ⟨w1.heap.size, 0, none⟩) 1 1 _ rfl HC.out rfl (by simp [Value.oneCell']) (app_len HWl.out).1 (app_len HWl.out).2 (pa HQ1.out).size ?_); intro v6 w6 hown6 hg6 hat6; obtain ⟨A6, c6, rfl, hc6, hm6⟩ := own_form hown6; have HQ6 := Lib.hid (show Below w.heap.size w w6 from pg (pa HQ1.out) HOb.out (Nat.le_refl _) hg6); have HO6 := Lib.hid hown6; clear hown6 hg6 hat6)
        go_roundw
        case rel => exact ⟨i + 1, A6, c6, zs ++ [sv], 0, rfl, rfl, wd_succ _, Nat.succ_le_of_lt hlt, .inl rfl, by rw [List.length_append, HZl.out]; rfl, okD_snoc HZo.out HDm.out, by have := HStv.out; rw [Int.mul_zero, Int.mul_zero, Int.add_zero] at this; rw [Int.mul_zero]; exact this, by rw [List.map_append]; exact HO6.out, HQ6.out⟩
        case measure => exact wd_meas3 hlt
    · obtain rfl : i = xs.length := Nat.le_antisymm hi (Nat.le_of_not_lt hlt)
      have e1 := wd_ne hlt
      have hv : valD zs = valD xs - valD ys := by
        have h1 := HZv.out
        rw [List.take_of_length_le (Nat.le_refl _), List.take_of_length_le HYl.out] at h1
        exact sub_end HZo.out HZl.out HCy.out h1 HLe.out
      have HTe := Lib.hid (show zs.take (trimN zs zs.length) = canD (valD xs - valD ys).toNat from hv ▸ trim_eq HZo.out)
      have HTl := Lib.hid (show (canD (valD xs - valD ys).toNat).length = trimN zs zs.length from hv ▸ trim_len HZo.out)
      obtain ⟨_, _, he, hc4, _⟩ := own_form HOw.out
      have hc5 : zs.length ≤ c4 := by injection he with _ _ e3; rw [e3, HZl.out]; exact hc4
      have HC5 := Lib.hid hc5
      have HIn := Lib.hid (dig_own HOw.out)
      have HSl := Lib.hid (own_sl HOw.out)
      have hT := trimmed_any wr.heap.size zs A4 c4 wr HIn.out.ints (Nat.le_refl _) HC5.out (by rw [HZl.out]; exact HM.out) HSl.out
      rw [HZl.out] at hT
      rw [HZl.out] at HTl
      have HT := Lib.hid hT
      clear hv he hc4 hc5 hT
      go_wp2_with (go_at_call 134; (with_reducible refine HT.out.mono ?_); rintro e w1 ⟨rfl, hb1⟩)
      go_ret
      exact ⟨A4, c4, canD (valD xs - valD ys).toNat, by rw [HTl.out]; rfl, rfl, by rw [← HTe.out]; exact (HIn.out.past hb1).take _, by rw [HTl.out, ← HZl.out]; exact Nat.le_trans (trimN_le _ _) HC5.out, HSl.out, pt HQ.out hb1⟩

end Go.Proofs.YtpdkbhjcpddnpaaGreatDoor
end

section
namespace Go.Proofs.YtpdkbhjcpddnpaaGreatDoor
open Go.RowKit
attribute [local go_sem ↓] Go.wp_at_zero Go.wp_at_succ

def cmpN (n m : Nat) : Int := if n < m then -1 else if m < n then 1 else 0
theorem cmpN_lt {n m : Nat} (h : n < m) : cmpN n m = -1 := by unfold cmpN; rw [if_pos h]
theorem cmpN_gt {n m : Nat} (h : m < n) : cmpN n m = 1 := by unfold cmpN; rw [if_neg (by omega), if_pos h]
theorem cmpN_eq (n : Nat) : cmpN n n = 0 := by unfold cmpN; rw [if_neg (by omega), if_neg (by omega)]
theorem canD_lt_of {n m : Nat} (h : valD (canD n) < valD (canD m)) : n < m := by rw [canD_val, canD_val] at h; omega
theorem canD_inj {n m : Nat} (h : canD n = canD m) : n = m := by
  have h1 := canD_val n
  have h2 := canD_val m
  rw [h] at h1
  omega
theorem ne_facts {a b : Nat} (h : a ≠ b) : ¬ (a : Int) = (b : Int) ∧ ((a : Int) == (b : Int)) = false ∧ ((a : Int) != (b : Int)) = true := by
  have h1 : ¬ (a : Int) = (b : Int) := by omega
  exact ⟨h1, beq_eq_false_iff_ne.2 h1, by simpa using h1⟩
theorem idx_down (k : Nat) : ((k + 1 : Nat) : Int) - 1 = (k : Int) := by omega
theorem neg_one_facts : ¬ (0 : Int) ≤ ((0 : Nat) : Int) - 1 := by decide
theorem meas_down (k : Nat) : ((k : Int) - 1 + 1).toNat < ((k : Int) + 1).toNat := by omega

set_option maxHeartbeats 8000000 in
set_option maxRecDepth 100000 in
theorem cmpDigits_any (B : Nat) (n m : Nat) (A A2 : Option Addr) (c c2 : Nat) (w : World) (hr : IntsIn B w A (canD n)) (hr2 : IntsIn B w A2 (canD m)) (hB : B ≤ w.heap.size) (hm : (canD n).length ≤ wL) :
    Calls Tryz.prog 131 #[.slice A (canD n).length c, .slice A2 (canD m).length c2] w fun e w' => e = .returned (.int .i64 (cmpN n m)) ∧ Below w.heap.size w w' := by
  by_cases hl : (canD n).length = (canD m).length
  · have HL := Lib.hid hl
    have HM := Lib.hid hm
    have HN := Lib.hid (fun h : canD n = canD m => canD_inj h)
    have HO := Lib.hid (canD_ok n)
    have HO2 := Lib.hid (canD_ok m)
    have HLt := Lib.hid (fun h : valD (canD n) < valD (canD m) => cmpN_lt (canD_lt_of h))
    have HGt := Lib.hid (fun h : valD (canD m) < valD (canD n) => cmpN_gt (canD_lt_of h))
    have HEq := Lib.hid (show n = m → cmpN n m = 0 from fun e => by rw [e]; exact cmpN_eq m)
    have HA := Lib.hid (fun i (hi : i < (canD n).length) => hr.at_ hi)
    have HA2 := Lib.hid (fun i (hi : i < (canD m).length) => hr2.at_ hi)
    have HBw := Lib.hid hB
    rw [← hl]
    generalize canD n = xs at *
    generalize canD m = ys at *
    generalize cmpN n m = R at *
    clear hl hr hr2 hm hB
    go_enter Tryz.func131, Tryz.ntmps131
    have lb := wl_int HM.out
    have l0 := wd_nn xs.length
    go_wp2
    go_loopw [5] (fun iv wr => ∃ k : Nat, iv = .int .i64 ((k : Int) - 1) ∧ k ≤ xs.length ∧ xs.drop k = ys.drop k ∧ Below w.heap.size w wr) (fun iv _ => (intOf iv + 1).toNat)
    case atStart => exact ⟨xs.length, rfl, Nat.le_refl _, by rw [List.drop_length, HL.out, List.drop_length], pr⟩
    case round =>
      as_aux_lemma =>
      obtain ⟨k, rfl, hk, hd, hq⟩ := hrel
      have HQ := Lib.hid hq
      have HDr := Lib.hid hd
      have HK := Lib.hid hk
      clear hq hd hk
      rcases k with _ | k
      · have e1 := neg_one_facts
        have hR : R = 0 := HEq.out (HN.out (by have := HDr.out; simpa using this))
        subst hR
        go_wp2
        go_ret
        exact ⟨rfl, HQ.out⟩
      · have hki : k < xs.length := HK.out
        have e0 := idx_down k
        obtain ⟨b, off, hA, hb, hct⟩ := HA.out k hki
        obtain ⟨b2, off2, hA2, hb2, hct2⟩ := HA2.out k (HL.out ▸ hki)
        subst hA
        subst hA2
        have z1 := Nat.lt_of_lt_of_le hb HBw.out
        have z2 := Nat.lt_of_lt_of_le hb2 HBw.out
        have HC1 := Lib.hid (show ∀ W, Below w.heap.size w W → W.cell? ⟨b, off + k, none⟩ = some (.int .i64 (xs.getD k 0)) ∧ b < W.heap.size ∧ W.cell? ⟨b2, off2 + k, none⟩ = some (.int .i64 (ys.getD k 0)) ∧ b2 < W.heap.size from fun W hW =>
          ⟨((bcell hW).1 b _ z1).trans (hct k hki), Nat.lt_of_lt_of_le z1 hW.size, ((bcell hW).1 b2 _ z2).trans (hct2 k (HL.out ▸ hki)), Nat.lt_of_lt_of_le z2 hW.size⟩)
        have HVl := Lib.hid (fun h : xs.getD k 0 < ys.getD k 0 => val_cmp HO.out HO2.out HL.out hki HDr.out h)
        have HVg := Lib.hid (fun h : ys.getD k 0 < xs.getD k 0 => val_cmp HO2.out HO.out HL.out.symm (HL.out ▸ hki) HDr.out.symm h)
        have HDn := Lib.hid (show xs.getD k 0 = ys.getD k 0 → xs.drop k = ys.drop k from fun h => by
          rw [List.drop_eq_getElem_cons hki, List.drop_eq_getElem_cons (show k < ys.length from HL.out ▸ hki), HDr.out]
          rw [List.getD_eq_getElem?_getD, List.getD_eq_getElem?_getD, List.getElem?_eq_getElem hki, List.getElem?_eq_getElem (show k < ys.length from HL.out ▸ hki)] at h
          simp only [Option.getD_some] at h
          rw [h])
        have k0 := wd_nn k
        have k1 := wd_lt hki
        rw [e0]
        clear e0 hct hct2 hb hb2 z1 z2
        generalize xs.getD k 0 = x at *
        generalize ys.getD k 0 = y at *
        obtain ⟨u1, u2, u3, u4⟩ := HC1.out _ HQ.out
        rcases Int.lt_trichotomy x y with h | h | h
        · have hR : R = -1 := HLt.out (HVl.out h)
          subst hR
          go_wp2
          refine region_below 8 follows_mixed (by kernel_rfl) ?_
          intro C hC
          simp only [List.take_succ_cons, List.take_zero, List.drop_succ_cons, List.drop_zero]
          repeat (first
            | ((with_reducible refine quiet_plain rfl (fun K hK => ?_)); (focus (apply quiet_val; (focus (intro w' hw; obtain ⟨hcq, hfq⟩ := bcell ((hC.out _).1 hw); go_simp; (first | done | rfl))); (simp only [Act.put, List.setIfInBounds_toArray, List.set_cons_succ, List.set_cons_zero]); (with_reducible refine hK _ ?_); clear hK K)))
            | ((with_reducible refine quiet_skip ?_ ?_); (focus (first | (simp [Region.wanted, yielded]; done) | (simp [Region.wanted, yielded, undef]; done))); simp only [Act.put, List.setIfInBounds_toArray, List.set_cons_succ, List.set_cons_zero])
            | ((with_reducible refine quiet_go ?_ (fun K hK => ?_)); (focus (first | (simp [Region.wanted, yielded]; done) | (simp [Region.wanted, yielded, undef]; done))); (focus (apply quiet_val; (focus (intro w' hw; obtain ⟨hcq, hfq⟩ := bcell ((hC.out _).1 hw); go_simp; (first | done | rfl))); (simp only [Act.put, List.setIfInBounds_toArray, List.set_cons_succ, List.set_cons_zero]); (with_reducible refine hK _ ?_); clear hK K))))
          refine wpQuiet_nil ?_
          intro w1 hb1
          replace hb1 := (hC.out _).1 hb1
          clear hC C
          obtain ⟨hc1, hf1⟩ := bcell hb1
          have HQ1 := Lib.hid (pt HQ.out hb1)
          clear hb1 hc1 hf1
          go_wp2
          go_ret
          exact ⟨rfl, HQ1.out⟩
        · subst h
          have hnl : ¬ x < x := Int.lt_irrefl x
          have HDs := Lib.hid (HDn.out rfl)
          go_wp2
          refine region_below 8 follows_mixed (by kernel_rfl) ?_
          intro C hC
          simp only [List.take_succ_cons, List.take_zero, List.drop_succ_cons, List.drop_zero]
          repeat (first
            | ((with_reducible refine quiet_plain rfl (fun K hK => ?_)); (focus (apply quiet_val; (focus (intro w' hw; obtain ⟨hcq, hfq⟩ := bcell ((hC.out _).1 hw); go_simp; (first | done | rfl))); (simp only [Act.put, List.setIfInBounds_toArray, List.set_cons_succ, List.set_cons_zero]); (with_reducible refine hK _ ?_); clear hK K)))
            | ((with_reducible refine quiet_skip ?_ ?_); (focus (first | (simp [Region.wanted, yielded]; done) | (simp [Region.wanted, yielded, undef]; done))); simp only [Act.put, List.setIfInBounds_toArray, List.set_cons_succ, List.set_cons_zero])
            | ((with_reducible refine quiet_go ?_ (fun K hK => ?_)); (focus (first | (simp [Region.wanted, yielded]; done) | (simp [Region.wanted, yielded, undef]; done))); (focus (apply quiet_val; (focus (intro w' hw; obtain ⟨hcq, hfq⟩ := bcell ((hC.out _).1 hw); go_simp; (first | done | rfl))); (simp only [Act.put, List.setIfInBounds_toArray, List.set_cons_succ, List.set_cons_zero]); (with_reducible refine hK _ ?_); clear hK K))))
          refine wpQuiet_nil ?_
          intro w1 hb1
          replace hb1 := (hC.out _).1 hb1
          clear hC C
          obtain ⟨hc1, hf1⟩ := bcell hb1
          have HQ1 := Lib.hid (pt HQ.out hb1)
          clear hb1 hc1 hf1 u1 u2 u3 u4
          obtain ⟨wv, rfl⟩ : ∃ v, v = w1 := ⟨_, rfl⟩
          obtain ⟨u1, u2, u3, u4⟩ := HC1.out _ HQ1.out
          go_wp2
          refine region_below 8 follows_mixed (by kernel_rfl) ?_
          intro C hC
          simp only [List.take_succ_cons, List.take_zero, List.drop_succ_cons, List.drop_zero]
          repeat (first
            | ((with_reducible refine quiet_plain rfl (fun K hK => ?_)); (focus (apply quiet_val; (focus (intro w' hw; obtain ⟨hcq, hfq⟩ := bcell ((hC.out _).1 hw); go_simp; (first | done | rfl))); (simp only [Act.put, List.setIfInBounds_toArray, List.set_cons_succ, List.set_cons_zero]); (with_reducible refine hK _ ?_); clear hK K)))
            | ((with_reducible refine quiet_skip ?_ ?_); (focus (first | (simp [Region.wanted, yielded]; done) | (simp [Region.wanted, yielded, undef]; done))); simp only [Act.put, List.setIfInBounds_toArray, List.set_cons_succ, List.set_cons_zero])
            | ((with_reducible refine quiet_go ?_ (fun K hK => ?_)); (focus (first | (simp [Region.wanted, yielded]; done) | (simp [Region.wanted, yielded, undef]; done))); (focus (apply quiet_val; (focus (intro w' hw; obtain ⟨hcq, hfq⟩ := bcell ((hC.out _).1 hw); go_simp; (first | done | rfl))); (simp only [Act.put, List.setIfInBounds_toArray, List.set_cons_succ, List.set_cons_zero]); (with_reducible refine hK _ ?_); clear hK K))))
          refine wpQuiet_nil ?_
          intro w1 hb1
          replace hb1 := (hC.out _).1 hb1
          clear hC C
          obtain ⟨hc1, hf1⟩ := bcell hb1
          have HQ2 := Lib.hid (pt HQ1.out hb1)
          clear hb1 hc1 hf1 u1 u2 u3 u4
          have i9 := wl_int HM.out
          go_wp2
          go_roundw
          case rel => exact ⟨k, rfl, Nat.le_of_succ_le HK.out, HDs.out, HQ2.out⟩
          case measure => exact meas_down k
        · have hR : R = 1 := HGt.out (HVg.out h)
          subst hR
          have hnl : ¬ x < y := Int.not_lt.2 (Int.le_of_lt h)
          go_wp2
          refine region_below 8 follows_mixed (by kernel_rfl) ?_
          intro C hC
          simp only [List.take_succ_cons, List.take_zero, List.drop_succ_cons, List.drop_zero]
          repeat (first
            | ((with_reducible refine quiet_plain rfl (fun K hK => ?_)); (focus (apply quiet_val; (focus (intro w' hw; obtain ⟨hcq, hfq⟩ := bcell ((hC.out _).1 hw); go_simp; (first | done | rfl))); (simp only [Act.put, List.setIfInBounds_toArray, List.set_cons_succ, List.set_cons_zero]); (with_reducible refine hK _ ?_); clear hK K)))
            | ((with_reducible refine quiet_skip ?_ ?_); (focus (first | (simp [Region.wanted, yielded]; done) | (simp [Region.wanted, yielded, undef]; done))); simp only [Act.put, List.setIfInBounds_toArray, List.set_cons_succ, List.set_cons_zero])
            | ((with_reducible refine quiet_go ?_ (fun K hK => ?_)); (focus (first | (simp [Region.wanted, yielded]; done) | (simp [Region.wanted, yielded, undef]; done))); (focus (apply quiet_val; (focus (intro w' hw; obtain ⟨hcq, hfq⟩ := bcell ((hC.out _).1 hw); go_simp; (first | done | rfl))); (simp only [Act.put, List.setIfInBounds_toArray, List.set_cons_succ, List.set_cons_zero]); (with_reducible refine hK _ ?_); clear hK K))))
          refine wpQuiet_nil ?_
          intro w1 hb1
          replace hb1 := (hC.out _).1 hb1
          clear hC C
          obtain ⟨hc1, hf1⟩ := bcell hb1
          have HQ1 := Lib.hid (pt HQ.out hb1)
          clear hb1 hc1 hf1 u1 u2 u3 u4
          obtain ⟨wv, rfl⟩ : ∃ v, v = w1 := ⟨_, rfl⟩
          obtain ⟨u1, u2, u3, u4⟩ := HC1.out _ HQ1.out
          go_wp2
          refine region_below 8 follows_mixed (by kernel_rfl) ?_
          intro C hC
          simp only [List.take_succ_cons, List.take_zero, List.drop_succ_cons, List.drop_zero]
          repeat (first
            | ((with_reducible refine quiet_plain rfl (fun K hK => ?_)); (focus (apply quiet_val; (focus (intro w' hw; obtain ⟨hcq, hfq⟩ := bcell ((hC.out _).1 hw); go_simp; (first | done | rfl))); (simp only [Act.put, List.setIfInBounds_toArray, List.set_cons_succ, List.set_cons_zero]); (with_reducible refine hK _ ?_); clear hK K)))
            | ((with_reducible refine quiet_skip ?_ ?_); (focus (first | (simp [Region.wanted, yielded]; done) | (simp [Region.wanted, yielded, undef]; done))); simp only [Act.put, List.setIfInBounds_toArray, List.set_cons_succ, List.set_cons_zero])
            | ((with_reducible refine quiet_go ?_ (fun K hK => ?_)); (focus (first | (simp [Region.wanted, yielded]; done) | (simp [Region.wanted, yielded, undef]; done))); (focus (apply quiet_val; (focus (intro w' hw; obtain ⟨hcq, hfq⟩ := bcell ((hC.out _).1 hw); go_simp; (first | done | rfl))); (simp only [Act.put, List.setIfInBounds_toArray, List.set_cons_succ, List.set_cons_zero]); (with_reducible refine hK _ ?_); clear hK K))))
          refine wpQuiet_nil ?_
          intro w1 hb1
          replace hb1 := (hC.out _).1 hb1
          clear hC C
          obtain ⟨hc1, hf1⟩ := bcell hb1
          have HQ2 := Lib.hid (pt HQ1.out hb1)
          clear hb1 hc1 hf1 u1 u2 u3 u4
          go_wp2
          go_ret
          exact ⟨rfl, HQ2.out⟩
  · obtain ⟨e1, e2, e3⟩ := ne_facts hl
    rcases Nat.lt_or_ge (canD n).length (canD m).length with h | h
    · have e4 := wd_lt h
      rw [cmpN_lt (canD_len h)]
      generalize (canD n).length = p at *
      generalize (canD m).length = q at *
      clear hr hr2 hl h hm
      go_enter Tryz.func131, Tryz.ntmps131
      go_wp2
      go_ret
      exact ⟨rfl, pr⟩
    · have e4 := wd_ne (Nat.not_lt_of_le h)
      rw [cmpN_gt (canD_len (Nat.lt_of_le_of_ne h fun e => hl e.symm))]
      generalize (canD n).length = p at *
      generalize (canD m).length = q at *
      clear hr hr2 hl h hm
      go_enter Tryz.func131, Tryz.ntmps131
      go_wp2
      go_ret
      exact ⟨rfl, pr⟩

end Go.Proofs.YtpdkbhjcpddnpaaGreatDoor
end
