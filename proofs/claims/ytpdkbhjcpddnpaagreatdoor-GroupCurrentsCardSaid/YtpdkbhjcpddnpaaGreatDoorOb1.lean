/- Contract: the wide number of an int. Printed by a program (gen_wideint.py).
Contract: a wide number as an int, or that it is too great.
Contract: a wide number without its sign. -/
import Derived.Test.YtpdkbhjcpddnpaaGreatDoorOa9

section
namespace Go.Proofs.YtpdkbhjcpddnpaaGreatDoor
open Go.RowKit
attribute [local go_sem ↓] Go.wp_at_zero Go.wp_at_succ

theorem own_ge {w : World} {base size n : Nat} {e : TypeId} {v : Value} {xs : List Value} (h : w.ownsRow base e size v n xs) {g : Nat} (hg : g < base) : some g ≠ v.ownBlock := fun e2 => by
  rcases h.2 with ⟨h1, _⟩ | ⟨k, cap, cur, h1, h2, _⟩
  · rw [h1] at e2; cases e2
  · rw [h1] at e2
    have e3 : g = k := by simpa [Value.ownBlock] using e2
    omega
theorem dg_next {m N : Nat} {V : Int} {i : Nat} (hv : V + wB ^ i * (m : Int) = (N : Int)) (h0 : 0 ≤ V) (hm : 0 < m) (hN : N ≤ 9223372036854775807) : i ≤ 2 := by
  rcases Nat.lt_or_ge 2 i with h | h
  · have h1 := wB_pow_le (show 3 ≤ i from h)
    have h2 : wB ^ i * 1 ≤ wB ^ i * (m : Int) := Int.mul_le_mul_of_nonneg_left (by omega) (Int.le_of_lt (wB_pow_pos _))
    have h3 : (wB : Int) ^ 3 = 1000000000000000000000000000 := by decide
    omega
  · exact h
theorem dg_step {m N : Nat} {zs : List Int} {i : Nat} (hl : zs.length = i) (hv : valD zs + wB ^ i * (m : Int) = (N : Int)) : valD (zs ++ [((m % 1000000000 : Nat) : Int)]) + wB ^ (i + 1) * ((m / 1000000000 : Nat) : Int) = (N : Int) := by
  rw [val_snoc, hl, Int.pow_succ, ← hv]
  have : (m : Int) = ((m % 1000000000 : Nat) : Int) + wB * ((m / 1000000000 : Nat) : Int) := by unfold wB; omega
  rw [this]
  grind
theorem dg_mod (m : Nat) : 0 ≤ ((m % 1000000000 : Nat) : Int) ∧ ((m % 1000000000 : Nat) : Int) < wB := by unfold wB; omega
theorem dg_le {m N : Nat} {V : Int} {i : Nat} (hv : V + wB ^ i * (m : Int) = (N : Int)) (h0 : 0 ≤ V) : m ≤ N := by
  have h2 : 1 * (m : Int) ≤ wB ^ i * (m : Int) := Int.mul_le_mul_of_nonneg_right (by have := wB_pow_pos i; omega) (by omega)
  omega
theorem dg_tm (m : Nat) : Int.tmod (m : Int) 1000000000 = ((m % 1000000000 : Nat) : Int) ∧ (m : Int) % 1000000000 = ((m % 1000000000 : Nat) : Int) ∧ Int.tdiv (m : Int) 1000000000 = ((m / 1000000000 : Nat) : Int) ∧ (m : Int) / 1000000000 = ((m / 1000000000 : Nat) : Int) := ⟨rfl, rfl, rfl, rfl⟩
theorem dg_meas {m : Nat} (h : 0 < m) : ((m / 1000000000 : Nat) : Int).toNat < (m : Int).toNat := by omega
theorem dg_pos {m : Nat} (h : 0 < m) : (0 : Int) < (m : Int) := by omega
theorem dg_bd2 {m N : Nat} (h : m ≤ N) (hN : N ≤ 9223372036854775807) : (m : Int) ≤ 9223372036854775807 := by omega


set_option maxHeartbeats 8000000 in
set_option maxRecDepth 100000 in
theorem wideOfInt_neg (n : Int) (w : World) (hlo : -9223372036854775807 ≤ n) (hhi : n ≤ 9223372036854775807) (h : n < 0) :
    Calls Tryz.prog 64 #[.int .i64 n] w (WideRet w n) := by
  obtain ⟨i1, hi1, hy0, hy1, hy2⟩ := info_parts int_info
  obtain ⟨N, hN⟩ : ∃ N, N = n.natAbs := ⟨_, rfl⟩
  have hNb : N ≤ 9223372036854775807 := by omega
  have HNb := Lib.hid hNb
  have HWr := Lib.hid (show RowKit.wrap64 (N : Int) = (N : Int) from (IntWalk.i64_left _).symm.trans (IntWalk.i64_in _ (by omega)))
  have HW := Lib.hid (fun (W : World) (A : Option Addr) (c : Nat) (zs : List Int) (hI : DigAt W A zs) (ho : okD zs) (hv : valD zs = (N : Int)) (hc : zs.length ≤ c) (hm : zs.length ≤ wL) (hs : SlOk A c) =>
    (show Calls Tryz.prog 104 #[.int .i64 (-1), .slice A zs.length c] W (fun e w' => e = .returned (wideV n A c) ∧ Below W.heap.size W w') ∧ WideAt W A c n from
      ⟨wideOf_any W.heap.size zs n (-1) A c W hI.ints (Nat.le_refl _) ho (hN ▸ hv) (fun h => by rcases signD_cases n with ⟨h1, h2⟩ | ⟨h1, h2⟩ | ⟨h1, h2⟩ <;> omega) hc hm hs, (wide_at hI ho (hN ▸ hv) hc hs).1⟩))
  have e1 : n < 0 := h
  have e2 : -n = (N : Int) := by omega
  have e3 : IntKind.i64.wrap (-n) = (N : Int) := by rw [e2]; exact IntWalk.i64_in _ (by omega)
  clear hN hNb h hlo hhi
  go_enter Tryz.func64, Tryz.ntmps64
  go_wp2
  go_loopw [0, 4] (fun nv lv wr => ∃ (i m : Nat) (A4 : Option Addr) (c4 : Nat) (zs : List Int), nv = .int .i64 (m : Int) ∧ lv = .slice A4 i c4 ∧ zs.length = i ∧ okD zs ∧ valD zs + wB ^ i * (m : Int) = (N : Int) ∧ Blk wr w.heap.size 53 #[.int .i64 0, .slice none 0 0] ∧ wr.ownsRow (w.heap.size + 1) 3 1 (.slice A4 i c4) i (zs.map (Value.int .i64)) ∧ i ≤ 3 ∧ Below w.heap.size w wr) (fun nv _ _ => (intOf nv).toNat)
  case atStart => exact ⟨0, N, none, 0, [], by first | rfl | (congr 1 <;> exact HWr.out), rfl, rfl, okD_nil, by simp [valD], Blk.newAt rfl, World.ownsRow_nil _ _ _ _, Nat.zero_le _, pa pr⟩
  case round =>
    as_aux_lemma =>
    obtain ⟨i, m, A4, c4, zs, rfl, rfl, hzl, hzo, hzv, hX, hown, hi3, hq⟩ := hrel
    have HZl := Lib.hid hzl
    have HZo := Lib.hid hzo
    have HZv := Lib.hid hzv
    have HX := Lib.hid hX
    have HOw := Lib.hid hown
    have HQ := Lib.hid hq
    have HI3 := Lib.hid hi3
    have hmN := dg_bd2 (dg_le hzv (val_nonneg hzo)) HNb.out
    clear hzl hzo hzv hX hown hi3 hq
    have m0 := wd_nn m
    by_cases hm : 0 < m
    · have e5 := dg_pos hm
      have HI2 := Lib.hid (dg_next HZv.out (val_nonneg HZo.out) hm HNb.out)
      have HSt := Lib.hid (dg_step HZl.out HZv.out)
      have HMd := Lib.hid (dg_mod m)
      have HMe := Lib.hid (dg_meas hm)
      obtain ⟨t1, t2, t3, t4⟩ := dg_tm m
      have HWl := Lib.hid (show i ≤ wL from Nat.le_trans HI2.out (by decide))
      generalize m % 1000000000 = dm at *
      generalize m / 1000000000 = dq at *
      have HOb := Lib.hid (HOw.out.alloc (.cells #[.int .i64 (dm : Int)] 3))
      have HC := Lib.hid (wd_cells wr 3 #[.int .i64 (dm : Int)])
      have HSz := Lib.hid (show w.heap.size + 1 ≤ (wr.alloc (.cells #[.int .i64 (dm : Int)] 3)).heap.size from Nat.le_trans HX.out.lt (Nat.le_of_lt (by simp)))
      go_wp2_with (at_builtin; go_must (refine wpList_append_cells _ rfl (.tmp 11) (.tmp 14) _ rfl (w.heap.size + 1) 3 i1 _ 1 8 Tryz.underlying51 hi1 hy0 hy1 hy2 rfl Nat.one_pos _ i _ rfl HOb.out (wr.heap.size + 1) (some ⟨wr.heap.size, 0, none⟩) 1 1 _ rfl HC.out rfl (by simp [Value.oneCell']) (app_len HWl.out).1 (app_len HWl.out).2 HSz.out ?_); intro v6 w6 hown6 hg6 hat6; have HX6 := Lib.hid (HX.out.alloc.grown hg6 (own_ge HOb.out (Nat.lt_succ_self _))); obtain ⟨A6, c6, rfl, hc6, hm6⟩ := own_form hown6; have HQ6 := Lib.hid (show Below w.heap.size w w6 from pg (pa HQ.out) HOb.out (Nat.le_succ _) hg6); have HO6 := Lib.hid hown6; clear hown6 hg6 hat6)
      go_roundw
      case rel => exact ⟨i + 1, dq, A6, c6, zs ++ [(dm : Int)], rfl, rfl, by rw [List.length_append, HZl.out]; rfl, okD_snoc HZo.out HMd.out, HSt.out, HX6.out, by rw [List.map_append]; exact HO6.out, Nat.succ_le_succ HI2.out, HQ6.out⟩
      case measure => exact HMe.out
    · obtain rfl : m = 0 := Nat.eq_zero_of_not_pos hm
      have hv : valD zs = (N : Int) := by have := HZv.out; simpa using this
      obtain ⟨_, _, he, hc4, _⟩ := own_form HOw.out
      have hc5 : zs.length ≤ c4 := by injection he with _ _ e3; rw [e3, HZl.out]; exact hc4
      have hA := HW.out wr A4 c4 zs (dig_own HOw.out) HZo.out hv hc5 (by rw [HZl.out]; exact Nat.le_trans HI3.out (by decide)) (own_sl HOw.out)
      rw [HZl.out] at hA
      have HA1 := Lib.hid hA.1
      have HA2 := Lib.hid hA.2
      clear hv he hc4 hc5 hA HW hm
      unfold wideV at HA1
      go_wp2_with (first
        | (go_at_call 104; (with_reducible refine HA1.out.mono ?_); rintro e w1 ⟨rfl, hb1⟩; have R1 := HX.out.past hb1; have S1 := pt HQ.out hb1; have HA3 := Lib.hid (HA2.out.past hb1); clear hb1)
        | ((with_reducible refine store_blk (T := 53) (x := .tmp 2) (y := .tmp 20) (vs := #[.int .i64 (signD n), .slice A4 (dl n) c4]) R1 ?_ ?_ ?_ ?_ ?_ ?_); (focus rfl); (focus exact wide_size); (focus (simp [Value.oneCell']; done)); (focus rfl); (focus rfl); intro WF RF PF))
      have g0 := RF.cellAt 0 rfl
      have g1 := RF.cellAt 1 rfl
      exact bodyPost_ret (v := .agg #[.int .i64 (signD n), .slice A4 (dl n) c4]) (by simp [results, Tryz.results64, go_sem, g0, g1]) rfl ⟨A4, c4, rfl, HA3.out.put R1 (by decide) PF, pp S1 PF (Nat.le_refl _)⟩

set_option maxHeartbeats 8000000 in
set_option maxRecDepth 100000 in
theorem wideOfInt_pos (n : Int) (w : World) (hlo : -9223372036854775807 ≤ n) (hhi : n ≤ 9223372036854775807) (h : ¬ n < 0) :
    Calls Tryz.prog 64 #[.int .i64 n] w (WideRet w n) := by
  obtain ⟨i1, hi1, hy0, hy1, hy2⟩ := info_parts int_info
  obtain ⟨N, hN⟩ : ∃ N, N = n.natAbs := ⟨_, rfl⟩
  have hNb : N ≤ 9223372036854775807 := by omega
  have HNb := Lib.hid hNb
  have HWr := Lib.hid (show RowKit.wrap64 (N : Int) = (N : Int) from (IntWalk.i64_left _).symm.trans (IntWalk.i64_in _ (by omega)))
  have HW := Lib.hid (fun (W : World) (A : Option Addr) (c : Nat) (zs : List Int) (hI : DigAt W A zs) (ho : okD zs) (hv : valD zs = (N : Int)) (hc : zs.length ≤ c) (hm : zs.length ≤ wL) (hs : SlOk A c) =>
    (show Calls Tryz.prog 104 #[.int .i64 1, .slice A zs.length c] W (fun e w' => e = .returned (wideV n A c) ∧ Below W.heap.size W w') ∧ WideAt W A c n from
      ⟨wideOf_any W.heap.size zs n 1 A c W hI.ints (Nat.le_refl _) ho (hN ▸ hv) (fun h => by rcases signD_cases n with ⟨h1, h2⟩ | ⟨h1, h2⟩ | ⟨h1, h2⟩ <;> omega) hc hm hs, (wide_at hI ho (hN ▸ hv) hc hs).1⟩))
  have e1 : ¬ n < 0 := h
  obtain rfl : n = (N : Int) := by omega
  clear hN hNb h hlo hhi
  go_enter Tryz.func64, Tryz.ntmps64
  go_wp2
  go_loopw [0, 4] (fun nv lv wr => ∃ (i m : Nat) (A4 : Option Addr) (c4 : Nat) (zs : List Int), nv = .int .i64 (m : Int) ∧ lv = .slice A4 i c4 ∧ zs.length = i ∧ okD zs ∧ valD zs + wB ^ i * (m : Int) = (N : Int) ∧ Blk wr w.heap.size 53 #[.int .i64 0, .slice none 0 0] ∧ wr.ownsRow (w.heap.size + 1) 3 1 (.slice A4 i c4) i (zs.map (Value.int .i64)) ∧ i ≤ 3 ∧ Below w.heap.size w wr) (fun nv _ _ => (intOf nv).toNat)
  case atStart => exact ⟨0, N, none, 0, [], by first | rfl | (congr 1 <;> exact HWr.out), rfl, rfl, okD_nil, by simp [valD], Blk.newAt rfl, World.ownsRow_nil _ _ _ _, Nat.zero_le _, pa pr⟩
  case round =>
    as_aux_lemma =>
    obtain ⟨i, m, A4, c4, zs, rfl, rfl, hzl, hzo, hzv, hX, hown, hi3, hq⟩ := hrel
    have HZl := Lib.hid hzl
    have HZo := Lib.hid hzo
    have HZv := Lib.hid hzv
    have HX := Lib.hid hX
    have HOw := Lib.hid hown
    have HQ := Lib.hid hq
    have HI3 := Lib.hid hi3
    have hmN := dg_bd2 (dg_le hzv (val_nonneg hzo)) HNb.out
    clear hzl hzo hzv hX hown hi3 hq
    have m0 := wd_nn m
    by_cases hm : 0 < m
    · have e5 := dg_pos hm
      have HI2 := Lib.hid (dg_next HZv.out (val_nonneg HZo.out) hm HNb.out)
      have HSt := Lib.hid (dg_step HZl.out HZv.out)
      have HMd := Lib.hid (dg_mod m)
      have HMe := Lib.hid (dg_meas hm)
      obtain ⟨t1, t2, t3, t4⟩ := dg_tm m
      have HWl := Lib.hid (show i ≤ wL from Nat.le_trans HI2.out (by decide))
      generalize m % 1000000000 = dm at *
      generalize m / 1000000000 = dq at *
      have HOb := Lib.hid (HOw.out.alloc (.cells #[.int .i64 (dm : Int)] 3))
      have HC := Lib.hid (wd_cells wr 3 #[.int .i64 (dm : Int)])
      have HSz := Lib.hid (show w.heap.size + 1 ≤ (wr.alloc (.cells #[.int .i64 (dm : Int)] 3)).heap.size from Nat.le_trans HX.out.lt (Nat.le_of_lt (by simp)))
      go_wp2_with (at_builtin; go_must (refine wpList_append_cells _ rfl (.tmp 11) (.tmp 14) _ rfl (w.heap.size + 1) 3 i1 _ 1 8 Tryz.underlying51 hi1 hy0 hy1 hy2 rfl Nat.one_pos _ i _ rfl HOb.out (wr.heap.size + 1) (some ⟨wr.heap.size, 0, none⟩) 1 1 _ rfl HC.out rfl (by simp [Value.oneCell']) (app_len HWl.out).1 (app_len HWl.out).2 HSz.out ?_); intro v6 w6 hown6 hg6 hat6; have HX6 := Lib.hid (HX.out.alloc.grown hg6 (own_ge HOb.out (Nat.lt_succ_self _))); obtain ⟨A6, c6, rfl, hc6, hm6⟩ := own_form hown6; have HQ6 := Lib.hid (show Below w.heap.size w w6 from pg (pa HQ.out) HOb.out (Nat.le_succ _) hg6); have HO6 := Lib.hid hown6; clear hown6 hg6 hat6)
      go_roundw
      case rel => exact ⟨i + 1, dq, A6, c6, zs ++ [(dm : Int)], rfl, rfl, by rw [List.length_append, HZl.out]; rfl, okD_snoc HZo.out HMd.out, HSt.out, HX6.out, by rw [List.map_append]; exact HO6.out, Nat.succ_le_succ HI2.out, HQ6.out⟩
      case measure => exact HMe.out
    · obtain rfl : m = 0 := Nat.eq_zero_of_not_pos hm
      have hv : valD zs = (N : Int) := by have := HZv.out; simpa using this
      obtain ⟨_, _, he, hc4, _⟩ := own_form HOw.out
      have hc5 : zs.length ≤ c4 := by injection he with _ _ e3; rw [e3, HZl.out]; exact hc4
      have hA := HW.out wr A4 c4 zs (dig_own HOw.out) HZo.out hv hc5 (by rw [HZl.out]; exact Nat.le_trans HI3.out (by decide)) (own_sl HOw.out)
      rw [HZl.out] at hA
      have HA1 := Lib.hid hA.1
      have HA2 := Lib.hid hA.2
      clear hv he hc4 hc5 hA HW hm
      unfold wideV at HA1
      go_wp2_with (first
        | (go_at_call 104; (with_reducible refine HA1.out.mono ?_); rintro e w1 ⟨rfl, hb1⟩; have R1 := HX.out.past hb1; have S1 := pt HQ.out hb1; have HA3 := Lib.hid (HA2.out.past hb1); clear hb1)
        | ((with_reducible refine store_blk (T := 53) (x := .tmp 2) (y := .tmp 20) (vs := #[.int .i64 (signD (N : Int)), .slice A4 (dl (N : Int)) c4]) R1 ?_ ?_ ?_ ?_ ?_ ?_); (focus rfl); (focus exact wide_size); (focus (simp [Value.oneCell']; done)); (focus rfl); (focus rfl); intro WF RF PF))
      have g0 := RF.cellAt 0 rfl
      have g1 := RF.cellAt 1 rfl
      exact bodyPost_ret (v := .agg #[.int .i64 (signD (N : Int)), .slice A4 (dl (N : Int)) c4]) (by simp [results, Tryz.results64, go_sem, g0, g1]) rfl ⟨A4, c4, rfl, HA3.out.put R1 (by decide) PF, pp S1 PF (Nat.le_refl _)⟩

theorem wideOfInt_any (n : Int) (w : World) (hlo : -9223372036854775807 ≤ n) (hhi : n ≤ 9223372036854775807) : Calls Tryz.prog 64 #[.int .i64 n] w (WideRet w n) := by
  by_cases h : n < 0
  · exact wideOfInt_neg n w hlo hhi h
  · exact wideOfInt_pos n w hlo hhi h

end Go.Proofs.YtpdkbhjcpddnpaaGreatDoor
end

section
namespace Go.Proofs.YtpdkbhjcpddnpaaGreatDoor
open Go.RowKit
attribute [local go_sem ↓] Go.wp_at_zero Go.wp_at_succ

theorem val_drop {l : List Int} {k : Nat} (h : k < l.length) : valD (l.drop (k + 1)) * 1000000000 + l.getD k 0 = valD (l.drop k) := by
  rw [List.drop_eq_getElem_cons h, valD, List.getD_eq_getElem?_getD, List.getElem?_eq_getElem h]
  unfold wB
  simp only [Option.getD_some]
  omega
theorem val_drop_le {l : List Int} (h : okD l) (k : Nat) : 0 ≤ valD (l.drop k) ∧ valD (l.drop k) ≤ valD l := by
  have h1 := val_nonneg (okD_drop h k)
  refine ⟨h1, ?_⟩
  rcases Nat.lt_or_ge l.length k with hk | hk
  · rw [List.drop_eq_nil_of_le (by omega)]; exact val_nonneg h
  · rw [val_split l k hk]
    have h2 := val_nonneg (okD_take h k)
    have h3 : 1 * valD (l.drop k) ≤ wB ^ k * valD (l.drop k) := Int.mul_le_mul_of_nonneg_right (by have := wB_pow_pos k; omega) h1
    omega
theorem dl_two {n : Int} (h : dl n ≤ 2) : (n.natAbs : Int) < 1000000000000000000 := by
  have h1 := dlen_lt n.natAbs
  have h2 := wB_pow_le (show (canD n.natAbs).length ≤ 2 from h)
  have h3 : (wB : Int) ^ 2 = 1000000000000000000 := by decide
  omega
theorem sign_abs (n : Int) : signD n * (n.natAbs : Int) = n := by rcases signD_cases n with ⟨h, _⟩ | ⟨h, _⟩ | ⟨h, _⟩ <;> rw [h] <;> omega
theorem step_bd {v x V : Int} (hv : 0 ≤ v) (hx : 0 ≤ x ∧ x ≤ 999999999) (h : v * 1000000000 + x = V) (hV : V < 1000000000000000000) : v ≤ 999999999 ∧ 0 ≤ v * 1000000000 ∧ v * 1000000000 ≤ 999999999000000000 := by omega

set_option maxHeartbeats 8000000 in
set_option maxRecDepth 100000 in
theorem wideInt_any (n : Int) (A : Option Addr) (c : Nat) (w : World) (ha : WideAt w A c n) (hla : dl n < wL) :
    Calls Tryz.prog 99 #[wideV n A c] w fun e w' => e = .returned (if dl n ≤ 2 then .tuple #[.int .i64 n, .bool true] else .tuple #[.int .i64 0, .bool false]) ∧ Below w.heap.size w w' := by
  have lb := wl_int (Nat.le_of_lt hla)
  have l0 := wd_nn (dl n)
  by_cases h2 : dl n ≤ 2
  · rw [if_pos h2]
    have hn := dl_two h2
    have HA := Lib.hid (fun i (hi : i < (digD n).length) => ha.1.ints.at_ hi)
    have HO := Lib.hid (dig_ok n)
    have HV := Lib.hid (show valD (digD n) < 1000000000000000000 from by rw [dig_val]; exact hn)
    have HS := Lib.hid (show signD n * valD (digD n) = n from by rw [dig_val]; exact sign_abs n)
    have e1 : ¬ (2 : Int) < (dl n : Int) := by omega
    have HL := Lib.hid (show (digD n).length = dl n from rfl)
    obtain ⟨s0, s1⟩ := sign_bd n
    have HNb := Lib.hid (show -1000000000000000000 < n ∧ n < 1000000000000000000 from by omega)
    clear ha hla hn
    unfold wideV
    generalize signD n = s at *
    generalize digD n = ds at *
    generalize dl n = k0 at *
    go_enter Tryz.func99, Tryz.ntmps99
    go_wp2
    go_loopw [4, 5] (fun nv iv wr => ∃ k : Nat, nv = .int .i64 (valD (ds.drop k)) ∧ iv = .int .i64 ((k : Int) - 1) ∧ k ≤ k0 ∧ Blk wr w.heap.size 53 #[.int .i64 s, .slice A k0 c] ∧ Below w.heap.size w wr) (fun _ iv _ => (intOf iv + 1).toNat)
    case atStart => exact ⟨k0, by rw [← HL.out, List.drop_length]; rfl, rfl, Nat.le_refl _, Blk.newAt rfl, pa pr⟩
    case round =>
      as_aux_lemma =>
      obtain ⟨k, rfl, rfl, hk, hX, hq⟩ := hrel
      have HQ := Lib.hid hq
      have HX := Lib.hid hX
      have x0 := hX.cellAt 0 rfl
      have x1 := hX.cellAt 1 rfl
      have xl := hX.lt
      clear hq hX
      rcases k with _ | k
      · have e2 := neg_one_facts
        have hv : valD ds < 1000000000000000000 := HV.out
        have hv0 := val_nonneg HO.out
        have hs := HS.out
        have HR := Lib.hid hs
        obtain ⟨b1, b2⟩ := HNb.out
        have hd : valD (ds.drop 0) = valD ds := by rw [List.drop_zero]
        rw [hd]
        generalize valD ds = V at *
        clear hd
        have hw1 : IntKind.i64.wrap (s * V) = n := by rw [hs]; exact IntWalk.i64_in _ (by omega)
        clear hs b1 b2
        go_wp2
        go_ret2
        exact ⟨by first | rfl | (rw [HR.out]; rfl) | (simp only [HR.out]; rfl), HQ.out⟩
      · have hkd : k < ds.length := by rw [HL.out]; exact hk
        obtain ⟨b, off, hA, hb, hct⟩ := HA.out k hkd
        subst hA
        have y1 : wr.cell? ⟨b, off + k, none⟩ = some (.int .i64 (ds.getD k 0)) := ((bcell HQ.out).1 b _ hb).trans (hct k hkd)
        have y2 : b < wr.heap.size := Nat.lt_of_lt_of_le hb HQ.out.size
        have hst := val_drop hkd
        have hx := dg_bd (okD_at HO.out k)
        have hle := val_drop_le HO.out k
        have hle1 := val_drop_le HO.out (k + 1)
        have hVb := HV.out
        have e0 := idx_down k
        have k1 := wd_nn k
        have k2 : (k : Int) < (k0 : Int) := wd_lt hk
        obtain ⟨z1, z2, z3⟩ := step_bd hle1.1 hx hst (Int.lt_of_le_of_lt hle.2 hVb)
        have z0 := hle1.1
        obtain ⟨x2, x3⟩ := hx
        have HSt := Lib.hid hst
        rw [e0]
        clear e0 hct hb hst hle hle1 hVb
        generalize valD (ds.drop (k + 1)) = v at *
        generalize ds.getD k 0 = x at *
        go_wp2
        go_roundw
        case rel => exact ⟨k, by rw [← HSt.out], rfl, Nat.le_of_succ_le hk, HX.out, HQ.out⟩
        case measure => exact meas_down k
  · rw [if_neg h2]
    have e1 : (2 : Int) < (dl n : Int) := by omega
    clear ha hla h2
    unfold wideV
    generalize signD n = s at *
    generalize dl n = k0 at *
    go_enter Tryz.func99, Tryz.ntmps99
    go_wp2
    go_ret2
    exact ⟨rfl, pa pr⟩

end Go.Proofs.YtpdkbhjcpddnpaaGreatDoor
end

section
namespace Go.Proofs.YtpdkbhjcpddnpaaGreatDoor
open Go.RowKit
attribute [local go_sem ↓] Go.wp_at_zero Go.wp_at_succ

set_option maxHeartbeats 8000000 in
set_option maxRecDepth 100000 in
theorem wideSize_any (n : Int) (A : Option Addr) (c : Nat) (w : World) :
    Calls Tryz.prog 135 #[wideV n A c] w fun e w' => e = .returned (wideV (n.natAbs : Int) A c) ∧ Below w.heap.size w w' := by
  by_cases h : n < 0
  · have e : (n.natAbs : Int) = -n := by omega
    rw [e]
    have e1 : signD n < 0 := by rcases signD_cases n with ⟨h1, _⟩ | ⟨h1, h2⟩ | ⟨h1, h2⟩ <;> omega
    have HN := Lib.hid (show ∀ W, Calls Tryz.prog 106 #[.agg #[.int .i64 (signD n), .slice A (dl n) c]] W fun e w' => e = .returned (.agg #[.int .i64 (signD (-n)), .slice A (dl (-n)) c]) ∧ Below W.heap.size W w' from fun W => wideNeg_any n A c W)
    clear e h
    unfold wideV
    generalize signD n = s at *
    generalize dl n = k at *
    generalize signD (-n) = t at *
    generalize dl (-n) = j at *
    go_enter Tryz.func135, Tryz.ntmps135
    go_wp2_with (first
      | (go_at_call 106; (with_reducible refine (HN.out _).mono ?_); rintro e w1 ⟨rfl, hb1⟩; have R1 := (Blk.newAt (w := w.alloc (Obj.cells #[.int .i64 s, .slice A k c] 53)) (t := 53) (cs := #[.int .i64 0, .slice none 0 0]) (n := w.heap.size + 1) (by simp)).past hb1; have S1 := pt (pa (pa (pr (w := w)))) hb1; clear hb1)
      | ((with_reducible refine store_blk (T := 53) (x := .tmp 2) (y := .tmp 7) (vs := #[.int .i64 t, .slice A j c]) R1 ?_ ?_ ?_ ?_ ?_ ?_); (focus rfl); (focus exact wide_size); (focus (simp [Value.oneCell']; done)); (focus rfl); (focus rfl); intro WF RF PF))
    have g0 := RF.cellAt 0 rfl
    have g1 := RF.cellAt 1 rfl
    exact bodyPost_ret (v := .agg #[.int .i64 t, .slice A j c]) (by simp [results, Tryz.results135, go_sem, g0, g1]) rfl ⟨rfl, pp S1 PF (Nat.le_succ _)⟩
  · have e : (n.natAbs : Int) = n := by omega
    rw [e]
    have e1 : ¬ signD n < 0 := by rcases signD_cases n with ⟨h1, _⟩ | ⟨h1, h2⟩ | ⟨h1, h2⟩ <;> omega
    clear e h
    unfold wideV
    generalize signD n = s at *
    generalize dl n = k at *
    go_enter Tryz.func135, Tryz.ntmps135
    go_wp2_with ((with_reducible refine store_blk (T := 53) (x := .tmp 2) (y := .tmp 8) (vs := #[.int .i64 s, .slice A k c]) (show Blk _ (w.heap.size + 1) _ #[.int .i64 0, .slice none 0 0] from Blk.newAt (by simp)) ?_ ?_ ?_ ?_ ?_ ?_); (focus rfl); (focus exact wide_size); (focus (simp [Value.oneCell']; done)); (focus rfl); (focus rfl); intro WF RF PF)
    have g0 := RF.cellAt 0 rfl
    have g1 := RF.cellAt 1 rfl
    exact bodyPost_ret (v := .agg #[.int .i64 s, .slice A k c]) (by simp [results, Tryz.results135, go_sem, g0, g1]) rfl ⟨rfl, pp (pa (pa (pr (w := w)))) PF (Nat.le_succ _)⟩

end Go.Proofs.YtpdkbhjcpddnpaaGreatDoor
end
