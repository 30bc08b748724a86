/- Contracts: digits of wide numbers: trimmed, wideOf, digit, cmpDigits, addDigits, subDigits, WideOf. -/
import Derived.Test.YtpdkbhjcpddnpaaGreatDoorOa1
import Derived.Test.YtpdkbhjcpddnpaaGreatDoorOa3
import Derived.Test.YtpdkbhjcpddnpaaGreatDoorOa2
import Derived.Test.YtpdkbhjcpddnpaaGreatDoorOa4
import Derived.Deep.DrawnRows

section
namespace Go.Proofs.YtpdkbhjcpddnpaaGreatDoor
open Go.RowKit
attribute [local go_sem ↓] Go.wp_at_zero Go.wp_at_succ

/-- A slice's pointer and capacity as Go makes them. -/
def SlOk (A : Option Addr) (c : Nat) : Prop := (A = none ∧ c = 0) ∨ ∃ b off, A = some ⟨b, off, none⟩
theorem own_sl {w : World} {base size n c : Nat} {e : TypeId} {A : Option Addr} {xs : List Value} (h : w.ownsRow base e size (.slice A n c) n xs) : SlOk A c := by
  rcases h.2 with ⟨h1, h2⟩ | ⟨g, cap, cur, h2, h3, h4, h5⟩
  · injection h1 with e1 _ e3
    exact .inl ⟨e1, e3⟩
  · injection h2 with e1 _ e3
    exact .inr ⟨g, 0, e1⟩
def wL : Nat := 1000000000000
theorem w_small {n : Nat} (h : n ≤ wL) : RowKit.wrap64 (n : Int) = (n : Int) := (IntWalk.i64_left _).symm.trans (IntWalk.i64_in _ (by unfold wL at h; omega))
theorem w_idx {n : Nat} (h : n ≤ wL) : IntKind.i64.wrap (((n + 1 : Nat) : Int) - 1) = (n : Int) := by
  unfold wL at h
  rw [show ((n + 1 : Nat) : Int) - 1 = (n : Int) by omega]
  exact IntWalk.i64_in _ (by omega)

theorem wd_pos (n : Nat) : (0 : Int) < ((n + 1 : Nat) : Int) := by omega
theorem wd_nn (n : Nat) : (0 : Int) ≤ (n : Int) := by omega
theorem wd_lt {n m : Nat} (h : n < m) : (n : Int) < (m : Int) := by omega
theorem wd_le {n m : Nat} (h : n ≤ m) : (n : Int) ≤ (m : Int) := by omega
theorem wd_meas (n : Nat) : (n : Int).toNat < ((n + 1 : Nat) : Int).toNat := by omega

set_option maxHeartbeats 4000000 in
set_option maxRecDepth 100000 in
theorem trimmed_any (B : Nat) (xs : List Int) (A : Option Addr) (c : Nat) (w : World) (hr : IntsIn B w A xs) (hB : B ≤ w.heap.size) (hc : xs.length ≤ c) (hm : xs.length ≤ wL) (hs : SlOk A c) :
    Calls Tryz.prog 134 #[.slice A xs.length c] w fun e w' => e = .returned (.slice A (trimN xs xs.length) c) ∧ Below w.heap.size w w' := by
  have HC := Lib.hid hc
  have HM := Lib.hid hm
  have HSl := Lib.hid hs
  have HX := Lib.hid (show ∀ j, j < xs.length → ∃ b off, A = some ⟨b, off, none⟩ ∧ w.cell? ⟨b, off + j, none⟩ = some (.int .i64 (xs.getD j 0)) ∧ b < w.heap.size from fun j hj => by
    obtain ⟨b, off, e, hb, h⟩ := hr.at_ hj
    exact ⟨b, off, e, h j hj, Nat.lt_of_lt_of_le hb hB⟩)
  clear hr hc hm hs hB
  go_enter Tryz.func134, Tryz.ntmps134
  go_wp2
  go_loopw [3] (fun nv wr => ∃ n : Nat, nv = .int .i64 (n : Int) ∧ n ≤ xs.length ∧ trimN xs n = trimN xs xs.length ∧ Below w.heap.size w wr) (fun nv _ => (intOf nv).toNat)
  case atStart => exact ⟨xs.length, rfl, Nat.le_refl _, rfl, pr⟩
  case round =>
    as_aux_lemma =>
    obtain ⟨n, rfl, hn, ht, hb⟩ := hrel
    have HT := Lib.hid ht
    have HN := Lib.hid hn
    have HBl := Lib.hid hb
    clear ht hb hn
    rcases n with _ | n
    · have hc0 := wd_nn c
      rcases HSl.out with ⟨rfl, rfl⟩ | ⟨b, off, rfl⟩
      · go_wp2
        go_ret
        exact ⟨by rw [← HT.out]; rfl, HBl.out⟩
      · go_wp2
        go_ret
        exact ⟨by rw [← HT.out]; rfl, HBl.out⟩
    · obtain ⟨b, off, rfl, x1, x2⟩ := HX.out n HN.out
      have y1 : wr.cell? ⟨b, off + n, none⟩ = some (.int .i64 (xs.getD n 0)) := ((bcell HBl.out).1 b _ x2).trans x1
      have y2 : b < wr.heap.size := Nat.lt_of_lt_of_le x2 HBl.out.size
      have hnl : n ≤ wL := Nat.le_trans (Nat.le_of_succ_le HN.out) HM.out
      have e1 := w_idx hnl
      have HE := Lib.hid (w_small hnl)
      have e8 := wd_le hnl
      have e9 : ((wL : Nat) : Int) = 1000000000000 := rfl
      rw [e9] at e8
      clear e9
      have e2 := wd_pos n
      have e3 := wd_nn n
      have e4 := wd_lt HN.out
      clear x1 x2 hnl
      have HS := Lib.hid (show trimN xs (n + 1) = if xs.getD n 0 = 0 then trimN xs n else n + 1 from rfl)
      generalize xs.getD n 0 = d at *
      by_cases hd : d = 0
      · have e5 : (d == 0) = true := by rw [hd]; rfl
        have HT2 := Lib.hid (show trimN xs n = trimN xs xs.length by rw [← HT.out, HS.out, if_pos hd])
        clear hd
        go_wp2
        go_roundw
        case rel => exact ⟨n, by first | rfl | rw [HE.out], Nat.le_of_succ_le HN.out, HT2.out, HBl.out⟩
        case measure => first | exact wd_meas n | (show (RowKit.wrap64 (n : Int)).toNat < _; rw [HE.out]; exact wd_meas n)
      · have e5 : (d == 0) = false := beq_eq_false_iff_ne.2 hd
        have HT2 := Lib.hid (show n + 1 = trimN xs xs.length by rw [← HT.out, HS.out, if_neg hd])
        have e6 := wd_le (Nat.le_trans HN.out HC.out)
        have e7 := wd_nn (n + 1)
        clear hd
        go_wp2
        go_ret
        exact ⟨by rw [← HT2.out]; rfl, HBl.out⟩

/-- A wide number as a value; where it lies. -/
def wideV (n : Int) (A : Option Addr) (c : Nat) : Value := .agg #[.int .i64 (signD n), .slice A (dl n) c]
/-- Digits that lie in a block of ints. -/
def DigAt (w : World) (A : Option Addr) (xs : List Int) : Prop := xs = [] ∨ ∃ b off cs, A = some ⟨b, off, none⟩ ∧ Blk w b 3 cs ∧ ∀ j, j < xs.length → cs[off + j]? = some (.int .i64 (xs.getD j 0))
theorem DigAt.ints {w : World} {A : Option Addr} {xs : List Int} (h : DigAt w A xs) : IntsIn w.heap.size w A xs := by
  rcases h with h | ⟨b, off, cs, hA, hb, hc⟩
  · exact .inl h
  · exact .inr ⟨b, off, hA, hb.lt, fun j hj => (hb.cell _).trans (hc j hj)⟩
theorem DigAt.past {w w' : World} {A : Option Addr} {xs : List Int} (h : DigAt w A xs) (hb : Below w.heap.size w w') : DigAt w' A xs := by
  rcases h with h | ⟨b, off, cs, hA, hk, hc⟩
  · exact .inl h
  · exact .inr ⟨b, off, cs, hA, hk.past hb, hc⟩
theorem blk_ne {w : World} {b g : Nat} {t u : TypeId} {cs ds : Array Value} (h : Blk w b t cs) (k : Blk w g u ds) (hne : t ≠ u) : b ≠ g := by
  rintro rfl
  unfold Blk at h k
  rw [h] at k
  injection k with k
  injection k with _ k2 _
  exact hne k2
theorem DigAt.far {w : World} {A : Option Addr} {xs : List Int} (h : DigAt w A xs) {p : Addr} {t : TypeId} {ds : Array Value} (hp : Blk w p.block t ds) (ht : 3 ≠ t) {u : Value} : DigAt (w.setCell p u) A xs := by
  rcases h with h | ⟨b, off, cs, hA, hk, hc⟩
  · exact .inl h
  · exact .inr ⟨b, off, cs, hA, hk.far (blk_ne hk hp ht), hc⟩
theorem DigAt.put {w W : World} {A : Option Addr} {xs : List Int} (h : DigAt w A xs) {g : Nat} {t : TypeId} {ds : Array Value} (hp : Blk w g t ds) (ht : 3 ≠ t) (hP : Put w W g) : DigAt W A xs := by
  rcases h with h | ⟨b, off, cs, hA, hk, hc⟩
  · exact .inl h
  · exact .inr ⟨b, off, cs, hA, hk.put hP (blk_ne hk hp ht), hc⟩
theorem DigAt.take {w : World} {A : Option Addr} {xs : List Int} (h : DigAt w A xs) (k : Nat) : DigAt w A (xs.take k) := by
  rcases h with h | ⟨b, off, cs, hA, hk, hc⟩
  · exact .inl (by rw [h]; simp)
  · refine .inr ⟨b, off, cs, hA, hk, fun j hj => ?_⟩
    rw [List.length_take] at hj
    rw [hc j (by omega)]
    congr 2
    rw [List.getD_eq_getElem?_getD, List.getD_eq_getElem?_getD, List.getElem?_take_of_lt (by omega)]
theorem dig_own {w : World} {base n c : Nat} {A : Option Addr} {xs : List Int} (h : w.ownsRow base 3 1 (.slice A n c) n (xs.map (Value.int .i64))) : DigAt w A xs := by
  rcases h.2 with ⟨h1, h2⟩ | ⟨g, cap, cur, hv, _, hh, hn, _, hs, ht⟩
  · refine .inl ?_
    have := h.1
    rw [h2, Nat.zero_mul, List.length_map] at this
    exact List.eq_nil_of_length_eq_zero this
  · injection hv with hA _ _
    refine .inr ⟨g, 0, cur, hA, hh, fun j hj => ?_⟩
    have hl := h.1
    rw [List.length_map] at hl
    rw [Nat.zero_add]
    have e : (cur.toList.take (n * 1))[j]? = (xs.map (Value.int .i64))[j]? := by rw [ht]
    rw [List.getElem?_take_of_lt (by omega), List.getElem?_map, List.getElem?_eq_getElem hj] at e
    rw [List.getD_eq_getElem?_getD, List.getElem?_eq_getElem hj]
    simpa using e
def WideAt (w : World) (A : Option Addr) (c : Nat) (n : Int) : Prop := DigAt w A (digD n) ∧ dl n ≤ c ∧ SlOk A c
theorem WideAt.past {w w' : World} {A : Option Addr} {c : Nat} {n : Int} (h : WideAt w A c n) (hb : Below w.heap.size w w') : WideAt w' A c n := ⟨h.1.past hb, h.2⟩
theorem WideAt.far {w : World} {A : Option Addr} {c : Nat} {n : Int} (h : WideAt w A c n) {p : Addr} {t : TypeId} {ds : Array Value} (hp : Blk w p.block t ds) (ht : 3 ≠ t) {u : Value} : WideAt (w.setCell p u) A c n := ⟨h.1.far hp ht, h.2⟩
theorem WideAt.put {w W : World} {A : Option Addr} {c : Nat} {n : Int} (h : WideAt w A c n) {g : Nat} {t : TypeId} {ds : Array Value} (hp : Blk w g t ds) (ht : 3 ≠ t) (hP : Put w W g) : WideAt W A c n := ⟨h.1.put hp ht hP, h.2⟩
theorem WideAt.neg {w : World} {A : Option Addr} {c : Nat} {n : Int} (h : WideAt w A c n) : WideAt w A c (-n) := by
  unfold WideAt
  rw [dig_neg, dl_neg]
  exact h
theorem WideAt.zero {w : World} : WideAt w none 0 0 := ⟨.inl dig_zero, by rw [dl_zero]; exact Nat.le_refl _, .inl ⟨rfl, rfl⟩⟩
theorem IntsIn.take {B : Nat} {w : World} {A : Option Addr} {xs : List Int} (h : IntsIn B w A xs) (k : Nat) : IntsIn B w A (xs.take k) := by
  rcases h with h | ⟨b, off, hA, hb, hc⟩
  · exact .inl (by rw [h]; simp)
  · refine .inr ⟨b, off, hA, hb, fun j hj => ?_⟩
    rw [List.length_take] at hj
    rw [hc j (by omega)]
    congr 2
    rw [List.getD_eq_getElem?_getD, List.getD_eq_getElem?_getD, List.getElem?_take_of_lt (by omega)]
/-- Digits whose number is that of n, read as n's own, once trimmed. -/
theorem wide_at {w : World} {A : Option Addr} {c : Nat} {xs : List Int} {n : Int} (h : DigAt w A xs) (hok : okD xs) (hv : valD xs = (n.natAbs : Int)) (hc : xs.length ≤ c) (hs : SlOk A c) : WideAt w A c n ∧ trimN xs xs.length = dl n := by
  have h1 := trim_eq hok
  rw [dig_of hv] at h1
  have h2 := trim_len hok
  rw [dig_of hv] at h2
  refine ⟨⟨by rw [← h1]; exact h.take _, ?_, hs⟩, h2.symm⟩
  unfold dl
  rw [h2]
  exact Nat.le_trans (trimN_le _ _) hc

theorem wide_size : (Tryz.prog.info? 53).map (·.size) = some 2 := by kernel_rfl
set_option maxHeartbeats 4000000 in
set_option maxRecDepth 100000 in
theorem wideOf_any (B : Nat) (xs : List Int) (n s : Int) (A : Option Addr) (c : Nat) (w : World) (hr : IntsIn B w A xs) (hB : B ≤ w.heap.size) (hok : okD xs) (hv : valD xs = (n.natAbs : Int)) (hn : n ≠ 0 → s = signD n) (hc : xs.length ≤ c) (hm : xs.length ≤ wL) (hs : SlOk A c) :
    Calls Tryz.prog 104 #[.int .i64 s, .slice A xs.length c] w fun e w' => e = .returned (wideV n A c) ∧ Below w.heap.size w w' := by
  have HT := Lib.hid (fun W (hb : Below w.heap.size w W) => trimmed_any W.heap.size xs A c W (((hr.more hB).below hb).more hb.size) (Nat.le_refl _) hc hm hs)
  have pa0 : Below w.heap.size w (w.alloc (.cells #[.int .i64 0, .slice none 0 0] 53)) := pa pr
  have ht : trimN xs xs.length = dl n := by
    have h2 := trim_len hok
    rw [dig_of hv] at h2
    exact h2.symm
  rw [ht] at HT
  by_cases h0 : n = 0
  · have e0 : dl n = 0 := by rw [h0]; exact dl_zero
    have HV := Lib.hid (show wideV n A c = .agg #[.int .i64 0, .slice A 0 c] by unfold wideV; rw [e0, h0]; rfl)
    rw [e0] at HT
    clear hr hok hv hn hc hm hs ht e0 h0
    go_enter Tryz.func104, Tryz.ntmps104
    go_wp2_with (first
      | (go_at_call 134; (with_reducible refine (HT.out _ pa0).mono ?_); rintro e w1 ⟨rfl, hb1⟩; have R1 := (Blk.newAt (w := w) (t := 53) (cs := #[.int .i64 0, .slice none 0 0]) rfl).past hb1; have S1 := pt pa0 hb1)
      | ((with_reducible refine store_blk (T := 53) (x := .tmp 4) (y := .tmp 12) (vs := #[.int .i64 0, .slice A 0 c]) R1 ?_ ?_ ?_ ?_ ?_ ?_); (focus rfl); (focus exact wide_size); (focus (simp [Value.oneCell']; done)); (focus rfl); (focus rfl); intro WF RF PF))
    have g0 := RF.cellAt 0 rfl
    have g1 := RF.cellAt 1 rfl
    exact bodyPost_ret (v := .agg #[.int .i64 0, .slice A 0 c]) (by simp [results, Tryz.results104, go_sem, g0, g1]) rfl ⟨by rw [HV.out], pp S1 PF (Nat.le_refl _)⟩
  · have hs2 := hn h0
    subst hs2
    have e1 : (((dl n : Nat) : Int) == 0) = false := beq_eq_false_iff_ne.2 (by have := dl_pos h0; omega)
    have HV := Lib.hid (show wideV n A c = .agg #[.int .i64 (signD n), .slice A (dl n) c] from rfl)
    clear hr hok hv hn hc hm hs ht h0
    generalize signD n = s at *
    generalize dl n = k at *
    go_enter Tryz.func104, Tryz.ntmps104
    go_wp2_with (first
      | (go_at_call 134; (with_reducible refine (HT.out _ pa0).mono ?_); rintro e w1 ⟨rfl, hb1⟩; have R1 := (Blk.newAt (w := w) (t := 53) (cs := #[.int .i64 0, .slice none 0 0]) rfl).past hb1; have S1 := pt pa0 hb1)
      | ((with_reducible refine store_blk (T := 53) (x := .tmp 4) (y := .tmp 12) (vs := #[.int .i64 s, .slice A k c]) R1 ?_ ?_ ?_ ?_ ?_ ?_); (focus rfl); (focus exact wide_size); (focus (simp [Value.oneCell']; done)); (focus rfl); (focus rfl); intro WF RF PF))
    have g0 := RF.cellAt 0 rfl
    have g1 := RF.cellAt 1 rfl
    exact bodyPost_ret (v := .agg #[.int .i64 s, .slice A k c]) (by simp [results, Tryz.results104, go_sem, g0, g1]) rfl ⟨by rw [HV.out], pp S1 PF (Nat.le_refl _)⟩

set_option maxHeartbeats 4000000 in
set_option maxRecDepth 100000 in
theorem digit_any (B : Nat) (xs : List Int) (A : Option Addr) (c i : Nat) (w : World) (hr : IntsIn B w A xs) (hB : B ≤ w.heap.size) :
    Calls Tryz.prog 152 #[.slice A xs.length c, .int .i64 (i : Int)] w fun e w' => e = .returned (.int .i64 (xs.getD i 0)) ∧ Below w.heap.size w w' := by
  by_cases hi : i < xs.length
  · obtain ⟨b, off, rfl, hb, h⟩ := hr.at_ hi
    have x1 := h i hi
    have x2 : b < w.heap.size := Nat.lt_of_lt_of_le hb hB
    have e1 : (i : Int) < (xs.length : Int) := by omega
    have e2 : (0 : Int) ≤ (i : Int) := by omega
    clear h hr
    generalize xs.getD i 0 = d at *
    go_enter Tryz.func152, Tryz.ntmps152
    go_wp2
    go_ret
    exact ⟨rfl, pr⟩
  · have e1 : ¬ (i : Int) < (xs.length : Int) := by omega
    have e3 : xs.getD i 0 = 0 := by rw [List.getD_eq_getElem?_getD, List.getElem?_eq_none (by omega)]; rfl
    rw [e3]
    clear hr e3
    go_enter Tryz.func152, Tryz.ntmps152
    go_wp2
    go_ret
    exact ⟨rfl, pr⟩

end Go.Proofs.YtpdkbhjcpddnpaaGreatDoor
end
