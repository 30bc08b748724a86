/- Contract of the specification's Decimal: the decimal numeral of a number. Numbers of an int.
Contract of the specification's Decimal, whole.
Contract: the specification's string of a task. Printed by a program (gen_reffmt.py). -/
import Derived.Test.YtbojmcopagbheaaGreatDoorQ0
import Derived.Test.YtbojmcopagbheaaGreatDoorKASize
import Derived.Lib.ItoaLen
import Derived.Deep.DrawnRows
import Derived.Laws.IdiomStrings
import Derived.Test.YtbojmcopagbheaaGreatDoorT2Fmt

section
namespace Go.Proofs.YtbojmcopagbheaaGreatDoor
open Go.RowKit
attribute [local go_sem ↓] Go.wp_at_zero Go.wp_at_succ

theorem decLoop_len (u : Nat) : ∀ s, s.length ≤ (decLoop u s).length := by
  induction u using Nat.strongRecOn with
  | _ u ih =>
    intro s
    rw [decLoop]
    split
    · exact Nat.le_refl _
    · have := ih (u / 10) (by omega) (UInt8.ofNat (48 + u % 10) :: s)
      rw [List.length_cons] at this
      omega
theorem bytes_cons (u : UInt8) (S : List UInt8) : (⟨#[u]⟩ : ByteArray) ++ (⟨S.toArray⟩ : ByteArray) = ⟨(u :: S).toArray⟩ := by
  apply ByteArray.ext
  simp
theorem bytes_nil (S : List UInt8) : (⟨#[]⟩ : ByteArray) ++ (⟨S.toArray⟩ : ByteArray) = ⟨S.toArray⟩ := by
  apply ByteArray.ext
  simp
theorem conv_gen (w : World) (T : TypeId) (x : Int) (u : UInt8) (hx : x = (u.toNat : Int)) : (convert 145 9 (.slice (some ⟨w.heap.size, 0, none⟩) 1 1)).run Tryz.prog (w.alloc (.cells #[.int .u8 x] T)) = .ok (.string ⟨#[u]⟩) (w.alloc (.cells #[.int .u8 x] T)) := by
  subst hx
  have hs : Tryz.prog.underlying 145 = some (.slice 5) := by kernel_rfl
  have he : Tryz.prog.underlying 5 = some (.int .u8) := by kernel_rfl
  have hd : Tryz.prog.underlying 9 = some .string := by kernel_rfl
  exact run_convert_bytes_back (P := Tryz.prog) _ _ _ _ ⟨w.heap.size, 0, none⟩ 1 [u] hs he hd (fun j hj => by
    have : j = 0 := by simpa using hj
    subst this
    exact (Blk.new w T #[.int .u8 (u.toNat : Int)]).cellAt 0 rfl)

set_option maxHeartbeats 4000000 in
set_option maxRecDepth 100000 in
theorem decimal_pos (n : Nat) (h1 : 1 ≤ n) (hn : n ≤ 9223372036854775807) (w : World) :
    Calls Tryz.prog 81 #[.int .i64 (n : Int)] w fun e w' => e = .returned (.string ⟨(Lib.decDigits n).toArray⟩) ∧ Below w.heap.size w w' := by
  have hlen : (Lib.decDigits n).length ≤ 20 := by
    have h := Lib.itoa_length_le (-(n : Int)) (by omega) (by omega)
    unfold Lib.itoa at h
    rw [if_pos (by omega)] at h
    simp at h
    omega
  have hdl := decLoop_eq n [] h1
  rw [List.append_nil] at hdl
  have HL := Lib.hid hlen
  have HD := Lib.hid hdl
  have n0 : ¬ (n : Int) = 0 := by omega
  have n1 : ((n : Int) == 0) = false := by simp; omega
  have n2 : (0 : Int) ≤ (n : Int) := by omega
  have n3 : (1 : Int) ≤ (n : Int) := by omega
  have n7 : ¬ (n : Int) < 0 := by omega
  clear hlen hdl
  go_enter Tryz.func81, Tryz.ntmps81
  go_wp2
  go_loopw [0, 3] (fun nv sv wr => ∃ (u : Nat) (s : List UInt8), nv = .int .i64 (u : Int) ∧ sv = .string ⟨s.toArray⟩ ∧ decLoop u s = Lib.decDigits n ∧ u ≤ 9223372036854775807 ∧ Below w.heap.size w wr) (fun nv _ _ => (intOf nv).natAbs)
  case atStart => exact ⟨n, [], rfl, rfl, HD.out, hn, pr⟩
  case round =>
    obtain ⟨u, s, rfl, rfl, hd, hu, hq⟩ := hrel
    have hsl : s.length ≤ 20 := by
      have := decLoop_len u s
      rw [hd] at this
      have := HL.out
      omega
    have HDr := Lib.hid hd
    have HQ := Lib.hid hq
    clear hd hq n0 n1
    by_cases h0 : u = 0
    · subst h0
      have HRes := Lib.hid (show s = Lib.decDigits n from by rw [← HDr.out, decLoop, dif_pos rfl])
      have hadd := fun w => run_string_add_sum (P := Tryz.prog) w (⟨#[]⟩ : ByteArray) (⟨s.toArray⟩ : ByteArray) (by simp [ByteArray.size]; omega)
      go_wp2
      go_ret
      refine ⟨?_, HQ.out⟩
      rw [← HRes.out]
      show Ending.returned (Value.string ((⟨#[]⟩ : ByteArray) ++ ⟨s.toArray⟩)) = _
      rw [bytes_nil]
    · have u1 : (1 : Int) ≤ (u : Int) := by omega
      have v0 : ¬ (u : Int) = 0 := by omega
      have v1 : ((u : Int) != 0) = true := by simp; omega
      have hc10 : u % 10 < 10 := Nat.mod_lt _ (by decide)
      have e1 : ((u : Int)).tmod 10 = ((u % 10 : Nat) : Int) := by first | (rw [Int.neg_tmod, Int.ofNat_tmod]; rfl) | rfl
      have e4 : ((u : Int)).tdiv 10 = ((u / 10 : Nat) : Int) := by first | (rw [Int.neg_tdiv, Int.ofNat_tdiv]; rfl) | rfl
      have e5 : IntKind.i64.wrap ((u / 10 : Nat) : Int) = ((u / 10 : Nat) : Int) := IntWalk.i64_in _ (by omega)
      have HSz := sizeS_any ((u % 10 : Nat) : Int) (by unfold Sm; omega)
      rw [show ((((u % 10 : Nat) : Int)).natAbs : Int) = ((u % 10 : Nat) : Int) by omega] at HSz
      have HNext := Lib.hid (show decLoop (u / 10) (UInt8.ofNat (48 + u % 10) :: s) = Lib.decDigits n from by rw [← HDr.out, decLoop.eq_1 u, dif_neg h0])
      have hx : (48 : Int) + ((u % 10 : Nat) : Int) = ((UInt8.ofNat (48 + u % 10)).toNat : Int) := by rw [ofNat_digit hc10]; omega
      have hcv := conv_gen wr 5 (48 + ((u % 10 : Nat) : Int)) (UInt8.ofNat (48 + u % 10)) hx
      have hadd := fun w => run_string_add_sum (P := Tryz.prog) w (⟨#[UInt8.ofNat (48 + u % 10)]⟩ : ByteArray) (⟨s.toArray⟩ : ByteArray) (by simp [ByteArray.size]; omega)
      have e2 : IntKind.i64.wrap (48 + ((u % 10 : Nat) : Int)) = 48 + ((u % 10 : Nat) : Int) := IntWalk.i64_in _ (by omega)
      have e3 : IntKind.u8.wrap (48 + ((u % 10 : Nat) : Int)) = 48 + ((u % 10 : Nat) : Int) := IntWalk.u8_in _ (by omega)
      have huq : u / 10 < u := by omega
      have HS := Lib.hid HSz
      clear HSz hx
      generalize UInt8.ofNat (48 + u % 10) = b at *
      generalize hm : u % 10 = m at *
      generalize hqq : u / 10 = q at *
      clear hm
      have HX := Lib.hid hqq
      clear hqq
      go_wp2_with (go_at_call 111; (with_reducible refine (HS.out _).mono ?_); rintro e w' ⟨rfl, rfl⟩)
      go_roundw
      case rel => exact ⟨q, b :: s, by go_num, by rw [bytes_cons], HNext.out, by omega, pa HQ.out⟩
      case measure => simp [intOf]; omega
set_option maxHeartbeats 4000000 in
set_option maxRecDepth 100000 in
theorem decimal_neg (n : Nat) (h1 : 1 ≤ n) (hn : n ≤ 9223372036854775808) (w : World) :
    Calls Tryz.prog 81 #[.int .i64 (-(n : Int))] w fun e w' => e = .returned (.string ⟨((45 :: Lib.decDigits n)).toArray⟩) ∧ Below w.heap.size w w' := by
  have hlen : (Lib.decDigits n).length ≤ 20 := by
    have h := Lib.itoa_length_le (-(n : Int)) (by omega) (by omega)
    unfold Lib.itoa at h
    rw [if_pos (by omega)] at h
    simp at h
    omega
  have hdl := decLoop_eq n [] h1
  rw [List.append_nil] at hdl
  have HL := Lib.hid hlen
  have HD := Lib.hid hdl
  have n0 : ¬ (-(n : Int)) = 0 := by omega
  have n1 : ((-(n : Int)) == 0) = false := by simp; omega
  have n2 : (0 : Int) ≤ (n : Int) := by omega
  have n3 : (1 : Int) ≤ (n : Int) := by omega
  have n7 : 0 < n := by omega
  clear hlen hdl
  go_enter Tryz.func81, Tryz.ntmps81
  go_wp2
  go_loopw [0, 3] (fun nv sv wr => ∃ (u : Nat) (s : List UInt8), nv = .int .i64 (-(u : Int)) ∧ sv = .string ⟨s.toArray⟩ ∧ decLoop u s = Lib.decDigits n ∧ u ≤ 9223372036854775808 ∧ Below w.heap.size w wr) (fun nv _ _ => (intOf nv).natAbs)
  case atStart => exact ⟨n, [], rfl, rfl, HD.out, hn, pr⟩
  case round =>
    obtain ⟨u, s, rfl, rfl, hd, hu, hq⟩ := hrel
    have hsl : s.length ≤ 20 := by
      have := decLoop_len u s
      rw [hd] at this
      have := HL.out
      omega
    have HDr := Lib.hid hd
    have HQ := Lib.hid hq
    clear hd hq n0 n1
    by_cases h0 : u = 0
    · subst h0
      have HRes := Lib.hid (show s = Lib.decDigits n from by rw [← HDr.out, decLoop, dif_pos rfl])
      have hadd := fun w => run_string_add_sum (P := Tryz.prog) w (⟨#[45]⟩ : ByteArray) (⟨s.toArray⟩ : ByteArray) (by simp [ByteArray.size]; omega)
      go_wp2
      go_ret
      refine ⟨?_, HQ.out⟩
      rw [← HRes.out]
      show Ending.returned (Value.string ((⟨#[45]⟩ : ByteArray) ++ ⟨s.toArray⟩)) = _
      rw [bytes_cons]
    · have u1 : (1 : Int) ≤ (u : Int) := by omega
      have v0 : ¬ (-(u : Int)) = 0 := by omega
      have v1 : ((-(u : Int)) != 0) = true := by simp; omega
      have hc10 : u % 10 < 10 := Nat.mod_lt _ (by decide)
      have e1 : ((-(u : Int))).tmod 10 = (-((u % 10 : Nat) : Int)) := by first | (rw [Int.neg_tmod, Int.ofNat_tmod]; rfl) | rfl
      have e4 : ((-(u : Int))).tdiv 10 = (-((u / 10 : Nat) : Int)) := by first | (rw [Int.neg_tdiv, Int.ofNat_tdiv]; rfl) | rfl
      have e5 : IntKind.i64.wrap (-((u / 10 : Nat) : Int)) = (-((u / 10 : Nat) : Int)) := IntWalk.i64_in _ (by omega)
      have HSz := sizeS_any (-((u % 10 : Nat) : Int)) (by unfold Sm; omega)
      rw [show (((-((u % 10 : Nat) : Int))).natAbs : Int) = ((u % 10 : Nat) : Int) by omega] at HSz
      have HNext := Lib.hid (show decLoop (u / 10) (UInt8.ofNat (48 + u % 10) :: s) = Lib.decDigits n from by rw [← HDr.out, decLoop.eq_1 u, dif_neg h0])
      have hx : (48 : Int) + ((u % 10 : Nat) : Int) = ((UInt8.ofNat (48 + u % 10)).toNat : Int) := by rw [ofNat_digit hc10]; omega
      have hcv := conv_gen wr 5 (48 + ((u % 10 : Nat) : Int)) (UInt8.ofNat (48 + u % 10)) hx
      have hadd := fun w => run_string_add_sum (P := Tryz.prog) w (⟨#[UInt8.ofNat (48 + u % 10)]⟩ : ByteArray) (⟨s.toArray⟩ : ByteArray) (by simp [ByteArray.size]; omega)
      have e2 : IntKind.i64.wrap (48 + ((u % 10 : Nat) : Int)) = 48 + ((u % 10 : Nat) : Int) := IntWalk.i64_in _ (by omega)
      have e3 : IntKind.u8.wrap (48 + ((u % 10 : Nat) : Int)) = 48 + ((u % 10 : Nat) : Int) := IntWalk.u8_in _ (by omega)
      have huq : u / 10 < u := by omega
      have HS := Lib.hid HSz
      clear HSz hx
      generalize UInt8.ofNat (48 + u % 10) = b at *
      generalize hm : u % 10 = m at *
      generalize hqq : u / 10 = q at *
      clear hm
      have HX := Lib.hid hqq
      clear hqq
      go_wp2_with (go_at_call 111; (with_reducible refine (HS.out _).mono ?_); rintro e w' ⟨rfl, rfl⟩)
      go_roundw
      case rel => exact ⟨q, b :: s, by go_num, by rw [bytes_cons], HNext.out, by omega, pa HQ.out⟩
      case measure => simp [intOf]; omega

end Go.Proofs.YtbojmcopagbheaaGreatDoor
end

section
namespace Go.Proofs.YtbojmcopagbheaaGreatDoor
open Go.RowKit
attribute [local go_sem ↓] Go.wp_at_zero Go.wp_at_succ

theorem decimal_zero (w : World) : Calls Tryz.prog 81 #[.int .i64 0] w fun e w' => e = .returned (.string ⟨#[48]⟩) ∧ Below w.heap.size w w' := by
  go_enter Tryz.func81, Tryz.ntmps81
  go_wp2
  go_ret
  exact ⟨rfl, pr⟩
theorem refDecimal_any (n : Int) (h0 : -9223372036854775808 ≤ n) (h1 : n ≤ 9223372036854775807) (w : World) :
    Calls Tryz.prog 81 #[.int .i64 n] w fun e w' => e = .returned (.string ⟨(Lib.itoa n).toArray⟩) ∧ Below w.heap.size w w' := by
  rcases Int.lt_trichotomy n 0 with h | h | h
  · obtain ⟨m, rfl⟩ : ∃ m : Nat, n = -(m : Int) := ⟨n.natAbs, by omega⟩
    have q := decimal_neg m (by omega) (by omega) w
    unfold Lib.itoa
    rw [if_pos h, show (-(m : Int)).natAbs = m by omega]
    exact q
  · subst h
    have q := decimal_zero w
    rw [show (Lib.itoa 0) = [48] by unfold Lib.itoa; rw [if_neg (by decide), Lib.decDigits, dif_pos (by decide)]; rfl]
    exact q
  · obtain ⟨m, rfl⟩ : ∃ m : Nat, n = (m : Int) := ⟨n.toNat, by omega⟩
    have q := decimal_pos m (by omega) (by omega) w
    unfold Lib.itoa
    rw [if_neg (by omega), show ((m : Int)).toNat = m by omega]
    exact q

end Go.Proofs.YtbojmcopagbheaaGreatDoor
end

section
namespace Go.Proofs.YtbojmcopagbheaaGreatDoor
open Go.RowKit
attribute [local go_sem ↓] Go.wp_at_zero Go.wp_at_succ

theorem take_map {α β : Type} (f : α → β) (l : List α) (i : Nat) (d : α) (h : i < l.length) : (l.take (i + 1)).map f = (l.take i).map f ++ [f (l.getD i d)] := by
  rw [List.take_add_one, List.getElem?_eq_getElem h, List.map_append, List.getD_eq_getElem?_getD, List.getElem?_eq_getElem h]
  rfl
set_option maxHeartbeats 4000000 in
set_option maxRecDepth 100000 in
theorem refFormatTask_any (B : Nat) (m le re : Int) (xs : List Int) (A : Option Addr) (n c : Nat) (w : World) (hn : xs.length = n) (hr : IntsIn B w A xs) (hB : B ≤ w.heap.size) (hm : n ≤ 20)
    (i1 : I64 m) (i2 : I64 le) (i3 : I64 re) (ia : ∀ x ∈ xs, I64 x) :
    Calls Tryz.prog 39 #[.agg #[.int .i64 m, .int .i64 le, .int .i64 re, .slice A n c]] w fun e w' => e = .returned (strV (fmtT m le re xs)) ∧ Below w.heap.size w w' := by
  obtain ⟨FT, hFT⟩ : ∃ FT, FT = fmtT m le re xs := ⟨_, rfl⟩
  rw [← hFT]
  have hz : fmtT m le re xs = ((((((Lib.itoa m) ++ [32]) ++ Lib.itoa le) ++ [32]) ++ Lib.itoa re) ++ [32]) ++ listedL (xs.map Lib.itoa) := by unfold fmtT; simp [Lib.join]
  rw [hz] at hFT
  have HFT := Lib.hid hFT
  clear hFT
  have HD := Lib.hid (fun k (hk : I64 k) w' => refDecimal_any k hk.1 hk.2 w')
  have HLs := Lib.hid (show ∀ x ∈ xs.map Lib.itoa, x.length ≤ 21 from fun x hx => by
    obtain ⟨k, hk, rfl⟩ := List.mem_map.1 hx
    exact itoa_len (ia k hk).1 (ia k hk).2)
  have HA := Lib.hid ia
  have HR := Lib.hid hr
  have HN := Lib.hid hn
  have hxs : xs.length ≤ 20 := by omega
  clear ia hr hn hz
  go_enter Tryz.func39, Tryz.ntmps39
  go_wp2
  go_loopw [3, 4] (fun sv iv wr => ∃ i : Nat, sv = strV (listedL ((xs.take i).map Lib.itoa)) ∧ iv = .int .i64 (i : Int) ∧ i ≤ n ∧ Blk wr w.heap.size 41 #[.int .i64 m, .int .i64 le, .int .i64 re, .slice A n c] ∧ Below w.heap.size w wr) (fun _ iv _ => n - (intOf iv).toNat)
  case atStart => exact ⟨0, rfl, rfl, Nat.zero_le _, Blk.new w _ _, pa pr⟩
  case round =>
    obtain ⟨i, rfl, rfl, hin, hk, hq⟩ := hrel
    have HQ := Lib.hid hq
    have n0 : (0 : Int) ≤ (i : Int) := by omega
    have k3 := hk.cellAt 3 rfl
    have kl := hk.lt
    clear hq
    by_cases hlt : i < n
    · have n1 : (i : Int) < (n : Int) := by omega
      have hlx : i < xs.length := by have := HN.out; omega
      obtain ⟨b, off, rfl, hb, hc⟩ := HR.out.at_ hlx
      have hcell : wr.cell? ⟨b, off + i, none⟩ = some (.int .i64 (xs.getD i 0)) := ((bcell HQ.out).1 b _ (by omega)).trans (hc i hlx)
      have e1 : IntKind.i64.wrap ((i : Int) + 1) = (i : Int) + 1 := IntWalk.i64_in _ (by omega)
      have hX : I64 (xs.getD i 0) := HA.out _ (by rw [List.getD_eq_getElem?_getD, List.getElem?_eq_getElem hlx]; exact List.getElem_mem hlx)
      have HX := Lib.hid hX
      have hxl := itoa_len hX.1 hX.2
      have hll := listed_len ((xs.take i).map Lib.itoa) 21 (fun x hx => HLs.out x (List.mem_of_mem_take (by rw [List.map_take] at hx; exact hx)))
      have hll : (listedL ((xs.take i).map Lib.itoa)).length ≤ 441 := by
        have : ((xs.take i).map Lib.itoa).length ≤ 20 := by simp; omega
        omega
      have hT := take_map Lib.itoa xs i 0 hlx
      clear hX hc
      by_cases h0 : i = 0
      · subst h0
        have HT := Lib.hid (show listedL ((xs.take (0 + 1)).map Lib.itoa) = Lib.itoa (xs.getD 0 0) by rw [hT]; exact listedL_one _)
        have hcell0 : wr.cell? ⟨b, off, none⟩ = some (.int .i64 (xs.getD 0 0)) := hcell
        clear hT hll hcell
        generalize xs.getD 0 0 = x at *
        go_wp2_with (go_at_call 81; (with_reducible refine (HD.out _ HX.out _).mono ?_); rintro e w1 ⟨rfl, hb1⟩; have HK1 := Lib.hid (hk.past hb1); have HQ1 := Lib.hid (pt HQ.out hb1); clear hb1)
        go_roundw
        case rel => exact ⟨0 + 1, by rw [HT.out], by go_num, by omega, HK1.out, HQ1.out⟩
        case measure => simp [intOf]; omega
      · have hne : (xs.take i).map Lib.itoa ≠ [] := by
          intro e
          have := congrArg List.length e
          rw [List.length_map, List.length_take, List.length_nil] at this
          omega
        have hz0 : ((i : Int) == 0) = false := by simp; omega
        have HT := Lib.hid (show listedL ((xs.take (i + 1)).map Lib.itoa) = (listedL ((xs.take i).map Lib.itoa) ++ [44]) ++ Lib.itoa (xs.getD i 0) by rw [hT, listedL_snoc _ hne]; simp)
        clear hT h0 hne
        generalize listedL ((xs.take i).map Lib.itoa) = S at *
        generalize xs.getD i 0 = x at *
        have f1 := add_list S [44] (by simp; omega)
        have f2 := add_list (S ++ [44]) (Lib.itoa x) (by simp; omega)
        generalize (S ++ [44]) ++ Lib.itoa x = X2 at *
        generalize S ++ [44] = X1 at *
        go_wp2_with (go_at_call 81; (with_reducible refine (HD.out _ HX.out _).mono ?_); rintro e w1 ⟨rfl, hb1⟩; have HK1 := Lib.hid (hk.past hb1); have HQ1 := Lib.hid (pt HQ.out hb1); clear hb1)
        go_roundw
        case rel => exact ⟨i + 1, by rw [HT.out], by go_num, by omega, HK1.out, HQ1.out⟩
        case measure => simp [intOf]; omega
    · have hie : i = n := by omega
      subst hie
      have hT : (xs.take i).map Lib.itoa = xs.map Lib.itoa := by rw [List.take_of_length_le (by have := HN.out; omega)]
      rw [hT]
      have l1 := itoa_len i1.1 i1.2
      have l2 := itoa_len i2.1 i2.2
      have l3 := itoa_len i3.1 i3.2
      have l4 := listed_len _ 21 HLs.out
      rw [List.length_map] at l4
      have k0 := hk.cellAt 0 rfl
      have k1 := hk.cellAt 1 rfl
      have k2 := hk.cellAt 2 rfl
      have H1 := Lib.hid (HD.out m i1)
      have H2 := Lib.hid (HD.out le i2)
      have H3 := Lib.hid (HD.out re i3)
      clear hT HD HA HR HN HLs i1 i2 i3 hlt
      generalize listedL (xs.map Lib.itoa) = L4 at *
      generalize Lib.itoa m = L1 at *
      generalize Lib.itoa le = L2 at *
      generalize Lib.itoa re = L3 at *
      have f1 := add_list (L1) [32] (by simp; omega)
      have f2 := add_list ((L1) ++ [32]) L2 (by simp; omega)
      have f3 := add_list (((L1) ++ [32]) ++ L2) [32] (by simp; omega)
      have f4 := add_list ((((L1) ++ [32]) ++ L2) ++ [32]) L3 (by simp; omega)
      have f5 := add_list (((((L1) ++ [32]) ++ L2) ++ [32]) ++ L3) [32] (by simp; omega)
      have f6 := add_list ((((((L1) ++ [32]) ++ L2) ++ [32]) ++ L3) ++ [32]) L4 (by simp; omega)
      generalize ((((((L1) ++ [32]) ++ L2) ++ [32]) ++ L3) ++ [32]) ++ L4 = X6 at *
      generalize (((((L1) ++ [32]) ++ L2) ++ [32]) ++ L3) ++ [32] = X5 at *
      generalize ((((L1) ++ [32]) ++ L2) ++ [32]) ++ L3 = X4 at *
      generalize (((L1) ++ [32]) ++ L2) ++ [32] = X3 at *
      generalize ((L1) ++ [32]) ++ L2 = X2 at *
      generalize (L1) ++ [32] = X1 at *
      clear l1 l2 l3 l4
      go_wp2
      refine region_below 16 follows_mixed (by kernel_rfl) ?_
      intro C hC
      simp only [List.take_succ_cons, List.take_zero, List.drop_succ_cons, List.drop_zero]
      repeat (first
        | ((with_reducible refine quiet_plain rfl (fun K hK => ?_)); (focus (apply quiet_val; (focus (intro w' hw; obtain ⟨hcq, hfq⟩ := bcell ((hC.out _).1 hw); go_simp; (first | done | rfl | (with_reducible exact call_below hC hw (H1.out _)) | (with_reducible exact call_below hC hw (H2.out _)) | (with_reducible exact call_below hC hw (H3.out _))))); (simp only [Act.put, List.setIfInBounds_toArray, List.set_cons_succ, List.set_cons_zero]); (with_reducible refine hK _ ?_); clear hK K)))
        | ((with_reducible refine quiet_skip ?_ ?_); (focus (first | (simp [Region.wanted, yielded]; done) | (simp [Region.wanted, yielded, undef]; done))); simp only [Act.put, List.setIfInBounds_toArray, List.set_cons_succ, List.set_cons_zero])
        | ((with_reducible refine quiet_go ?_ (fun K hK => ?_)); (focus (first | (simp [Region.wanted, yielded]; done) | (simp [Region.wanted, yielded, undef]; done))); (focus (apply quiet_val; (focus (intro w' hw; obtain ⟨hcq, hfq⟩ := bcell ((hC.out _).1 hw); go_simp; (first | done | rfl | (with_reducible exact call_below hC hw (H1.out _)) | (with_reducible exact call_below hC hw (H2.out _)) | (with_reducible exact call_below hC hw (H3.out _))))); (simp only [Act.put, List.setIfInBounds_toArray, List.set_cons_succ, List.set_cons_zero]); (with_reducible refine hK _ ?_); clear hK K))))
      refine wpQuiet_nil ?_
      intro w1 hb1
      replace hb1 := (hC.out _).1 hb1
      clear hC C
      obtain ⟨hc1, hf1⟩ := bcell hb1
      go_wp2
      go_ret
      exact ⟨by rw [HFT.out]; rfl, pt HQ.out hb1⟩

end Go.Proofs.YtbojmcopagbheaaGreatDoor
end
