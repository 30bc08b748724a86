/- Contract of the specification's Decimal: the decimal numeral of a number. Numbers of an int.
Contract of the specification's Decimal, whole. -/
import Derived.Test.YtccpkheiokjcdaaGreatDoorO1
import Derived.Test.YtccpkheiokjcdaaGreatDoorKASize
import Derived.Lib.ItoaLen
import Derived.Deep.DrawnRows
import Derived.Laws.IdiomStrings

section
namespace Go.Proofs.YtccpkheiokjcdaaGreatDoor
open Go.RowKit
attribute [local go_sem ↓] Go.wp_at_zero Go.wp_at_succ

theorem decLoop_len (u : Nat) : ∀ s, s.length ≤ (decLoop u s).length := by
  induction u using Nat.strongRecOn with
  | _ u ih =>
    intro s
    rw [decLoop]
    split
    · exact Nat.le_refl _
    · have := ih (u / 10) (by omega) (UInt8.ofNat (48 + u % 10) :: s)
      rw [List.length_cons] at this
      omega
theorem bytes_cons (u : UInt8) (S : List UInt8) : (⟨#[u]⟩ : ByteArray) ++ (⟨S.toArray⟩ : ByteArray) = ⟨(u :: S).toArray⟩ := by
  apply ByteArray.ext
  simp
theorem bytes_nil (S : List UInt8) : (⟨#[]⟩ : ByteArray) ++ (⟨S.toArray⟩ : ByteArray) = ⟨S.toArray⟩ := by
  apply ByteArray.ext
  simp
theorem conv_gen (w : World) (T : TypeId) (x : Int) (u : UInt8) (hx : x = (u.toNat : Int)) : (convert 101 9 (.slice (some ⟨w.heap.size, 0, none⟩) 1 1)).run Tryz.prog (w.alloc (.cells #[.int .u8 x] T)) = .ok (.string ⟨#[u]⟩) (w.alloc (.cells #[.int .u8 x] T)) := by
  subst hx
  have hs : Tryz.prog.underlying 101 = some (.slice 5) := by kernel_rfl
  have he : Tryz.prog.underlying 5 = some (.int .u8) := by kernel_rfl
  have hd : Tryz.prog.underlying 9 = some .string := by kernel_rfl
  exact run_convert_bytes_back (P := Tryz.prog) _ _ _ _ ⟨w.heap.size, 0, none⟩ 1 [u] hs he hd (fun j hj => by
    have : j = 0 := by simpa using hj
    subst this
    exact (Blk.new w T #[.int .u8 (u.toNat : Int)]).cellAt 0 rfl)

set_option maxHeartbeats 4000000 in
set_option maxRecDepth 100000 in
theorem decimal_pos (n : Nat) (h1 : 1 ≤ n) (hn : n ≤ 9223372036854775807) (w : World) :
    Calls Tryz.prog 27 #[.int .i64 (n : Int)] w fun e w' => e = .returned (.string ⟨(Lib.decDigits n).toArray⟩) ∧ Below w.heap.size w w' := by
  have hlen : (Lib.decDigits n).length ≤ 20 := by
    have h := Lib.itoa_length_le (-(n : Int)) (by omega) (by omega)
    unfold Lib.itoa at h
    rw [if_pos (by omega)] at h
    simp at h
    omega
  have hdl := decLoop_eq n [] h1
  rw [List.append_nil] at hdl
  have HL := Lib.hid hlen
  have HD := Lib.hid hdl
  have n0 : ¬ (n : Int) = 0 := by omega
  have n1 : ((n : Int) == 0) = false := by simp; omega
  have n2 : (0 : Int) ≤ (n : Int) := by omega
  have n3 : (1 : Int) ≤ (n : Int) := by omega
  have n7 : ¬ (n : Int) < 0 := by omega
  clear hlen hdl
  go_enter Tryz.func27, Tryz.ntmps27
  go_wp2
  go_loopw [0, 3] (fun nv sv wr => ∃ (u : Nat) (s : List UInt8), nv = .int .i64 (u : Int) ∧ sv = .string ⟨s.toArray⟩ ∧ decLoop u s = Lib.decDigits n ∧ u ≤ 9223372036854775807 ∧ Below w.heap.size w wr) (fun nv _ _ => (intOf nv).natAbs)
  case atStart => exact ⟨n, [], rfl, rfl, HD.out, hn, pr⟩
  case round =>
    obtain ⟨u, s, rfl, rfl, hd, hu, hq⟩ := hrel
    have hsl : s.length ≤ 20 := by
      have := decLoop_len u s
      rw [hd] at this
      have := HL.out
      omega
    have HDr := Lib.hid hd
    have HQ := Lib.hid hq
    clear hd hq n0 n1
    by_cases h0 : u = 0
    · subst h0
      have HRes := Lib.hid (show s = Lib.decDigits n from by rw [← HDr.out, decLoop, dif_pos rfl])
      have hadd := fun w => run_string_add_sum (P := Tryz.prog) w (⟨#[]⟩ : ByteArray) (⟨s.toArray⟩ : ByteArray) (by simp [ByteArray.size]; omega)
      go_wp2
      go_ret
      refine ⟨?_, HQ.out⟩
      rw [← HRes.out]
      show Ending.returned (Value.string ((⟨#[]⟩ : ByteArray) ++ ⟨s.toArray⟩)) = _
      rw [bytes_nil]
    · have u1 : (1 : Int) ≤ (u : Int) := by omega
      have v0 : ¬ (u : Int) = 0 := by omega
      have v1 : ((u : Int) != 0) = true := by simp; omega
      have hc10 : u % 10 < 10 := Nat.mod_lt _ (by decide)
      have e1 : ((u : Int)).tmod 10 = ((u % 10 : Nat) : Int) := by first | (rw [Int.neg_tmod, Int.ofNat_tmod]; rfl) | rfl
      have e4 : ((u : Int)).tdiv 10 = ((u / 10 : Nat) : Int) := by first | (rw [Int.neg_tdiv, Int.ofNat_tdiv]; rfl) | rfl
      have e5 : IntKind.i64.wrap ((u / 10 : Nat) : Int) = ((u / 10 : Nat) : Int) := IntWalk.i64_in _ (by omega)
      have HSz := sizeS_any ((u % 10 : Nat) : Int) (by unfold Sm; omega)
      rw [show ((((u % 10 : Nat) : Int)).natAbs : Int) = ((u % 10 : Nat) : Int) by omega] at HSz
      have HNext := Lib.hid (show decLoop (u / 10) (UInt8.ofNat (48 + u % 10) :: s) = Lib.decDigits n from by rw [← HDr.out, decLoop.eq_1 u, dif_neg h0])
      have hx : (48 : Int) + ((u % 10 : Nat) : Int) = ((UInt8.ofNat (48 + u % 10)).toNat : Int) := by rw [ofNat_digit hc10]; omega
      have hcv := conv_gen wr 5 (48 + ((u % 10 : Nat) : Int)) (UInt8.ofNat (48 + u % 10)) hx
      have hadd := fun w => run_string_add_sum (P := Tryz.prog) w (⟨#[UInt8.ofNat (48 + u % 10)]⟩ : ByteArray) (⟨s.toArray⟩ : ByteArray) (by simp [ByteArray.size]; omega)
      have e2 : IntKind.i64.wrap (48 + ((u % 10 : Nat) : Int)) = 48 + ((u % 10 : Nat) : Int) := IntWalk.i64_in _ (by omega)
      have e3 : IntKind.u8.wrap (48 + ((u % 10 : Nat) : Int)) = 48 + ((u % 10 : Nat) : Int) := IntWalk.u8_in _ (by omega)
      have huq : u / 10 < u := by omega
      have HS := Lib.hid HSz
      clear HSz hx
      generalize UInt8.ofNat (48 + u % 10) = b at *
      generalize hm : u % 10 = m at *
      generalize hqq : u / 10 = q at *
      clear hm
      have HX := Lib.hid hqq
      clear hqq
      go_wp2_with (go_at_call 57; (with_reducible refine (HS.out _).mono ?_); rintro e w' ⟨rfl, rfl⟩)
      go_roundw
      case rel => exact ⟨q, b :: s, by go_num, by rw [bytes_cons], HNext.out, by omega, pa HQ.out⟩
      case measure => simp [intOf]; omega
set_option maxHeartbeats 4000000 in
set_option maxRecDepth 100000 in
theorem decimal_neg (n : Nat) (h1 : 1 ≤ n) (hn : n ≤ 9223372036854775808) (w : World) :
    Calls Tryz.prog 27 #[.int .i64 (-(n : Int))] w fun e w' => e = .returned (.string ⟨((45 :: Lib.decDigits n)).toArray⟩) ∧ Below w.heap.size w w' := by
  have hlen : (Lib.decDigits n).length ≤ 20 := by
    have h := Lib.itoa_length_le (-(n : Int)) (by omega) (by omega)
    unfold Lib.itoa at h
    rw [if_pos (by omega)] at h
    simp at h
    omega
  have hdl := decLoop_eq n [] h1
  rw [List.append_nil] at hdl
  have HL := Lib.hid hlen
  have HD := Lib.hid hdl
  have n0 : ¬ (-(n : Int)) = 0 := by omega
  have n1 : ((-(n : Int)) == 0) = false := by simp; omega
  have n2 : (0 : Int) ≤ (n : Int) := by omega
  have n3 : (1 : Int) ≤ (n : Int) := by omega
  have n7 : 0 < n := by omega
  clear hlen hdl
  go_enter Tryz.func27, Tryz.ntmps27
  go_wp2
  go_loopw [0, 3] (fun nv sv wr => ∃ (u : Nat) (s : List UInt8), nv = .int .i64 (-(u : Int)) ∧ sv = .string ⟨s.toArray⟩ ∧ decLoop u s = Lib.decDigits n ∧ u ≤ 9223372036854775808 ∧ Below w.heap.size w wr) (fun nv _ _ => (intOf nv).natAbs)
  case atStart => exact ⟨n, [], rfl, rfl, HD.out, hn, pr⟩
  case round =>
    obtain ⟨u, s, rfl, rfl, hd, hu, hq⟩ := hrel
    have hsl : s.length ≤ 20 := by
      have := decLoop_len u s
      rw [hd] at this
      have := HL.out
      omega
    have HDr := Lib.hid hd
    have HQ := Lib.hid hq
    clear hd hq n0 n1
    by_cases h0 : u = 0
    · subst h0
      have HRes := Lib.hid (show s = Lib.decDigits n from by rw [← HDr.out, decLoop, dif_pos rfl])
      have hadd := fun w => run_string_add_sum (P := Tryz.prog) w (⟨#[45]⟩ : ByteArray) (⟨s.toArray⟩ : ByteArray) (by simp [ByteArray.size]; omega)
      go_wp2
      go_ret
      refine ⟨?_, HQ.out⟩
      rw [← HRes.out]
      show Ending.returned (Value.string ((⟨#[45]⟩ : ByteArray) ++ ⟨s.toArray⟩)) = _
      rw [bytes_cons]
    · have u1 : (1 : Int) ≤ (u : Int) := by omega
      have v0 : ¬ (-(u : Int)) = 0 := by omega
      have v1 : ((-(u : Int)) != 0) = true := by simp; omega
      have hc10 : u % 10 < 10 := Nat.mod_lt _ (by decide)
      have e1 : ((-(u : Int))).tmod 10 = (-((u % 10 : Nat) : Int)) := by first | (rw [Int.neg_tmod, Int.ofNat_tmod]; rfl) | rfl
      have e4 : ((-(u : Int))).tdiv 10 = (-((u / 10 : Nat) : Int)) := by first | (rw [Int.neg_tdiv, Int.ofNat_tdiv]; rfl) | rfl
      have e5 : IntKind.i64.wrap (-((u / 10 : Nat) : Int)) = (-((u / 10 : Nat) : Int)) := IntWalk.i64_in _ (by omega)
      have HSz := sizeS_any (-((u % 10 : Nat) : Int)) (by unfold Sm; omega)
      rw [show (((-((u % 10 : Nat) : Int))).natAbs : Int) = ((u % 10 : Nat) : Int) by omega] at HSz
      have HNext := Lib.hid (show decLoop (u / 10) (UInt8.ofNat (48 + u % 10) :: s) = Lib.decDigits n from by rw [← HDr.out, decLoop.eq_1 u, dif_neg h0])
      have hx : (48 : Int) + ((u % 10 : Nat) : Int) = ((UInt8.ofNat (48 + u % 10)).toNat : Int) := by rw [ofNat_digit hc10]; omega
      have hcv := conv_gen wr 5 (48 + ((u % 10 : Nat) : Int)) (UInt8.ofNat (48 + u % 10)) hx
      have hadd := fun w => run_string_add_sum (P := Tryz.prog) w (⟨#[UInt8.ofNat (48 + u % 10)]⟩ : ByteArray) (⟨s.toArray⟩ : ByteArray) (by simp [ByteArray.size]; omega)
      have e2 : IntKind.i64.wrap (48 + ((u % 10 : Nat) : Int)) = 48 + ((u % 10 : Nat) : Int) := IntWalk.i64_in _ (by omega)
      have e3 : IntKind.u8.wrap (48 + ((u % 10 : Nat) : Int)) = 48 + ((u % 10 : Nat) : Int) := IntWalk.u8_in _ (by omega)
      have huq : u / 10 < u := by omega
      have HS := Lib.hid HSz
      clear HSz hx
      generalize UInt8.ofNat (48 + u % 10) = b at *
      generalize hm : u % 10 = m at *
      generalize hqq : u / 10 = q at *
      clear hm
      have HX := Lib.hid hqq
      clear hqq
      go_wp2_with (go_at_call 57; (with_reducible refine (HS.out _).mono ?_); rintro e w' ⟨rfl, rfl⟩)
      go_roundw
      case rel => exact ⟨q, b :: s, by go_num, by rw [bytes_cons], HNext.out, by omega, pa HQ.out⟩
      case measure => simp [intOf]; omega

end Go.Proofs.YtccpkheiokjcdaaGreatDoor
end

section
namespace Go.Proofs.YtccpkheiokjcdaaGreatDoor
open Go.RowKit
attribute [local go_sem ↓] Go.wp_at_zero Go.wp_at_succ

theorem decimal_zero (w : World) : Calls Tryz.prog 27 #[.int .i64 0] w fun e w' => e = .returned (.string ⟨#[48]⟩) ∧ Below w.heap.size w w' := by
  go_enter Tryz.func27, Tryz.ntmps27
  go_wp2
  go_ret
  exact ⟨rfl, pr⟩
theorem refDecimal_any (n : Int) (h0 : -9223372036854775808 ≤ n) (h1 : n ≤ 9223372036854775807) (w : World) :
    Calls Tryz.prog 27 #[.int .i64 n] w fun e w' => e = .returned (.string ⟨(Lib.itoa n).toArray⟩) ∧ Below w.heap.size w w' := by
  rcases Int.lt_trichotomy n 0 with h | h | h
  · obtain ⟨m, rfl⟩ : ∃ m : Nat, n = -(m : Int) := ⟨n.natAbs, by omega⟩
    have q := decimal_neg m (by omega) (by omega) w
    unfold Lib.itoa
    rw [if_pos h, show (-(m : Int)).natAbs = m by omega]
    exact q
  · subst h
    have q := decimal_zero w
    rw [show (Lib.itoa 0) = [48] by unfold Lib.itoa; rw [if_neg (by decide), Lib.decDigits, dif_pos (by decide)]; rfl]
    exact q
  · obtain ⟨m, rfl⟩ : ∃ m : Nat, n = (m : Int) := ⟨n.toNat, by omega⟩
    have q := decimal_pos m (by omega) (by omega) w
    unfold Lib.itoa
    rw [if_neg (by omega), show ((m : Int)).toNat = m by omega]
    exact q

end Go.Proofs.YtccpkheiokjcdaaGreatDoor
end
