/- The walk of TopWorksDried: it returns true. Printed by a program (gen_topdried.py). -/
import Derived.Test.YtbojmcopagbheaaGreatDoorYSPre
import Derived.Deep.DeepCutAuto
namespace Go.Proofs.YtbojmcopagbheaaGreatDoor
open Go.RowKit
attribute [local go_sem ↓] Go.wp_at_zero Go.wp_at_succ
theorem on1 {i n : Nat} (h : i < n) (h1 : n ≤ 5) : i ≤ 4 := by omega
theorem on2 {n : Nat} (h : ¬ 0 < n) : ((n : Int) == 0) = true := by rw [beq_iff_eq]; omega
theorem on3 {n : Nat} (h : 0 < n) : ((n : Int) == 0) = false := beq_eq_false_iff_ne.2 (by omega)
theorem on4 {a b : Int} (h : ¬ ¬ a < b) : a < b := by omega
theorem on5 {m ov : Int} (h : m < ov) (h1 : 0 ≤ m) (h2 : ov ≤ 2) : 0 ≤ m ∧ m ≤ 1 := by omega
theorem on6 {n : Nat} (h : ¬ 60 < (n : Int)) : 1 ≤ (n : Int) + 1 ∧ (n : Int) + 1 ≤ 61 := by omega
theorem on7 {i : Nat} (h : i ≤ 4) : 0 ≤ (i : Int) ∧ (i : Int) ≤ 4 := by omega
theorem on8 {a b : Int} (h : 0 ≤ b ∧ b ≤ 1000000) (g : 0 ≤ a ∧ a ≤ 1000000) : IntKind.i64.wrap (b - a) = b - a ∧ IntKind.i64.wrap (b - a + 1) = b - a + 1 := ⟨IntWalk.i64_in _ (by omega), IntWalk.i64_in _ (by omega)⟩
theorem on9 {a b num : Int} (h : a ≤ b) (g : 0 ≤ a) (l : b ≤ 1000000) : 0 ≤ num % (b - a + 1) ∧ num % (b - a + 1) ≤ b - a ∧ 1 ≤ b - a + 1 ∧ b - a + 1 ≤ 1000000000000 := by
  have r0 := Int.emod_nonneg num (b := b - a + 1) (by omega)
  have r1 := Int.emod_lt_of_pos num (b := b - a + 1) (by omega)
  omega
theorem on10 {a b r : Int} (r0 : 0 ≤ r) (r1 : r ≤ b - a) (g : 0 ≤ a) (l : b ≤ 1000000) : IntKind.i64.wrap (a + r) = a + r := IntWalk.i64_in _ (by omega)
theorem on11 {a b r t : Int} (ht : t = a + r) (r0 : 0 ≤ r) (r1 : r ≤ b - a) (g : 0 ≤ a) (l : b ≤ 1000000) : 0 ≤ t ∧ t ≤ 1000000 ∧ t ≤ b := by omega
theorem on12 {k n : Nat} : ((k : Int) % (n : Int)) = ((k % n : Nat) : Int) := by omega
theorem on13 {n : Nat} (h : 0 < n) : ¬ (n : Int) = 0 ∧ ¬ (n : Int) = -1 := by omega
theorem on14 {a b r t : Int} (ht : t = a + r) (r0 : 0 ≤ r) (r1 : r ≤ b - a) (l : b ≤ 1000) : a ≤ t ∧ t ≤ 1000 := by omega
theorem on15 {u fl : Int} (h : fl < u) (h0 : 0 ≤ fl) (h1 : u ≤ 1000000) : IntKind.i64.wrap (u - fl) = u - fl := IntWalk.i64_in _ (by omega)
theorem on16 {z : Int} (h0 : 0 ≤ z) (h1 : z ≤ 1000000000) : IntKind.i64.wrap z = z := IntWalk.i64_in _ (by omega)
theorem on17 {u fl : Int} (h : ¬ fl < u) : u ≤ fl := by omega
theorem on18 {k n : Nat} (h : k ≤ n) (g : ¬ k < n) : k = n := by omega
theorem on19 {t u z : Int} (h : z ≤ t) (g : u ≤ z) : ¬ t < u := by omega
theorem on20 {a b : Nat} (h : a ≤ 5) (g : b ≤ a) : b ≤ 7 := by omega
theorem on21 {k : Nat} (h : ¬ k = 0) : ((k : Int) == 0) = false := beq_eq_false_iff_ne.2 (by omega)
theorem on22 {a b : Int} (h : a ≤ b) : ¬ b < a := by omega
theorem on23 {i : Nat} (h : i ≤ 4) : i + 1 ≤ maxLen ∧ (i + 1) * 48 ≤ 140737488355328 := ⟨by simp only [maxLen]; omega, by omega⟩
theorem on24 {j k : Nat} (h : j < 5) (g : k ≤ j) : k + 1 ≤ maxLen ∧ (k + 1) * 8 ≤ 140737488355328 := ⟨by simp only [maxLen]; omega, by omega⟩
theorem on25 {n : Nat} (h : ¬ 60 < (n : Int)) : IntKind.i64.wrap ((n : Int) + 1) = (n : Int) + 1 := IntWalk.i64_in _ (by omega)
theorem on26 {a : Int} (h : 0 ≤ a) (h1 : a ≤ 1000) : I64 a := by unfold I64; omega
theorem on27 {k j : Nat} (h : k ≤ j) (g : j < 5) : k ≤ 5 := by omega
theorem on29 {z : Nat} (h : z ≤ 120) : IntKind.i64.wrap (z : Int) = (z : Int) ∧ RowKit.wrap64 (z : Int) = (z : Int) ∧ -9223372036854775808 ≤ (z : Int) :=
  have w : IntKind.i64.wrap (z : Int) = (z : Int) := IntWalk.i64_in _ (by omega)
  ⟨w, (IntWalk.i64_left _).symm.trans w, by omega⟩
theorem on30 {r k : Nat} (h : r ≤ 120) : RowKit.wrap64 (Int.tdiv (r : Int) (k : Int)) = ((r / k : Nat) : Int) ∧ IntKind.i64.wrap (Int.tdiv (r : Int) (k : Int)) = ((r / k : Nat) : Int) ∧ IntKind.i64.wrap ((r / k : Nat) : Int) = ((r / k : Nat) : Int) ∧
    RowKit.wrap64 (Int.tmod (r : Int) (k : Int)) = ((r % k : Nat) : Int) ∧ IntKind.i64.wrap (Int.tmod (r : Int) (k : Int)) = ((r % k : Nat) : Int) ∧ IntKind.i64.wrap ((r % k : Nat) : Int) = ((r % k : Nat) : Int) ∧ RowKit.wrap64 ((r % k : Nat) : Int) = ((r % k : Nat) : Int) ∧ -9223372036854775808 ≤ ((r / k : Nat) : Int) := by
  have e1 : Int.tdiv (r : Int) (k : Int) = ((r / k : Nat) : Int) := rfl
  have e2 : Int.tmod (r : Int) (k : Int) = ((r % k : Nat) : Int) := rfl
  obtain ⟨a1, a2, a3⟩ := on29 (Nat.le_trans (Nat.div_le_self r k) h)
  obtain ⟨b1, b2, _⟩ := on29 (Nat.le_trans (Nat.mod_le r k) h)
  rw [e1, e2]
  exact ⟨a2, a1, a1, b2, b1, b1, b2, a3⟩
theorem on28 {j n : Nat} (h : j < n) : n - ((j + 1 : Nat) : Int).toNat < n - (j : Int).toNat := by omega

set_option maxHeartbeats 16000000 in
set_option maxRecDepth 100000 in
theorem td_empty (A : Option Addr) (c : Nat) (xs : List Load) (ov : Int) (w : World) (hS : StrIn w) (hr : LoadsIn w.heap.size w A xs) (hcap : xs.length ≤ c) (h0 : xs.length = 0) :
    Calls Tryz.prog 3 #[.slice A xs.length c, .int .i64 ov] w fun e w' => e = .returned (.bool true) ∧ Below w.heap.size w w' := by
  have HBx := Lib.hid (Below.refl w.heap.size w)
  have e1 : ((xs.length : Int) == 0) = true := by simp [h0]
  go_enter Tryz.func3, Tryz.ntmps3
  go_wp2_with (first
    | (go_at_call 7; (with_reducible refine (shown_any _).mono ?_); rintro e w1 ⟨rfl, hb⟩; replace HBx := Lib.hid (pt HBx.out hb); clear hb))
  go_ret
  exact ⟨rfl, HBx.out⟩

set_option maxHeartbeats 16000000 in
set_option maxRecDepth 100000 in
theorem td_many (A : Option Addr) (c : Nat) (xs : List Load) (ov : Int) (w : World) (hS : StrIn w) (hr : LoadsIn w.heap.size w A xs) (hcap : xs.length ≤ c) (h0 : 5 < xs.length) :
    Calls Tryz.prog 3 #[.slice A xs.length c, .int .i64 ov] w fun e w' => e = .returned (.bool true) ∧ Below w.heap.size w w' := by
  have HBx := Lib.hid (Below.refl w.heap.size w)
  have e1 : ((xs.length : Int) == 0) = false := beq_eq_false_iff_ne.2 (by omega)
  have e2 : (5 : Int) < (xs.length : Int) := by omega
  go_enter Tryz.func3, Tryz.ntmps3
  go_wp2_with (first
    | (go_at_call 7; (with_reducible refine (shown_any _).mono ?_); rintro e w1 ⟨rfl, hb⟩; replace HBx := Lib.hid (pt HBx.out hb); clear hb))
  go_ret
  exact ⟨rfl, HBx.out⟩

set_option maxHeartbeats 16000000 in
set_option maxRecDepth 100000 in
theorem td_ov (A : Option Addr) (c : Nat) (xs : List Load) (ov : Int) (w : World) (hS : StrIn w) (hr : LoadsIn w.heap.size w A xs) (hcap : xs.length ≤ c) (h0 : 0 < xs.length) (h1 : xs.length ≤ 5) (h2 : withinB ov 1 2 = false) :
    Calls Tryz.prog 3 #[.slice A xs.length c, .int .i64 ov] w fun e w' => e = .returned (.bool true) ∧ Below w.heap.size w w' := by
  have HBx := Lib.hid (Below.refl w.heap.size w)
  have e1 : ((xs.length : Int) == 0) = false := beq_eq_false_iff_ne.2 (by omega)
  have e2 : ¬ (5 : Int) < (xs.length : Int) := by omega
  go_enter Tryz.func3, Tryz.ntmps3
  go_wp2_with (first
    | (go_at_call 7; (with_reducible refine (shown_any _).mono ?_); rintro e w1 ⟨rfl, hb⟩; replace HBx := Lib.hid (pt HBx.out hb); clear hb)
    | (go_at_call 8; (with_reducible refine (baseWithin_any _ _ _ _).mono ?_); rintro e w' ⟨rfl, rfl⟩))
  go_ret
  exact ⟨rfl, HBx.out⟩

set_option maxHeartbeats 16000000 in
set_option maxRecDepth 100000 in
theorem td_main (A : Option Addr) (c : Nat) (xs : List Load) (ov : Int) (w : World) (hS : StrIn w) (hr : LoadsIn w.heap.size w A xs) (hcap : xs.length ≤ c) (h0 : 0 < xs.length) (h1 : xs.length ≤ 5) (h2 : withinB ov 1 2 = true) :
    Calls Tryz.prog 3 #[.slice A xs.length c, .int .i64 ov] w fun e w' => e = .returned (.bool true) ∧ Below w.heap.size w w' := by
  have HBx := Lib.hid (Below.refl w.heap.size w)
  have e1 : ((xs.length : Int) == 0) = false := beq_eq_false_iff_ne.2 (by omega)
  have e2 : ¬ (5 : Int) < (xs.length : Int) := by omega
  obtain ⟨v1, v2⟩ := dr_ov h2
  have HR := Lib.hid hr
  have HSt := Lib.hid (fun W (hW : Below w.heap.size w W) => hS.kept hW)
  obtain ⟨i0, hi0, hz0, hz1, hz2⟩ := info_parts task_info
  obtain ⟨i1, hi1, hy0, hy1, hy2⟩ := info_parts int_info
  have o1 : (ov == 0) = false := beq_eq_false_iff_ne.2 (by omega)
  have o2 : ¬ ov = 0 := by omega
  have o3 : ¬ ov = -1 := by omega
  clear hr hS
  go_enter Tryz.func3, Tryz.ntmps3
  go_wp2_with (first
    | (go_at_call 7; (with_reducible refine (shown_any _).mono ?_); rintro e w1 ⟨rfl, hb⟩; replace HBx := Lib.hid (pt HBx.out hb); clear hb)
    | (go_at_call 8; (with_reducible refine (baseWithin_any _ _ _ _).mono ?_); rintro e w' ⟨rfl, rfl⟩))
  go_loopw [6] (fun iv wr => ∃ (i : Nat) (A' : Option Addr) (c' : Nat) (us : List Value), iv = .int .i64 (i : Int) ∧ i ≤ xs.length ∧ (∀ j, j < i → 0 ≤ stepsN (xs.getD j default) ∧ stepsN (xs.getD j default) ≤ 60) ∧ Blk wr w1.heap.size 27 #[.int .i64 ov, .slice A' i c'] ∧ wr.ownsRow w1.heap.size 41 4 (.slice A' i c') i us ∧ TaskRow wr us (loadTs ov xs i) ∧ Below w1.heap.size w1 wr) (fun iv _ => xs.length - (intOf iv).toNat)
  case atStart => exact ⟨0, none, 0, [], rfl, Nat.zero_le _, (fun j h => absurd h (Nat.not_lt_zero _)), Blk.newAt rfl, World.ownsRow_nil _ _ _ _, TaskRow.nil, pa pr⟩
  case round =>
    as_aux_lemma =>
    obtain ⟨i, A', c', us, rfl, hi, hst, hP, hown, hrow, hq⟩ := hrel
    have HQ := Lib.hid hq
    have HQw := Lib.hid (show Below w.heap.size w wr from pt HBx.out hq)
    have HP := Lib.hid hP
    have HOwn := Lib.hid hown
    have HRow := Lib.hid hrow
    have HSt_ := Lib.hid hst
    have n0 : (0 : Int) ≤ (i : Int) := nn_cast i
    have g1w : w1.heap.size < wr.heap.size := hP.lt
    clear hP hown hrow hst hq
    by_cases hlt : i < xs.length
    · obtain ⟨b, off, hA, hbB, hct⟩ := (HR.out.below HQw.out).at_ hlt
      subst hA
      obtain ⟨t0, t1, t2, t3, t4, t5, t6, A3, c3, t7, tr, tl⟩ := hct i hlt
      have hwwr : w.heap.size ≤ wr.heap.size := HQw.out.size
      have hbw : b < wr.heap.size := Nat.lt_of_lt_of_le hbB hwwr
      have n1 : (i : Int) < (xs.length : Int) := lt_cast hlt
      have hi4 : i ≤ 4 := on1 hlt h1
      have HStep := Lib.hid (show loadTs ov xs (i + 1) = loadTs ov xs i ++ [⟨(i : Int).tmod ov, stepsN (xs.getD i default) + 1, (i : Int), []⟩] from loadTs_succ ov xs i)
      have HBnd := Lib.hid (show 0 ≤ stepsN (xs.getD i default) → stepsN (xs.getD i default) ≤ 60 → ∀ j, j < i + 1 → 0 ≤ stepsN (xs.getD j default) ∧ stepsN (xs.getD j default) ≤ 60 from fun h1 h2 j hj => by
        rcases Nat.lt_or_ge j i with h | h
        · exact HSt_.out j h
        · obtain rfl : j = i := eq_last hj h
          exact ⟨h1, h2⟩)
      clear hct
      generalize xs.getD i default = x at *
      obtain ⟨rlo, rhi, fl, wlo, whi, tgt, num, rates⟩ := x
      have u0 : wr.cell? ⟨b, off + i * 8, none⟩ = some (.int .i64 rlo) := t0
      have u1 : wr.cell? ⟨b, off + i * 8 + 1, none⟩ = some (.int .i64 rhi) := t1
      have u2 : wr.cell? ⟨b, off + i * 8 + 2, none⟩ = some (.int .i64 fl) := t2
      have u3_ : wr.cell? ⟨b, off + i * 8 + 3, none⟩ = some (.int .i64 wlo) := t3
      have u4_ : wr.cell? ⟨b, off + i * 8 + 4, none⟩ = some (.int .i64 whi) := t4
      have u5_ : wr.cell? ⟨b, off + i * 8 + 5, none⟩ = some (.int .i64 tgt) := t5
      have u6_ : wr.cell? ⟨b, off + i * 8 + 6, none⟩ = some (.int .i64 num) := t6
      have u7_ : wr.cell? ⟨b, off + i * 8 + 7, none⟩ = some (.slice A3 rates.length c3) := t7
      have HTr := Lib.hid (show IntsIn w.heap.size w A3 rates from tr.keep fun b o hb => ((bcell HQw.out).1 b o hb).symm)
      have HTl := Lib.hid (show rates.length ≤ maxLen from tl)
      have HOv := Lib.hid fun W => refOvenErr_any rlo rhi fl W
      have HWa := Lib.hid fun W => refWaterErr_any wlo whi W
      clear t0 t1 t2 t3 t4 t5 t6 t7 tr tl
      by_cases q1 : ovenE rlo rhi fl = 0
      case neg =>
        have q1b : (ovenE rlo rhi fl != 0) = true := by simpa using q1
        generalize ovenE rlo rhi fl = E at *
        go_wp2_with (first
          | (go_at_call 9; (with_reducible refine (HOv.out _).mono ?_); rintro e w1_ ⟨rfl, h1_⟩; have X_1 : Blk w1_ (wr.heap.size) 34 #[.int .i64 rlo, .int .i64 rhi, .int .i64 fl, .int .i64 wlo, .int .i64 whi, .int .i64 tgt, .int .i64 num, .slice A3 rates.length c3] := (Blk.newAt (by simp)).past h1_; have S_1 := pt (pa (pr)) h1_; have Xc0 := X_1.cellAt 0 rfl; have Xc1 := X_1.cellAt 1 rfl; have Xc2 := X_1.cellAt 2 rfl; have Xc3 := X_1.cellAt 3 rfl; have Xc4 := X_1.cellAt 4 rfl; have Xc5 := X_1.cellAt 5 rfl; have Xc6 := X_1.cellAt 6 rfl; have Xc7 := X_1.cellAt 7 rfl; have Xl := X_1.lt; clear h1_))
        go_ret
        exact ⟨rfl, pt HQw.out (S_1)⟩
      rw [q1] at HOv
      by_cases q2 : rangeErrV waterB wlo whi = 0
      case neg =>
        have q2b : (rangeErrV waterB wlo whi != 0) = true := by simpa using q2
        generalize rangeErrV waterB wlo whi = E at *
        go_wp2_with (first
          | (go_at_call 9; (with_reducible refine (HOv.out _).mono ?_); rintro e w1_ ⟨rfl, h1_⟩; have X_1 : Blk w1_ (wr.heap.size) 34 #[.int .i64 rlo, .int .i64 rhi, .int .i64 fl, .int .i64 wlo, .int .i64 whi, .int .i64 tgt, .int .i64 num, .slice A3 rates.length c3] := (Blk.newAt (by simp)).past h1_; have S_1 := pt (pa (pr)) h1_; have Xc0 := X_1.cellAt 0 rfl; have Xc1 := X_1.cellAt 1 rfl; have Xc2 := X_1.cellAt 2 rfl; have Xc3 := X_1.cellAt 3 rfl; have Xc4 := X_1.cellAt 4 rfl; have Xc5 := X_1.cellAt 5 rfl; have Xc6 := X_1.cellAt 6 rfl; have Xc7 := X_1.cellAt 7 rfl; have Xl := X_1.lt; clear h1_)
          | (go_at_call 10; (with_reducible refine (HWa.out _).mono ?_); rintro e w2_ ⟨rfl, h2_⟩; have X_2 : Blk w2_ (wr.heap.size) 34 #[.int .i64 rlo, .int .i64 rhi, .int .i64 fl, .int .i64 wlo, .int .i64 whi, .int .i64 tgt, .int .i64 num, .slice A3 rates.length c3] := (X_1).past h2_; have S_2 := pt (S_1) h2_; clear X_1 S_1 Xc0 Xc1 Xc2 Xc3 Xc4 Xc5 Xc6 Xc7 Xl; have Xc0 := X_2.cellAt 0 rfl; have Xc1 := X_2.cellAt 1 rfl; have Xc2 := X_2.cellAt 2 rfl; have Xc3 := X_2.cellAt 3 rfl; have Xc4 := X_2.cellAt 4 rfl; have Xc5 := X_2.cellAt 5 rfl; have Xc6 := X_2.cellAt 6 rfl; have Xc7 := X_2.cellAt 7 rfl; have Xl := X_2.lt; clear h2_))
        go_ret
        exact ⟨rfl, pt HQw.out (S_2)⟩
      rw [q2] at HWa
      by_cases q3 : withinB tgt 0 1000000 = true
      case neg =>
        have q3b : withinB tgt 0 1000000 = false := by simpa using q3
        go_wp2_with (first
          | (go_at_call 9; (with_reducible refine (HOv.out _).mono ?_); rintro e w1_ ⟨rfl, h1_⟩; have X_1 : Blk w1_ (wr.heap.size) 34 #[.int .i64 rlo, .int .i64 rhi, .int .i64 fl, .int .i64 wlo, .int .i64 whi, .int .i64 tgt, .int .i64 num, .slice A3 rates.length c3] := (Blk.newAt (by simp)).past h1_; have S_1 := pt (pa (pr)) h1_; have Xc0 := X_1.cellAt 0 rfl; have Xc1 := X_1.cellAt 1 rfl; have Xc2 := X_1.cellAt 2 rfl; have Xc3 := X_1.cellAt 3 rfl; have Xc4 := X_1.cellAt 4 rfl; have Xc5 := X_1.cellAt 5 rfl; have Xc6 := X_1.cellAt 6 rfl; have Xc7 := X_1.cellAt 7 rfl; have Xl := X_1.lt; clear h1_)
          | (go_at_call 10; (with_reducible refine (HWa.out _).mono ?_); rintro e w2_ ⟨rfl, h2_⟩; have X_2 : Blk w2_ (wr.heap.size) 34 #[.int .i64 rlo, .int .i64 rhi, .int .i64 fl, .int .i64 wlo, .int .i64 whi, .int .i64 tgt, .int .i64 num, .slice A3 rates.length c3] := (X_1).past h2_; have S_2 := pt (S_1) h2_; clear X_1 S_1 Xc0 Xc1 Xc2 Xc3 Xc4 Xc5 Xc6 Xc7 Xl; have Xc0 := X_2.cellAt 0 rfl; have Xc1 := X_2.cellAt 1 rfl; have Xc2 := X_2.cellAt 2 rfl; have Xc3 := X_2.cellAt 3 rfl; have Xc4 := X_2.cellAt 4 rfl; have Xc5 := X_2.cellAt 5 rfl; have Xc6 := X_2.cellAt 6 rfl; have Xc7 := X_2.cellAt 7 rfl; have Xl := X_2.lt; clear h2_)
          | (go_at_call 8; (with_reducible refine (baseWithin_any _ _ _ _).mono ?_); rintro e w' ⟨rfl, rfl⟩))
        go_ret
        exact ⟨rfl, pt HQw.out (S_2)⟩
      by_cases q4 : 0 < rates.length
      case neg =>
        have q4b : ((rates.length : Int) == 0) = true := on2 q4
        go_wp2_with (first
          | (go_at_call 9; (with_reducible refine (HOv.out _).mono ?_); rintro e w1_ ⟨rfl, h1_⟩; have X_1 : Blk w1_ (wr.heap.size) 34 #[.int .i64 rlo, .int .i64 rhi, .int .i64 fl, .int .i64 wlo, .int .i64 whi, .int .i64 tgt, .int .i64 num, .slice A3 rates.length c3] := (Blk.newAt (by simp)).past h1_; have S_1 := pt (pa (pr)) h1_; have Xc0 := X_1.cellAt 0 rfl; have Xc1 := X_1.cellAt 1 rfl; have Xc2 := X_1.cellAt 2 rfl; have Xc3 := X_1.cellAt 3 rfl; have Xc4 := X_1.cellAt 4 rfl; have Xc5 := X_1.cellAt 5 rfl; have Xc6 := X_1.cellAt 6 rfl; have Xc7 := X_1.cellAt 7 rfl; have Xl := X_1.lt; clear h1_)
          | (go_at_call 10; (with_reducible refine (HWa.out _).mono ?_); rintro e w2_ ⟨rfl, h2_⟩; have X_2 : Blk w2_ (wr.heap.size) 34 #[.int .i64 rlo, .int .i64 rhi, .int .i64 fl, .int .i64 wlo, .int .i64 whi, .int .i64 tgt, .int .i64 num, .slice A3 rates.length c3] := (X_1).past h2_; have S_2 := pt (S_1) h2_; clear X_1 S_1 Xc0 Xc1 Xc2 Xc3 Xc4 Xc5 Xc6 Xc7 Xl; have Xc0 := X_2.cellAt 0 rfl; have Xc1 := X_2.cellAt 1 rfl; have Xc2 := X_2.cellAt 2 rfl; have Xc3 := X_2.cellAt 3 rfl; have Xc4 := X_2.cellAt 4 rfl; have Xc5 := X_2.cellAt 5 rfl; have Xc6 := X_2.cellAt 6 rfl; have Xc7 := X_2.cellAt 7 rfl; have Xl := X_2.lt; clear h2_)
          | (go_at_call 8; (with_reducible refine (baseWithin_any _ _ _ _).mono ?_); rintro e w' ⟨rfl, rfl⟩))
        go_ret
        exact ⟨rfl, pt HQw.out (S_2)⟩
      have q4b : ((rates.length : Int) == 0) = false := on3 q4
      by_cases q5 : ¬ 20 < (rates.length : Int)
      case neg =>
        have q5b : 20 < (rates.length : Int) := on4 q5
        go_wp2_with (first
          | (go_at_call 9; (with_reducible refine (HOv.out _).mono ?_); rintro e w1_ ⟨rfl, h1_⟩; have X_1 : Blk w1_ (wr.heap.size) 34 #[.int .i64 rlo, .int .i64 rhi, .int .i64 fl, .int .i64 wlo, .int .i64 whi, .int .i64 tgt, .int .i64 num, .slice A3 rates.length c3] := (Blk.newAt (by simp)).past h1_; have S_1 := pt (pa (pr)) h1_; have Xc0 := X_1.cellAt 0 rfl; have Xc1 := X_1.cellAt 1 rfl; have Xc2 := X_1.cellAt 2 rfl; have Xc3 := X_1.cellAt 3 rfl; have Xc4 := X_1.cellAt 4 rfl; have Xc5 := X_1.cellAt 5 rfl; have Xc6 := X_1.cellAt 6 rfl; have Xc7 := X_1.cellAt 7 rfl; have Xl := X_1.lt; clear h1_)
          | (go_at_call 10; (with_reducible refine (HWa.out _).mono ?_); rintro e w2_ ⟨rfl, h2_⟩; have X_2 : Blk w2_ (wr.heap.size) 34 #[.int .i64 rlo, .int .i64 rhi, .int .i64 fl, .int .i64 wlo, .int .i64 whi, .int .i64 tgt, .int .i64 num, .slice A3 rates.length c3] := (X_1).past h2_; have S_2 := pt (S_1) h2_; clear X_1 S_1 Xc0 Xc1 Xc2 Xc3 Xc4 Xc5 Xc6 Xc7 Xl; have Xc0 := X_2.cellAt 0 rfl; have Xc1 := X_2.cellAt 1 rfl; have Xc2 := X_2.cellAt 2 rfl; have Xc3 := X_2.cellAt 3 rfl; have Xc4 := X_2.cellAt 4 rfl; have Xc5 := X_2.cellAt 5 rfl; have Xc6 := X_2.cellAt 6 rfl; have Xc7 := X_2.cellAt 7 rfl; have Xl := X_2.lt; clear h2_)
          | (go_at_call 8; (with_reducible refine (baseWithin_any _ _ _ _).mono ?_); rintro e w' ⟨rfl, rfl⟩))
        go_ret
        exact ⟨rfl, pt HQw.out (S_2)⟩
      obtain ⟨y1, y2, y3, y4, y5, y6, y7⟩ := dr_oven q1
      obtain ⟨z1, z2, z3, z4, z5⟩ := dr_water q2
      have HStp := Lib.hid fun W => stepsFor_ok rlo rhi fl wlo whi tgt W (dr_steps q1 q2 q3) y1 y2 y3 y4 z3 z4
      have HLow := Lib.hid fun k => steps_low (x := ⟨rlo, rhi, fl, wlo, whi, tgt, num, rates⟩) (k := k)
      have HN := Lib.hid (show stepsN ⟨rlo, rhi, fl, wlo, whi, tgt, num, rates⟩ = optN (stepsO rlo fl whi tgt) from rfl)
      cases hO : stepsO rlo fl whi tgt with
      | none =>
        rw [hO] at HStp
        have HStp := Lib.hid (show ∀ W, Calls Tryz.prog 11 #[.agg #[.int .i64 rlo, .int .i64 rhi, .int .i64 fl], .agg #[.int .i64 wlo, .int .i64 whi], .int .i64 tgt] W fun r w' => r = .returned (.tuple #[.int .i64 0, .int .i64 12]) ∧ Below W.heap.size W w' from HStp.out)
        go_wp2_with (first
          | (go_at_call 9; (with_reducible refine (HOv.out _).mono ?_); rintro e w1_ ⟨rfl, h1_⟩; have X_1 : Blk w1_ (wr.heap.size) 34 #[.int .i64 rlo, .int .i64 rhi, .int .i64 fl, .int .i64 wlo, .int .i64 whi, .int .i64 tgt, .int .i64 num, .slice A3 rates.length c3] := (Blk.newAt (by simp)).past h1_; have S_1 := pt (pa (pr)) h1_; have Xc0 := X_1.cellAt 0 rfl; have Xc1 := X_1.cellAt 1 rfl; have Xc2 := X_1.cellAt 2 rfl; have Xc3 := X_1.cellAt 3 rfl; have Xc4 := X_1.cellAt 4 rfl; have Xc5 := X_1.cellAt 5 rfl; have Xc6 := X_1.cellAt 6 rfl; have Xc7 := X_1.cellAt 7 rfl; have Xl := X_1.lt; clear h1_)
          | (go_at_call 10; (with_reducible refine (HWa.out _).mono ?_); rintro e w2_ ⟨rfl, h2_⟩; have X_2 : Blk w2_ (wr.heap.size) 34 #[.int .i64 rlo, .int .i64 rhi, .int .i64 fl, .int .i64 wlo, .int .i64 whi, .int .i64 tgt, .int .i64 num, .slice A3 rates.length c3] := (X_1).past h2_; have S_2 := pt (S_1) h2_; clear X_1 S_1 Xc0 Xc1 Xc2 Xc3 Xc4 Xc5 Xc6 Xc7 Xl; have Xc0 := X_2.cellAt 0 rfl; have Xc1 := X_2.cellAt 1 rfl; have Xc2 := X_2.cellAt 2 rfl; have Xc3 := X_2.cellAt 3 rfl; have Xc4 := X_2.cellAt 4 rfl; have Xc5 := X_2.cellAt 5 rfl; have Xc6 := X_2.cellAt 6 rfl; have Xc7 := X_2.cellAt 7 rfl; have Xl := X_2.lt; clear h2_)
          | (go_at_call 8; (with_reducible refine (baseWithin_any _ _ _ _).mono ?_); rintro e w' ⟨rfl, rfl⟩)
          | (go_at_call 11; (with_reducible refine (HStp.out _).mono ?_); rintro e w4_ ⟨rfl, h4_⟩; have X_4 : Blk w4_ (wr.heap.size) 34 #[.int .i64 rlo, .int .i64 rhi, .int .i64 fl, .int .i64 wlo, .int .i64 whi, .int .i64 tgt, .int .i64 num, .slice A3 rates.length c3] := (X_2).past h4_; have S_4 := pt (S_2) h4_; clear X_2 S_2 Xc0 Xc1 Xc2 Xc3 Xc4 Xc5 Xc6 Xc7 Xl; have Xc0 := X_4.cellAt 0 rfl; have Xc1 := X_4.cellAt 1 rfl; have Xc2 := X_4.cellAt 2 rfl; have Xc3 := X_4.cellAt 3 rfl; have Xc4 := X_4.cellAt 4 rfl; have Xc5 := X_4.cellAt 5 rfl; have Xc6 := X_4.cellAt 6 rfl; have Xc7 := X_4.cellAt 7 rfl; have Xl := X_4.lt; clear h4_))
        go_ret
        exact ⟨rfl, pt HQw.out (S_4)⟩
      | some n =>
        rw [hO] at HStp HN
        have HStp := Lib.hid (show ∀ W, Calls Tryz.prog 11 #[.agg #[.int .i64 rlo, .int .i64 rhi, .int .i64 fl], .agg #[.int .i64 wlo, .int .i64 whi], .int .i64 tgt] W fun r w' => r = .returned (.tuple #[.int .i64 (n : Int), .int .i64 0]) ∧ Below W.heap.size W w' from HStp.out)
        have HN := Lib.hid (show stepsN ⟨rlo, rhi, fl, wlo, whi, tgt, num, rates⟩ = (n : Int) from HN.out)
        have HLow := Lib.hid (show hiN rlo fl whi n ≤ tgt from HLow.out n hO)
        have HStep := Lib.hid (show loadTs ov xs (i + 1) = loadTs ov xs i ++ [⟨(i : Int).tmod ov, (n : Int) + 1, (i : Int), []⟩] from by rw [HStep.out, HN.out])
        by_cases q6 : ¬ 60 < (n : Int)
        case neg =>
          have q6b : 60 < (n : Int) := on4 q6
          go_wp2_with (first
            | (go_at_call 9; (with_reducible refine (HOv.out _).mono ?_); rintro e w1_ ⟨rfl, h1_⟩; have X_1 : Blk w1_ (wr.heap.size) 34 #[.int .i64 rlo, .int .i64 rhi, .int .i64 fl, .int .i64 wlo, .int .i64 whi, .int .i64 tgt, .int .i64 num, .slice A3 rates.length c3] := (Blk.newAt (by simp)).past h1_; have S_1 := pt (pa (pr)) h1_; have Xc0 := X_1.cellAt 0 rfl; have Xc1 := X_1.cellAt 1 rfl; have Xc2 := X_1.cellAt 2 rfl; have Xc3 := X_1.cellAt 3 rfl; have Xc4 := X_1.cellAt 4 rfl; have Xc5 := X_1.cellAt 5 rfl; have Xc6 := X_1.cellAt 6 rfl; have Xc7 := X_1.cellAt 7 rfl; have Xl := X_1.lt; clear h1_)
            | (go_at_call 10; (with_reducible refine (HWa.out _).mono ?_); rintro e w2_ ⟨rfl, h2_⟩; have X_2 : Blk w2_ (wr.heap.size) 34 #[.int .i64 rlo, .int .i64 rhi, .int .i64 fl, .int .i64 wlo, .int .i64 whi, .int .i64 tgt, .int .i64 num, .slice A3 rates.length c3] := (X_1).past h2_; have S_2 := pt (S_1) h2_; clear X_1 S_1 Xc0 Xc1 Xc2 Xc3 Xc4 Xc5 Xc6 Xc7 Xl; have Xc0 := X_2.cellAt 0 rfl; have Xc1 := X_2.cellAt 1 rfl; have Xc2 := X_2.cellAt 2 rfl; have Xc3 := X_2.cellAt 3 rfl; have Xc4 := X_2.cellAt 4 rfl; have Xc5 := X_2.cellAt 5 rfl; have Xc6 := X_2.cellAt 6 rfl; have Xc7 := X_2.cellAt 7 rfl; have Xl := X_2.lt; clear h2_)
            | (go_at_call 8; (with_reducible refine (baseWithin_any _ _ _ _).mono ?_); rintro e w' ⟨rfl, rfl⟩)
            | (go_at_call 11; (with_reducible refine (HStp.out _).mono ?_); rintro e w4_ ⟨rfl, h4_⟩; have X_4 : Blk w4_ (wr.heap.size) 34 #[.int .i64 rlo, .int .i64 rhi, .int .i64 fl, .int .i64 wlo, .int .i64 whi, .int .i64 tgt, .int .i64 num, .slice A3 rates.length c3] := (X_2).past h4_; have S_4 := pt (S_2) h4_; clear X_2 S_2 Xc0 Xc1 Xc2 Xc3 Xc4 Xc5 Xc6 Xc7 Xl; have Xc0 := X_4.cellAt 0 rfl; have Xc1 := X_4.cellAt 1 rfl; have Xc2 := X_4.cellAt 2 rfl; have Xc3 := X_4.cellAt 3 rfl; have Xc4 := X_4.cellAt 4 rfl; have Xc5 := X_4.cellAt 5 rfl; have Xc6 := X_4.cellAt 6 rfl; have Xc7 := X_4.cellAt 7 rfl; have Xl := X_4.lt; clear h4_))
          go_ret
          exact ⟨rfl, pt HQw.out (S_4)⟩
        have q7 : ¬ (n : Int) < 0 := Int.not_lt.2 (nn_cast n)
        have HBnd := Lib.hid (HBnd.out (by rw [HN.out]; exact nn_cast n) (by rw [HN.out]; exact Int.not_lt.1 q6))
        obtain ⟨m0, m1⟩ := tmod_bd v1 i
        have hM0 : (i : Int).tmod ov = (i : Int) % ov := Int.tmod_eq_emod_of_nonneg n0
        rw [hM0] at m0 m1
        have HStep := Lib.hid (show loadTs ov xs (i + 1) = loadTs ov xs i ++ [⟨(i : Int) % ov, (n : Int) + 1, (i : Int), []⟩] from by rw [HStep.out, hM0])
        have HM0 := Lib.hid hM0
        clear hM0
        have hM1 := load_task (m := (i : Int) % ov) (le := (n : Int) + 1) (re := (i : Int)) (on5 m1 m0 v2) (on6 q6) (on7 hi4)
        have hM2 := load_len (m := (i : Int) % ov) (le := (n : Int) + 1) (re := (i : Int)) (on5 m1 m0 v2) (on6 q6) (on7 hi4)
        have e5 : IntKind.i64.wrap ((n : Int) + 1) = (n : Int) + 1 := on25 q6
        have hF := fun W hS' => FormatTask_any W.heap.size ⟨(i : Int) % ov, (n : Int) + 1, (i : Int), []⟩ none 0 0 W hS' rfl (.inl rfl) (Nat.le_refl _) (Nat.zero_le _) (on26 (on5 m1 m0 v2).1 (Int.le_trans (on5 m1 m0 v2).2 (by decide))) (on26 (Int.le_trans (by decide) (on6 q6).1) (Int.le_trans (on6 q6).2 (by decide))) (on26 (on7 hi4).1 (Int.le_trans (on7 hi4).2 (by decide))) (fun x hx => by cases hx)
        have HF := Lib.hid (show ∀ W, StrIn W → Calls Tryz.prog 13 #[.agg #[.int .i64 ((i : Int) % ov), .int .i64 ((n : Int) + 1), .int .i64 (i : Int), .slice none 0 0]] W fun e w' => e = .returned (.string ⟨(fmtT ((i : Int) % ov) ((n : Int) + 1) (i : Int) []).toArray⟩) ∧ Below W.heap.size W w' from hF)
        have hP2 := fun W hS' => ParseTask_any (fmtT ((i : Int) % ov) ((n : Int) + 1) (i : Int) []) hM2 W hS'
        rw [hM1] at hP2
        have HPt := Lib.hid (show ∀ W, StrIn W → Calls Tryz.prog 12 #[.string ⟨(fmtT ((i : Int) % ov) ((n : Int) + 1) (i : Int) []).toArray⟩] W fun e w' => ∃ A c, e = .returned (.tuple #[.agg #[.int .i64 ((i : Int) % ov), .int .i64 ((n : Int) + 1), .int .i64 (i : Int), .slice A 0 c], .int .i64 0]) ∧ Below W.heap.size W w' from fun W hW => (hP2 W hW).mono fun e w' ⟨A, c, q1, _, _, q2⟩ => ⟨A, c, q1, q2⟩)
        have HS2 := Lib.hid (fun W (hW : Below wr.heap.size wr W) => HSt.out W (pt HQw.out hW))
        generalize fmtT ((i : Int) % ov) ((n : Int) + 1) (i : Int) [] = Sg at *
        clear hF hP2 hM1 hM2
        go_wp2_with (first
          | (go_at_call 9; (with_reducible refine (HOv.out _).mono ?_); rintro e w1_ ⟨rfl, h1_⟩; have X_1 : Blk w1_ (wr.heap.size) 34 #[.int .i64 rlo, .int .i64 rhi, .int .i64 fl, .int .i64 wlo, .int .i64 whi, .int .i64 tgt, .int .i64 num, .slice A3 rates.length c3] := (Blk.newAt (by simp)).past h1_; have S_1 := pt (pa (pr)) h1_; have Xc0 := X_1.cellAt 0 rfl; have Xc1 := X_1.cellAt 1 rfl; have Xc2 := X_1.cellAt 2 rfl; have Xc3 := X_1.cellAt 3 rfl; have Xc4 := X_1.cellAt 4 rfl; have Xc5 := X_1.cellAt 5 rfl; have Xc6 := X_1.cellAt 6 rfl; have Xc7 := X_1.cellAt 7 rfl; have Xl := X_1.lt; clear h1_)
          | (go_at_call 10; (with_reducible refine (HWa.out _).mono ?_); rintro e w2_ ⟨rfl, h2_⟩; have X_2 : Blk w2_ (wr.heap.size) 34 #[.int .i64 rlo, .int .i64 rhi, .int .i64 fl, .int .i64 wlo, .int .i64 whi, .int .i64 tgt, .int .i64 num, .slice A3 rates.length c3] := (X_1).past h2_; have S_2 := pt (S_1) h2_; clear X_1 S_1 Xc0 Xc1 Xc2 Xc3 Xc4 Xc5 Xc6 Xc7 Xl; have Xc0 := X_2.cellAt 0 rfl; have Xc1 := X_2.cellAt 1 rfl; have Xc2 := X_2.cellAt 2 rfl; have Xc3 := X_2.cellAt 3 rfl; have Xc4 := X_2.cellAt 4 rfl; have Xc5 := X_2.cellAt 5 rfl; have Xc6 := X_2.cellAt 6 rfl; have Xc7 := X_2.cellAt 7 rfl; have Xl := X_2.lt; clear h2_)
          | (go_at_call 8; (with_reducible refine (baseWithin_any _ _ _ _).mono ?_); rintro e w' ⟨rfl, rfl⟩)
          | (go_at_call 11; (with_reducible refine (HStp.out _).mono ?_); rintro e w4_ ⟨rfl, h4_⟩; have X_4 : Blk w4_ (wr.heap.size) 34 #[.int .i64 rlo, .int .i64 rhi, .int .i64 fl, .int .i64 wlo, .int .i64 whi, .int .i64 tgt, .int .i64 num, .slice A3 rates.length c3] := (X_2).past h4_; have S_4 := pt (S_2) h4_; clear X_2 S_2 Xc0 Xc1 Xc2 Xc3 Xc4 Xc5 Xc6 Xc7 Xl; have Xc0 := X_4.cellAt 0 rfl; have Xc1 := X_4.cellAt 1 rfl; have Xc2 := X_4.cellAt 2 rfl; have Xc3 := X_4.cellAt 3 rfl; have Xc4 := X_4.cellAt 4 rfl; have Xc5 := X_4.cellAt 5 rfl; have Xc6 := X_4.cellAt 6 rfl; have Xc7 := X_4.cellAt 7 rfl; have Xl := X_4.lt; clear h4_)
          | (go_at_call 13; (with_reducible refine (HF.out _ (HS2.out _ (S_4))).mono ?_); rintro e w5_ ⟨rfl, h5_⟩; have X_5 : Blk w5_ (wr.heap.size) 34 #[.int .i64 rlo, .int .i64 rhi, .int .i64 fl, .int .i64 wlo, .int .i64 whi, .int .i64 tgt, .int .i64 num, .slice A3 rates.length c3] := (X_4).past h5_; have S_5 := pt (S_4) h5_; clear X_4 S_4 Xc0 Xc1 Xc2 Xc3 Xc4 Xc5 Xc6 Xc7 Xl; clear h5_)
          | (go_at_call 12; (with_reducible refine (HPt.out _ (HS2.out _ (S_5))).mono ?_); rintro e w6_ ⟨A5, c5, rfl, h6_⟩; have X_6 : Blk w6_ (wr.heap.size) 34 #[.int .i64 rlo, .int .i64 rhi, .int .i64 fl, .int .i64 wlo, .int .i64 whi, .int .i64 tgt, .int .i64 num, .slice A3 rates.length c3] := (X_5).past h6_; have S_6 := pt (S_5) h6_; clear X_5 S_5; clear h6_))
        as_aux_lemma =>
        go_quiet (fail)
        have hb1 : Below (w6_.alloc (.cells #[.int .i64 ((i : Int) % ov), .int .i64 ((n : Int) + 1), .int .i64 (i : Int), .slice A5 0 c5] 41)).heap.size (w6_.alloc (.cells #[.int .i64 ((i : Int) % ov), .int .i64 ((n : Int) + 1), .int .i64 (i : Int), .slice A5 0 c5] 41)) ((w6_.alloc (.cells #[.int .i64 ((i : Int) % ov), .int .i64 ((n : Int) + 1), .int .i64 (i : Int), .slice A5 0 c5] 41)).drewN nq) := below_drewN' (Below.refl _ _) nq
        have X_7 : Blk ((w6_.alloc (.cells #[.int .i64 ((i : Int) % ov), .int .i64 ((n : Int) + 1), .int .i64 (i : Int), .slice A5 0 c5] 41)).drewN nq) (wr.heap.size) 34 #[.int .i64 rlo, .int .i64 rhi, .int .i64 fl, .int .i64 wlo, .int .i64 whi, .int .i64 tgt, .int .i64 num, .slice A3 rates.length c3] := (X_6.alloc).past hb1
        have T_7 : Blk ((w6_.alloc (.cells #[.int .i64 ((i : Int) % ov), .int .i64 ((n : Int) + 1), .int .i64 (i : Int), .slice A5 0 c5] 41)).drewN nq) (w6_.heap.size) 41 #[.int .i64 ((i : Int) % ov), .int .i64 ((n : Int) + 1), .int .i64 (i : Int), .slice A5 0 c5] := (Blk.newAt (by simp)).past hb1
        have S_7 := pt (pa (S_6)) hb1
        clear X_6 S_6
        clear hb1
        generalize (w6_.alloc (.cells #[.int .i64 ((i : Int) % ov), .int .i64 ((n : Int) + 1), .int .i64 (i : Int), .slice A5 0 c5] 41)).drewN nq = w7_ at *
        clear T_7
        as_aux_lemma =>
        go_wp2
        have hP7 := HP.out.past S_7
        have hX7 := X_7
        have hO7 := own_pastP S_7 HOwn.out
        have hR7 := HRow.out.same (NumRow.kept_below S_7)
        have hD7 : Below wr.heap.size wr w7_.drew := pd S_7
        as_aux_lemma =>
        refine wp_region_G 12 follows_mixed (fun W => W.cell? ⟨w1.heap.size, 1, none⟩ = some (.slice A' i c')) (hP7.drew.cellAt 1 rfl) ?_
        intro hSd inv
        have HSd := Lib.hid hSd
        clear hSd
        refine wpAnyG_take (i := 0) (v := ?_) rfl (by kernel_rfl) (by kernel_rfl) (by kernel_rfl) (by kernel_rfl) (by kernel_rfl) (by decide) (by decide) inv (fun _ _ _ h => h) (Or.inl ⟨by rfl, ?_⟩) HSd.out ?_; rotate_left; (focus (intro W y1; go_simp; (first | done | with_reducible rfl))); clear inv; intro inv; simp only [List.getElem_toArray, List.getElem_cons_zero, Act.put, List.setIfInBounds_toArray, List.set_cons_zero, List.set_cons_succ]
        refine wpAnyG_take (i := 1) (v := ?_) rfl (by kernel_rfl) (by kernel_rfl) (by kernel_rfl) (by kernel_rfl) (by kernel_rfl) (by decide) (by decide) inv (fun _ _ _ h => h) (Or.inl ⟨by rfl, ?_⟩) HSd.out ?_; rotate_left; (focus (intro W y1; go_simp; (first | done | with_reducible rfl))); clear inv; intro inv; simp only [List.getElem_toArray, List.getElem_cons_zero, List.getElem_cons_succ, Act.put, List.setIfInBounds_toArray, List.set_cons_zero, List.set_cons_succ]
        refine wpAnyG_take (i := 2) (v := ?_) rfl (by kernel_rfl) (by kernel_rfl) (by kernel_rfl) (by kernel_rfl) (by kernel_rfl) (by decide) (by decide) inv (fun _ _ _ h => h) (Or.inl ⟨by rfl, ?_⟩) HSd.out ?_; rotate_left; (focus (intro W y1; go_simp; (first | done | with_reducible rfl))); clear inv; intro inv; simp only [List.getElem_toArray, List.getElem_cons_zero, List.getElem_cons_succ, Act.put, List.setIfInBounds_toArray, List.set_cons_zero, List.set_cons_succ]
        refine wpAnyG_take (i := 3) (v := ?_) rfl (by kernel_rfl) (by kernel_rfl) (by kernel_rfl) (by kernel_rfl) (by kernel_rfl) (by decide) (by decide) inv (fun _ _ _ h => h) (Or.inl ⟨by rfl, ?_⟩) HSd.out ?_; rotate_left; (focus (intro W y1; go_simp; (first | done | with_reducible rfl))); clear inv; intro inv; simp only [List.getElem_toArray, List.getElem_cons_zero, List.getElem_cons_succ, Act.put, List.setIfInBounds_toArray, List.set_cons_zero, List.set_cons_succ]
        refine wpAnyG_take (i := 4) (v := ?_) rfl (by kernel_rfl) (by kernel_rfl) (by kernel_rfl) (by kernel_rfl) (by kernel_rfl) (by decide) (by decide) inv (fun _ _ _ h => h) (Or.inl ⟨by rfl, ?_⟩) HSd.out ?_; rotate_left; (focus (intro W y1; go_simp; (first | done | with_reducible rfl))); clear inv; intro inv; simp only [List.getElem_toArray, List.getElem_cons_zero, List.getElem_cons_succ, Act.put, List.setIfInBounds_toArray, List.set_cons_zero, List.set_cons_succ]
        refine wpAnyG_take (i := 5) (v := ?_) rfl (by kernel_rfl) (by kernel_rfl) (by kernel_rfl) (by kernel_rfl) (by kernel_rfl) (by decide) (by decide) inv (fun _ _ _ h => h) (Or.inl ⟨by rfl, ?_⟩) HSd.out ?_; rotate_left; (focus (intro W y1; go_simp; (first | done | with_reducible rfl))); clear inv; intro inv; simp only [List.getElem_toArray, List.getElem_cons_zero, List.getElem_cons_succ, Act.put, List.setIfInBounds_toArray, List.set_cons_zero, List.set_cons_succ]
        refine wpAnyG_take (i := 6) (v := ?_) rfl (by kernel_rfl) (by kernel_rfl) (by kernel_rfl) (by kernel_rfl) (by kernel_rfl) (by decide) (by decide) inv (fun _ _ _ h => h) (Or.inl ⟨by rfl, ?_⟩) HSd.out ?_; rotate_left; (focus (intro W y1; go_simp; (first | done | with_reducible rfl))); clear inv; intro inv; simp only [List.getElem_toArray, List.getElem_cons_zero, List.getElem_cons_succ, Act.put, List.setIfInBounds_toArray, List.set_cons_zero, List.set_cons_succ]
        refine wpAnyG_take (i := 7) (v := ?_) rfl (by kernel_rfl) (by kernel_rfl) (by kernel_rfl) (by kernel_rfl) (by kernel_rfl) (by decide) (by decide) inv (fun _ _ _ h => h) (Or.inl ⟨by rfl, ?_⟩) HSd.out ?_; rotate_left; (focus (intro W y1; go_simp; (first | done | with_reducible rfl))); clear inv; intro inv; simp only [List.getElem_toArray, List.getElem_cons_zero, List.getElem_cons_succ, Act.put, List.setIfInBounds_toArray, List.set_cons_zero, List.set_cons_succ]
        refine wpAnyG_take (i := 8) (v := ?_) rfl (by kernel_rfl) (by kernel_rfl) (by kernel_rfl) (by kernel_rfl) (by kernel_rfl) (by decide) (by decide) inv (fun _ _ _ h => h) (Or.inl ⟨by rfl, ?_⟩) HSd.out ?_; rotate_left; (focus (intro W y1; go_simp; (first | done | with_reducible rfl))); clear inv; intro inv; simp only [List.getElem_toArray, List.getElem_cons_zero, List.getElem_cons_succ, Act.put, List.setIfInBounds_toArray, List.set_cons_zero, List.set_cons_succ]
        clear inv
        rw [HM0.out]
        have hO8 := own_pastP (pd (Below.refl _ w7_)) hO7
        have hR8 := hR7.same (NumRow.kept_below (pd (Below.refl _ w7_)))
        have hP8 := hP7.drew
        have hX8 := hX7.drew
        clear hO7 hR7 hP7 hX7 S_7 X_7 HSd
        generalize w7_.drew = wd at *
        as_aux_lemma =>
        refine wpAnyG_one (i := 9) (by kernel_rfl) rfl rfl fun K hK => ?_
        go_simp
        have hO9 := hO8.alloc (.cells #[.int .i64 ((i : Int) % ov), .int .i64 ((n : Int) + 1), .int .i64 (i : Int), .slice none 0 0] 41)
        have hP9 := hP8.alloc (o := (.cells #[.int .i64 ((i : Int) % ov), .int .i64 ((n : Int) + 1), .int .i64 (i : Int), .slice none 0 0] 41))
        have hX9 := hX8.alloc (o := (.cells #[.int .i64 ((i : Int) % ov), .int .i64 ((n : Int) + 1), .int .i64 (i : Int), .slice none 0 0] 41))
        have hgw : wr.heap.size ≤ wd.heap.size := hD7.size
        have hR9 := hR8.put1 (m := (i : Int) % ov) (le := (n : Int) + 1) (re := (i : Int))
        refine hK.out _ _ (fun _ => hP9.cellAt 1 rfl) ?_
        clear hK K
        as_aux_lemma =>
        refine wpAnyG_one (i := 10) (by kernel_rfl) rfl rfl fun K hK => ?_
        refine wp_append_cells _ (.tmp 157) (.tmp 165) _ (by rfl) w1.heap.size 41 i0 _ 4 48 Tryz.underlying25 hi0 hz0 hz1 hz2 rfl (Nat.le_of_ble_eq_true rfl) (.slice A' i c') i us (by rfl) hO9 (wd.heap.size + 1) (some ⟨wd.heap.size, 0, none⟩) 1 1 [.int .i64 ((i : Int) % ov), .int .i64 ((n : Int) + 1), .int .i64 (i : Int), .slice none 0 0] (by rfl) (cellsIn_blk wd 41 #[.int .i64 ((i : Int) % ov), .int .i64 ((n : Int) + 1), .int .i64 (i : Int), .slice none 0 0]) rfl (by simp [Value.oneCell']) (on23 hi4).1 (on23 hi4).2 (pa (pt HQ.out hD7)).size ?_
        intro v3 w3 hown3 hg3 hat3
        obtain ⟨A4, c4, rfl, hc4, hm4⟩ := own_form hown3
        have hB3 : Below w1.heap.size w1 w3 := pg (pa (pt HQ.out hD7)) hO9 (Nat.le_refl _) hg3
        have hP3 := hP9.grown hg3 (own_apart hO9 hP9 (by decide))
        have hX3 := hX9.grown hg3 (own_apart hO9 hX9 (by decide))
        have hR3 := (hR9.same (NumRow.kept_below (pa (o := (.cells #[.int .i64 ((i : Int) % ov), .int .i64 ((n : Int) + 1), .int .i64 (i : Int), .slice none 0 0] 41)) (Below.refl _ wd)))).same (NumRow.kept_rows hO9 (by decide) hg3)
        refine hK.out _ _ (fun _ => hP3.cellAt 1 rfl) ?_
        clear hK K
        as_aux_lemma =>
        refine wpAnyG_one (i := 11) (by kernel_rfl) rfl rfl fun K hK => ?_
        go_simp
        refine hK.out _ _ (fun _ => hP3.cellAt 1 rfl) ?_
        clear hK K
        as_aux_lemma =>
        refine wpAnyG_one (i := 12) (by kernel_rfl) rfl rfl fun K hK => ?_
        have k1 : w3.cell? ⟨w1.heap.size, 1, none⟩ = some (.slice A' i c') := hP3.cellAt 1 rfl
        have k2 := hP3.frozen 1
        have k3 := hP3.lt
        go_simp
        refine hK.out _ _ (fun h => absurd h (by decide)) ?_
        clear hK K
        refine wpAnyG_done (by kernel_rfl) ?_
        clear HP HOwn HRow HQ
        have HP := Lib.hid (show Blk (w3.setCell ⟨w1.heap.size, 1, none⟩ (.slice A4 (i + 1) c4)) w1.heap.size 27 #[.int .i64 ov, .slice A4 (i + 1) c4] from hP3.set_ 1 (.slice A4 (i + 1) c4))
        have hX := hX3.far (p := ⟨w1.heap.size, 1, none⟩) (u := .slice A4 (i + 1) c4) (Nat.ne_of_gt g1w)
        have HOwn := Lib.hid (own_cell hown3 hP3 (by decide) (p := ⟨w1.heap.size, 1, none⟩) rfl (.slice A4 (i + 1) c4))
        have HRow := Lib.hid (hR3.same (NumRow.kept_cell hP3 (by decide) (p := ⟨w1.heap.size, 1, none⟩) rfl (.slice A4 (i + 1) c4)))
        have HQ := Lib.hid (ps hB3 (p := ⟨w1.heap.size, 1, none⟩) (u := .slice A4 (i + 1) c4) (Nat.le_refl _))
        clear hP3 hX3 hR3 hO9 hP9 hX9 hR9 hO8 hR8 hP8 hX8 hB3 hD7 hown3 hg3 hat3 k1 k2 k3
        generalize (w3.setCell ⟨w1.heap.size, 1, none⟩ (.slice A4 (i + 1) c4)) = wB at *
        obtain ⟨wo, rfl⟩ : ∃ v, v = wr := ⟨_, rfl⟩
        have d0 := hX.cellAt 3 rfl; have d1 := hX.cellAt 4 rfl; have d2 := hX.cellAt 6 rfl; have dl := hX.lt
        obtain ⟨f1, f2⟩ := on8 ⟨z3, z4⟩ ⟨z1, z2⟩
        obtain ⟨r0, r1, hm1, hm2⟩ := on9 (num := num) z5 z1 z4
        have HMd := Lib.hid (fun W => baseMod_int num (whi - wlo + 1) W hm1 hm2)
        clear hm1 hm2
        generalize num % (whi - wlo + 1) = r at *
        have f3 : IntKind.i64.wrap (wlo + r) = wlo + r := on10 r0 r1 z1 z4
        as_aux_lemma =>
        go_wp2
        as_aux_lemma =>
        go_quiet ((go_at_call 14; exact Calls.quiet_of_same ((HMd.out _).mono fun e w' h => ⟨h.1, h.2.symm⟩)))
        replace HQ := Lib.hid (show Below w1.heap.size w1 (wB.drewN nq) from below_drewN' HQ.out nq)
        have hbq : Below wB.heap.size wB (wB.drewN nq) := below_drewN' (Below.refl _ _) nq
        replace HP := Lib.hid (HP.out.past hbq)
        replace HOwn := Lib.hid (own_pastP hbq HOwn.out)
        replace HRow := Lib.hid (HRow.out.same (NumRow.kept_below hbq))
        have HX := Lib.hid (hX.past hbq)
        clear hbq hX d0 d1 d2 dl f1 f2 f3 HMd
        generalize wB.drewN nq = wC at *
        obtain ⟨wt, hwt⟩ : ∃ v, v = wlo + r := ⟨_, rfl⟩
        rw [← hwt]
        have HT0 := Lib.hid (show 0 ≤ wt ∧ wt ≤ 1000000 ∧ wt ≤ hiN rlo fl whi 0 from on11 hwt r0 r1 z1 z4)
        clear hwt r0 r1
        as_aux_lemma =>
        go_wp2
        go_loopw [12, 13] (fun tv kv wr => ∃ (k : Nat) (u : Int), tv = .int .i64 u ∧ kv = .int .i64 (k : Int) ∧ k ≤ n ∧ 0 ≤ u ∧ u ≤ 1000000 ∧ u ≤ hiN rlo fl whi k ∧ Below wC.heap.size wC wr) (fun _ kv _ => n - (intOf kv).toNat)
        case atStart => exact ⟨0, wt, rfl, rfl, Nat.zero_le _, HT0.out.1, HT0.out.2.1, HT0.out.2.2, pr⟩
        case round =>
          as_aux_lemma =>
          obtain ⟨k, u, rfl, rfl, hk, hu0, hu1, hu2, hq2⟩ := hrel
          have hX := HX.out.past hq2
          have x0 := hX.cellAt 0 rfl; have x1 := hX.cellAt 1 rfl; have x2 := hX.cellAt 2 rfl; have x5 := hX.cellAt 5 rfl; have x7 := hX.cellAt 7 rfl; have xl := hX.lt
          have k0 : (0 : Int) ≤ (k : Int) := nn_cast k
          have HU := Lib.hid hu2
          have HQ2 := Lib.hid hq2
          clear hu2 hq2 hX
          by_cases hlk : k < n
          · have k1 : (k : Int) < (n : Int) := lt_cast hlk
            by_cases hfl : fl < u
            · have L0 : ((k : Int) % (rates.length : Int)) = ((k % rates.length : Nat) : Int) := on12
              have L1 : k % rates.length < rates.length := Nat.mod_lt _ q4
              obtain ⟨b3, off3, hA3, hb3, hcr⟩ := HTr.out.at_ L1
              subst hA3
              have hWw := pt HBx.out (pt HQ.out HQ2.out)
              have s8 := ((bcell hWw).1 b3 _ hb3).trans (hcr _ L1)
              have s9 : b3 < wr.heap.size := Nat.lt_of_lt_of_le hb3 hWw.size
              clear hWw hcr
              generalize k % rates.length = j at *
              generalize rates.getD j 0 = y at *
              have l0 : (0 : Int) ≤ (j : Int) := nn_cast j
              have l1 : (j : Int) < (rates.length : Int) := lt_cast L1
              obtain ⟨f1, f2⟩ := on8 ⟨y5, Int.le_trans y6 (by decide)⟩ ⟨y3, Int.le_trans y4 (by decide)⟩
              obtain ⟨r0, r1, hm1, hm2⟩ := on9 (num := y) y7 y3 (Int.le_trans y6 (by decide))
              have HMd := Lib.hid (fun W => baseMod_int y (rhi - rlo + 1) W hm1 hm2)
              clear hm1 hm2
              generalize y % (rhi - rlo + 1) = r at *
              have f3 : IntKind.i64.wrap (rlo + r) = rlo + r := on10 r0 r1 y3 (Int.le_trans y6 (by decide))
              obtain ⟨q5b, q5c⟩ := on13 q4
              as_aux_lemma =>
              go_wp2
              as_aux_lemma =>
              go_quiet ((go_at_call 14; exact Calls.quiet_of_same ((HMd.out _).mono fun e w' h => ⟨h.1, h.2.symm⟩)))
              replace HQ2 := Lib.hid (show Below wC.heap.size wC (wr.drewN nq) from below_drewN' HQ2.out nq)
              have hX := HX.out.past HQ2.out
              clear x0 x1 x2 x5 x7 xl s8 s9 HMd f1 f2 f3
              generalize wr.drewN nq = wv at *
              have x2 := hX.cellAt 2 rfl; have xl := hX.lt
              obtain ⟨ra, hra⟩ : ∃ v, v = rlo + r := ⟨_, rfl⟩
              rw [← hra]
              obtain ⟨⟨b1, b2⟩, b3_, b4, b5, b6, b7⟩ := dry_bd (r := ra) (k := k) y1 y3 (on14 hra r0 r1 y6).1 (on14 hra r0 r1 y6).2 hu0 HU.out hu1 hfl
              have f1 : IntKind.i64.wrap (u - fl) = u - fl := on15 hfl y1 hu1
              have f2 : IntKind.i64.wrap ((u - fl) * ra) = (u - fl) * ra := on16 b1 b2
              have f4 : ((u - fl) * ra).tdiv 1000 = (u - fl) * ra / 1000 := Int.tdiv_eq_ediv_of_nonneg b1
              rw [f4] at b3_ b4 b5 b6 b7
              have f3 : IntKind.i64.wrap (u - (u - fl) * ra / 1000) = u - (u - fl) * ra / 1000 := on16 b5 (Int.le_trans b6 (by decide))
              have f5 : IntKind.i64.wrap ((u - fl) * ra / 1000) = (u - fl) * ra / 1000 := on16 b3_ (Int.le_trans b4 (by decide))
              have B := Lib.hid (And.intro b5 (And.intro b6 b7))
              clear b7 b5 b6 b4 hra r0 r1 hX HU
              as_aux_lemma =>
              go_wp2
              go_roundw
              case rel => exact ⟨k + 1, _, rfl, vint_succ _, Nat.succ_le_of_lt hlk, B.out.1, B.out.2.1, B.out.2.2, HQ2.out⟩
              case measure => exact om12 hlk
            · have hfb : u ≤ fl := on17 hfl
              have hst := dry_stay y3 y4 HU.out hfb
              replace HU := Lib.hid hst
              clear hst
              as_aux_lemma =>
              go_wp2
              go_roundw
              case rel => exact ⟨k + 1, u, rfl, vint_succ _, Nat.succ_le_of_lt hlk, hu0, hu1, HU.out, HQ2.out⟩
              case measure => exact om12 hlk
          · obtain rfl : k = n := on18 hk hlk
            have q8 : ¬ tgt < u := on19 HLow.out HU.out
            replace HP := Lib.hid (HP.out.past HQ2.out)
            replace HOwn := Lib.hid (own_pastP HQ2.out HOwn.out)
            replace HRow := Lib.hid (HRow.out.same (NumRow.kept_below HQ2.out))
            replace HQ := Lib.hid (pt HQ.out HQ2.out)
            clear HU
            as_aux_lemma =>
            go_wp2
            go_roundw
            case rel => exact ⟨i + 1, A4, c4, _, vint_succ _, Nat.succ_le_of_lt hlt, HBnd.out, HP.out, HOwn.out, by rw [HStep.out]; exact HRow.out, HQ.out⟩
            case measure => exact om12 hlt
    · obtain rfl : i = xs.length := on18 hi hlt
      as_aux_lemma =>
      obtain ⟨o, rfl⟩ := Int.eq_ofNat_of_zero_le (Int.le_trans (by decide : (0 : Int) ≤ 1) v1)
      have hd : DriedOk (o : Int) xs xs.length := ⟨h0, h1, v1, v2, HSt_.out⟩
      have hop := dried_open hd
      obtain ⟨hacy, hlen, hmach, _⟩ := open_ok hop
      have hpl := hacy.1
      have hl := loadTs_len (o : Int) xs xs.length
      have hsm : SmallPlan (loadTs (o : Int) xs xs.length) := ⟨by rw [hl]; exact Nat.le_trans h1 (by decide), fun i hi => by rw [hl] at hi; rw [loadTs_get _ _ hi]; simp [loadT]⟩
      obtain ⟨bst, g1, g2, g3, g4, g5⟩ := dried_best hd
      obtain ⟨g6, g7⟩ := dried_end hd
      have hord := dried_ord hd
      have hT := HRow.out.tasks HOwn.out
      have hst := dried_small hd
      obtain ⟨wa, rfl⟩ : ∃ v, v = wr := ⟨_, rfl⟩
      have HT := Lib.hid (show ∀ W, Below wa.heap.size wa W → TasksIn W.heap.size W A' (loadTs (o : Int) xs xs.length) from fun W hW => (hT.below hW).more hW.size)
      have HCp := Lib.hid (show ∀ W, Below wa.heap.size wa W → Calls Tryz.prog 16 #[.agg #[.int .i64 (o : Int), .slice A' xs.length c']] W fun e w' => ∃ A2 c2, e = .returned (.agg #[.int .i64 (o : Int), .slice A2 xs.length c2]) ∧ TasksIn w'.heap.size w' A2 (loadTs (o : Int) xs xs.length) ∧ Below W.heap.size W w' from fun W hW => (copyPlan_any W.heap.size (loadTs (o : Int) xs xs.length) A' xs.length c' (o : Int) W (HT.out W hW) hl (Nat.le_refl _) hsm).mono fun e w' ⟨A2, c2, q1, q2, _, q4⟩ => ⟨A2, c2, by rw [q1, hl], q2, q4⟩)
      have HBs := Lib.hid (show ∀ W A2 c2, TasksIn W.heap.size W A2 (loadTs (o : Int) xs xs.length) → Calls Tryz.prog 15 #[.agg #[.int .i64 (o : Int), .slice A2 xs.length c2]] W fun e w' => ∃ A3 c3, e = .returned (.tuple #[.slice A3 xs.length c3, .int .i64 (bestV (loadTs (o : Int) xs xs.length)).last, .int .i64 0]) ∧ IntsIn w'.heap.size w' A3 bst ∧ Below W.heap.size W w' from fun W A2 c2 h => by
        have q := best_ok W.heap.size (loadTs (o : Int) xs xs.length) A2 c2 (o : Int) W h (Nat.le_refl _) hsm hop
        rw [hl] at q
        refine q.mono ?_
        rintro e w' ⟨bv, q1, q2, q3⟩
        rw [g1] at q2
        obtain ⟨A3, c3, rfl, q4⟩ := q2
        exact ⟨A3, c3, by rw [q1, g2], q4, q3⟩)
      have HSc := Lib.hid (show ∀ W A3 c3, Below wa.heap.size wa W → IntsIn W.heap.size W A3 bst → Calls Tryz.prog 17 #[.agg #[.int .i64 (o : Int), .slice A' xs.length c'], .slice A3 xs.length c3] W fun e w' => e = .returned (.int .i64 0) ∧ Below W.heap.size W w' from fun W A3 c3 hW h => by
        have q := refScheduleErr_any W.heap.size (loadTs (o : Int) xs xs.length) bst A' A3 c' c3 (o : Int) W (HT.out W hW) h (Nat.le_refl _) hlen hpl
        rw [hl, g2, g3] at q
        exact q)
      have HEn := Lib.hid (show ∀ W A3 c3, Below wa.heap.size wa W → IntsIn W.heap.size W A3 bst → Calls Tryz.prog 18 #[.agg #[.int .i64 (o : Int), .slice A' xs.length c'], .slice A3 xs.length c3] W fun e w' => e = .returned (.int .i64 (bestV (loadTs (o : Int) xs xs.length)).last) ∧ Below W.heap.size W w' from fun W A3 c3 hW h => by
        have q := refEndOf_any W.heap.size (loadTs (o : Int) xs xs.length) bst A' A3 c' c3 (o : Int) W (HT.out W hW) h (Nat.le_refl _) hlen (by rw [hl]; exact Nat.le_trans h1 (by decide)) g5
        rw [hl, g2, g4] at q
        exact q)
      have HBz := Lib.hid (show ∀ W A2 c2 A4 c4 (m : Int) (k : Nat), TasksIn W.heap.size W A2 (loadTs (o : Int) xs xs.length) → IntsIn W.heap.size W A4 (ownTs (loadTs (o : Int) xs xs.length) m xs.length) → (ownTs (loadTs (o : Int) xs xs.length) m xs.length).length = k → 0 < k → Calls Tryz.prog 19 #[.agg #[.int .i64 (o : Int), .slice A2 xs.length c2], .slice A4 k c4] W fun e w' => ∃ bv, e = .returned (.tuple #[.int .i64 bv, .int .i64 0]) ∧ bv ≤ (bestV (loadTs (o : Int) xs xs.length)).last ∧ Below W.heap.size W w' from fun W A2 c2 A4 c4 m k ha hb hk h0 => by
        subst hk
        obtain ⟨t1, t2⟩ := own_busy hd (m := m) (List.length_pos_iff.1 h0)
        have q := busyBound_ok W.heap.size (loadTs (o : Int) xs xs.length) (ownTs (loadTs (o : Int) xs xs.length) m xs.length) A2 A4 c2 c4 (o : Int) W ha hb (Nat.le_refl _) hsm hop (Nat.le_trans (ownTs_len (loadTs (o : Int) xs xs.length) m xs.length) (Nat.le_trans h1 (by decide)))
        rw [hl, if_pos t1, t1] at q
        exact q.mono fun e w' ⟨q1, q2⟩ => ⟨_, q1, t2, q2⟩)
      have HOwnL := Lib.hid (show ∀ (m : Int) (k : Nat), (ownTs (loadTs (o : Int) xs xs.length) m k).length ≤ k from fun m k => ownTs_len (loadTs (o : Int) xs xs.length) m k)
      have HOrd := Lib.hid hord
      have HSmT := Lib.hid hst
      have HL := Lib.hid hl
      clear hord hst hT hsm g1 g2 g3 g4 g5 hpl hacy hlen hmach hop hd hl HSt_ HRow HOwn
      generalize (loadTs (o : Int) xs xs.length) = ts at *
      generalize (bestV ts).last = L at *
      have p0 := HP.out.cellAt 0 rfl
      have p1 := HP.out.cellAt 1 rfl
      have pl := HP.out.lt
      go_wp2_with (first
        | (go_at_call 16; (with_reducible refine (HCp.out _ pr).mono ?_); rintro e w2 ⟨A2, c2, rfl, hT2, hb2⟩)
        | (go_at_call 15; (with_reducible refine (HBs.out _ _ _ hT2).mono ?_); rintro e w3 ⟨A3, c3, rfl, hI3, hb3⟩; have hB3 := pt hb2 hb3; clear p0 p1 pl; have p0 := (HP.out.past hB3).cellAt 0 rfl; have p1 := (HP.out.past hB3).cellAt 1 rfl; have pl := (HP.out.past hB3).lt)
        | (go_at_call 17; (with_reducible refine (HSc.out _ _ _ hB3 hI3).mono ?_); rintro e w4 ⟨rfl, hb4⟩; have hB4 := pt hB3 hb4; have hI4 := (hI3.below hb4).more hb4.size; clear p0 p1 pl; have p0 := (HP.out.past hB4).cellAt 0 rfl; have p1 := (HP.out.past hB4).cellAt 1 rfl; have pl := (HP.out.past hB4).lt)
        | (go_at_call 18; (with_reducible refine (HEn.out _ _ _ hB4 hI4).mono ?_); rintro e w5 ⟨rfl, hb5⟩; have HB5 := Lib.hid (pt hB4 hb5); clear p0 p1 pl hI3 hI4 hT2 hb2 hb3 hb4 hb5 hB3 hB4))
      go_loopw [18] (fun mv wr => ∃ m : Nat, mv = .int .i64 (m : Int) ∧ m ≤ o ∧ Below wa.heap.size wa wr) (fun mv _ => o - (intOf mv).toNat)
      case atStart => exact ⟨0, rfl, Nat.zero_le _, HB5.out⟩
      case round =>
        as_aux_lemma =>
        obtain ⟨m, rfl, hm, hqm⟩ := hrel
        have HQm := Lib.hid hqm
        have m0 : (0 : Int) ≤ (m : Int) := nn_cast m
        clear hqm HB5
        obtain ⟨wm, rfl⟩ : ∃ v, v = wr := ⟨_, rfl⟩
        by_cases hlm : m < o
        · have m1 : (m : Int) < (o : Int) := lt_cast hlm
          as_aux_lemma =>
          go_wp2
          go_loopw [19, 20] (fun ov jv wr => ∃ (j k : Nat) (A4 : Option Addr) (c4 : Nat), ov = .slice A4 k c4 ∧ jv = .int .i64 (j : Int) ∧ j ≤ xs.length ∧ wr.ownsRow wm.heap.size 3 1 (.slice A4 k c4) k ((ownTs ts (m : Int) j).map (Value.int .i64)) ∧ Below wm.heap.size wm wr) (fun _ jv _ => xs.length - (intOf jv).toNat)
          case atStart => exact ⟨0, 0, none, 0, rfl, rfl, Nat.zero_le _, World.ownsRow_nil _ _ _ _, pr⟩
          case round =>
            as_aux_lemma =>
            obtain ⟨j, k, A4, c4, rfl, rfl, hj, hown, hqj⟩ := hrel
            have hB := pt HQm.out hqj
            have p0 := (HP.out.past hB).cellAt 0 rfl; have p1 := (HP.out.past hB).cellAt 1 rfl; have pl := (HP.out.past hB).lt
            have j0 : (0 : Int) ≤ (j : Int) := nn_cast j
            have hkl : (ownTs ts (m : Int) j).length = k := by simpa using hown.1
            by_cases hlj : j < xs.length
            · have j1 : (j : Int) < (xs.length : Int) := lt_cast hlj
              obtain ⟨b, off, hA, hbb, hct⟩ := (HT.out _ hB).at_ (show j < ts.length by rw [HL.out]; exact hlj)
              subst hA
              have hk5 := HOwnL.out (m : Int) j
              have t0 := (hct j (by rw [HL.out]; exact hlj)).1
              have HOs := Lib.hid (ownTs_succ ts (m : Int) j)
              generalize (ts.getD j default).machine = mc at *
              clear hct
              have HO := Lib.hid hown
              have HQj := Lib.hid hqj
              clear hqj hown
              by_cases hmc : mc = (m : Int)
              · have e5 : (mc == (m : Int)) = true := by rw [hmc]; exact beq_self_eq_true _
                rw [if_pos hmc] at HOs
                have k63 := on24 (Nat.lt_of_lt_of_le hlj h1) (hkl ▸ hk5)
                have HO2 := Lib.hid (HO.out.alloc (.cells #[.int .i64 (j : Int)] 3))
                have HC := Lib.hid (cellsIn_cells wr 3 #[.int .i64 (j : Int)])
                have hzz := HQj.out.size
                clear hmc
                go_wp2_with (at_builtin; go_must (refine wpList_append_cells _ rfl (.tmp 274) (.tmp 276) _ rfl wm.heap.size 3 i1 _ 1 8 Tryz.underlying32 hi1 hy0 hy1 hy2 rfl Nat.one_pos _ k _ rfl HO2.out (wr.heap.size + 1) (some ⟨wr.heap.size, 0, none⟩) 1 1 _ rfl HC.out rfl (by simp [Value.oneCell']) k63.1 k63.2 (pa HQj.out).size ?_); intro v6 w6 hown6 hg6 hat6; obtain ⟨A6, c6, rfl, hc6, hm6⟩ := own_form hown6)
                have HB6 := Lib.hid (show Below wm.heap.size wm w6 from pg (pa HQj.out) HO2.out (Nat.le_refl _) hg6)
                have HO6 := Lib.hid hown6
                clear hown6 hg6 hat6
                go_roundw
                case rel => exact ⟨j + 1, k + 1, A6, c6, rfl, vint_succ _, Nat.succ_le_of_lt hlj, by rw [HOs.out, List.map_append]; exact HO6.out, HB6.out⟩
                case measure => exact om12 hlj
              · have e5 : (mc == (m : Int)) = false := beq_eq_false_iff_ne.2 hmc
                rw [if_neg hmc] at HOs
                as_aux_lemma =>
                go_wp2
                go_roundw
                case rel => exact ⟨j + 1, k, A4, c4, rfl, vint_succ _, Nat.succ_le_of_lt hlj, by rw [HOs.out]; exact HO.out, HQj.out⟩
                case measure => exact om12 hlj
            · obtain rfl : j = xs.length := on18 hj hlj
              have HO := Lib.hid hown
              have HI := Lib.hid (intsIn_of_own (xs := ownTs ts (m : Int) xs.length) (show wr.ownsRow wm.heap.size 3 1 (.slice A4 k c4) k _ from hown))
              have HB := Lib.hid hB
              have HKL := Lib.hid hkl
              clear hown hqj hB hkl
              by_cases hk0 : k = 0
              · have e5 : ((k : Int) == 0) = true := by rw [hk0]; rfl
                as_aux_lemma =>
                go_wp2
                go_roundw
                case rel => exact ⟨m + 1, vint_succ _, Nat.succ_le_of_lt hlm, HB.out⟩
                case measure => exact om12 hlm
              · have e5 : ((k : Int) == 0) = false := on21 hk0
                go_wp2_with (first
                  | (go_at_call 16; (with_reducible refine (HCp.out _ HB.out).mono ?_); rintro e w2 ⟨A2, c2, rfl, hT2, hb2⟩; have hI2 := (HI.out.below hb2).more hb2.size)
                  | (go_at_call 19; (with_reducible refine (HBz.out _ _ _ _ _ _ _ hT2 hI2 HKL.out (Nat.pos_of_ne_zero hk0)).mono ?_); rintro e w3 ⟨bv, rfl, hbl, hb3⟩; have hbl' : ¬ L < bv := on22 hbl))
                go_roundw
                case rel => exact ⟨m + 1, vint_succ _, Nat.succ_le_of_lt hlm, pt (pt HB.out hb2) hb3⟩
                case measure => exact om12 hlm
        · obtain rfl : m = o := on18 hm hlm
          have o12 : m ≤ 2 := om1 v2
          clear HCp HBs HSc HEn HBz HOwnL HR HSt hi0 hz0 hz1 hz2 i0 hcap o1 o2 o3 e1 e2 v1 v2 h2 n0 hlt hlm m0
          have HSm := Lib.hid HSmT.out
          as_aux_lemma =>
          go_wp2
          go_loopw [23, 24] (fun cv jv wr => ∃ j : Nat, cv = .int .i64 (fct j : Int) ∧ jv = .int .i64 ((j : Int) + 1) ∧ 1 ≤ j ∧ j ≤ xs.length ∧ Below wm.heap.size wm wr) (fun _ jv _ => xs.length + 2 - (intOf jv).toNat)
          case atStart => exact ⟨1, rfl, rfl, Nat.le_refl _, h0, pr⟩
          case round =>
            as_aux_lemma =>
            obtain ⟨j, rfl, rfl, j1, j2, hq5⟩ := hrel
            have HQ5 := Lib.hid hq5
            clear hq5
            by_cases hlj : j < xs.length
            · have c1 : (j : Int) + 1 ≤ (xs.length : Int) := om2 hlj
              have HCt := count_step (j := j) (om3 hlj h1)
              have c2 : IntKind.i64.wrap ((j : Int) + 1 + 1) = (j : Int) + 1 + 1 := om4 hlj h1
              generalize hfj : fct (j + 1) = F1 at *
              as_aux_lemma =>
              go_wp2
              go_roundw
              case rel => exact ⟨j + 1, by rw [hfj], by simp, Nat.succ_le_succ (Nat.zero_le _), Nat.succ_le_of_lt hlj, HQ5.out⟩
              case measure => exact om5 hlj
            · have c1 : ¬ (j : Int) + 1 ≤ (xs.length : Int) := om6 hlj
              have hfl := fct_le (n := j) (Nat.le_trans j2 h1)
              have HJ := Lib.hid (show j = xs.length from Nat.le_antisymm j2 (Nat.le_of_not_lt hlj))
              have HFl := Lib.hid (show ∃ r, r < fct j ∧ ordEnd ts m r = L from by rw [HJ.out]; simpa using HOrd.out.2)
              have HOl := Lib.hid (show ∀ r, L ≤ ordEnd ts m r from by simpa using HOrd.out.1)
              clear j1 j2 hlj
              generalize fct j = Fn at *
              as_aux_lemma =>
              go_wp2
              obtain ⟨wn, rfl⟩ : ∃ v, v = wr := ⟨_, rfl⟩
              go_loopw [25, 26] (fun rv nv wr => ∃ (n : Nat) (rb : Bool), rv = .bool rb ∧ nv = .int .i64 (n : Int) ∧ n ≤ Fn ∧ (rb = true ↔ ∃ r, r < n ∧ ordEnd ts m r = L) ∧ Below wn.heap.size wn wr) (fun _ nv _ => Fn - (intOf nv).toNat)
              case atStart => exact ⟨0, false, rfl, rfl, Nat.zero_le _, ⟨fun h => (nomatch h), fun ⟨r, h, _⟩ => absurd h (Nat.not_lt_zero _)⟩, pr⟩
              case round =>
                as_aux_lemma =>
                obtain ⟨n, rb, rfl, rfl, hn, hrb, hq6⟩ := hrel
                have HQ6 := Lib.hid hq6
                have HRb := Lib.hid hrb
                have n0 := nn_cast n
                clear hq6 hrb
                by_cases hln : n < Fn
                · have n1 := lt_cast hln
                  as_aux_lemma =>
                  go_wp2
                  obtain ⟨wo, rfl⟩ : ∃ v, v = wr := ⟨_, rfl⟩
                  go_loopw [27, 28] (fun lv jv wr => ∃ (j : Nat) (A4 : Option Addr) (c4 : Nat), lv = .slice A4 j c4 ∧ jv = .int .i64 (j : Int) ∧ j ≤ xs.length ∧ wr.ownsRow wo.heap.size 3 1 (.slice A4 j c4) j ((idxs j).map (Value.int .i64)) ∧ Below wo.heap.size wo wr) (fun _ jv _ => xs.length - (intOf jv).toNat)
                  case atStart => exact ⟨0, none, 0, rfl, rfl, Nat.zero_le _, World.ownsRow_nil _ _ _ _, pr⟩
                  case round =>
                    as_aux_lemma =>
                    obtain ⟨j, A4, c4, rfl, rfl, hj, hown, hqj⟩ := hrel
                    have HO := Lib.hid hown
                    have HQj := Lib.hid hqj
                    have j0 := nn_cast j
                    clear hown hqj
                    by_cases hlj : j < xs.length
                    · have j1 := lt_cast hlj
                      have HOs := Lib.hid (idxs_succ j)
                      have HO2 := Lib.hid (HO.out.alloc (.cells #[.int .i64 (j : Int)] 3))
                      have HC := Lib.hid (cellsIn_cells wr 3 #[.int .i64 (j : Int)])
                      have hzz := HQj.out.size
                      go_wp2_with (at_builtin; go_must (refine wpList_append_cells _ rfl (.tmp 315) (.tmp 317) _ rfl wo.heap.size 3 i1 _ 1 8 Tryz.underlying32 hi1 hy0 hy1 hy2 rfl Nat.one_pos _ j _ rfl HO2.out (wr.heap.size + 1) (some ⟨wr.heap.size, 0, none⟩) 1 1 _ rfl HC.out rfl (by simp [Value.oneCell']) (om9 hj h1).1 (om9 hj h1).2 (pa HQj.out).size ?_); intro v6 w6 hown6 hg6 hat6; obtain ⟨A6, c6, rfl, hc6, hm6⟩ := own_form hown6)
                      have HB6 := Lib.hid (show Below wo.heap.size wo w6 from pg (pa HQj.out) HO2.out (Nat.le_refl _) hg6)
                      have HO6 := Lib.hid hown6
                      clear hown6 hg6 hat6
                      go_roundw
                      case rel => exact ⟨j + 1, A6, c6, rfl, vint_succ _, Nat.succ_le_of_lt hlj, by rw [HOs.out, List.map_append]; exact HO6.out, HB6.out⟩
                      case measure => exact om12 hlj
                    · obtain rfl : j = xs.length := Nat.le_antisymm hj (Nat.le_of_not_lt hlj)
                      have hI := intsIn_of_own HO.out
                      have HAp := Lib.hid (show ∀ b off, A4 = some ⟨b, off, none⟩ → b ≠ wr.heap.size from fun b off e => by
                        rcases hI with h | ⟨b', off', hA, hb, _⟩
                        · have := congrArg List.length h; rw [idxs_len, List.length_nil] at this; exact absurd this (Nat.ne_of_gt h0)
                        · rw [e] at hA; injection hA with hA; injection hA with e1 _; exact fun e2 => absurd hb (by rw [← e1, e2]; exact Nat.lt_irrefl _))
                      obtain ⟨_, _, he4, hc4, _⟩ := own_form HO.out
                      have hc4' : xs.length ≤ c4 := by injection he4 with _ _ h; rw [h]; exact hc4
                      have hOA := ord_start (ts := ts) (o := m) n
                      rw [HL.out] at hOA
                      have HOA := Lib.hid hOA
                      clear hOA he4 hc4
                      have hmk := fun w => run_make_row' (P := Tryz.prog) 32 3 (.int .i64 0) 8 rfl int_info rfl .i64 .i64 m (om13 o12).1 (om13 o12).2 w
                      rw [made_zero] at hmk
                      obtain ⟨wf, rfl⟩ : ∃ v, v = wr := ⟨_, rfl⟩
                      have hI2 := (hI.below (pa (o := .cells (iarr (List.replicate m 0)) 3) pr)).more (show wf.heap.size ≤ (wf.alloc (.cells (iarr (List.replicate m 0)) 3)).heap.size by simp)
                      have HI := Lib.hid hI2
                      clear hI hI2
                      as_aux_lemma =>
                      go_wp2
                      clear hmk
                      go_loopw [27, 29, 30] (fun lv rv tv wr => ∃ (k rest : Nat) (left fr : List Int) (last : Int) (A1 : Option Addr) (c1 : Nat), lv = .slice A1 k c1 ∧ rv = .int .i64 (rest : Int) ∧ tv = .int .i64 last ∧ rest ≤ 120 ∧ k ≤ c1 ∧ (∀ b off, A1 = some ⟨b, off, none⟩ → b ≠ wf.heap.size) ∧ IntsIn wr.heap.size wr A1 left ∧ OrdAt ts m (ordEnd ts m n) k rest left fr last ∧ Blk wr wf.heap.size 3 (iarr fr) ∧ Below wo.heap.size wo wr) (fun lv _ _ _ => lenOf lv)
                      case atStart => exact ⟨_, n, _, _, 0, A4, c4, rfl, rfl, rfl, Nat.le_trans hn hfl, hc4', HAp.out, HI.out, HOA.out, Blk.newAt rfl, pa HQj.out⟩
                      case round =>
                        as_aux_lemma =>
                        obtain ⟨k, rest, left, fr, last, A1, c1, rfl, rfl, rfl, hr120, hkc, hap, hI, hA, hF, hq8⟩ := hrel
                        have HQ8 := Lib.hid hq8
                        have HI := Lib.hid hI
                        have HA := Lib.hid hA
                        have HF := Lib.hid hF
                        have HAp := Lib.hid hap
                        clear hq8 hI hA hF hap
                        by_cases hk0 : 0 < k
                        · obtain ⟨i, q, e1, hi, e2, hq, b0, b1, hN⟩ := HA.out.step1 HSm.out hk0
                          have LK := Lib.hid HA.out.lk
                          have hpk : rest % k < k := Nat.mod_lt _ hk0
                          have HWa := Lib.hid (pt HQm.out (pt HQ5.out (pt HQ6.out HQ8.out)))
                          obtain ⟨b, off, hAt, hbb, hct⟩ := (HT.out _ HWa.out).at_ hi
                          subst hAt
                          obtain ⟨t0, t1, t2, A9, c9, t3, _, _⟩ := hct i hi
                          obtain ⟨b4, off4, hA1, hb4, hcl⟩ := HI.out.at_ (k := rest % k) (by rw [LK.out]; exact hpk)
                          subst hA1
                          have s4 := hcl _ (by rw [LK.out]; exact hpk)
                          rw [e1] at s4
                          have f0 := blk_int HF.out (j := q) (by rw [HA.out.lf]; exact hq)
                          have fl0 := HF.out.lt
                          have hix : i < xs.length := HL.out ▸ hi
                          have p0 := (HP.out.past HWa.out).cellAt 0 rfl; have p1 := (HP.out.past HWa.out).cellAt 1 rfl; have pl := (HP.out.past HWa.out).lt
                          have g1 : Int.tmod (rest : Int) (k : Int) = ((rest % k : Nat) : Int) := rfl
                          have g2 : Int.tdiv (rest : Int) (k : Int) = ((rest / k : Nat) : Int) := rfl
                          obtain ⟨k1, k2, k3, k4⟩ := ne_zero_facts hk0
                          clear hct hcl
                          generalize ts.getD i default = x at *
                          obtain ⟨mc, le, re, aft⟩ := x
                          have e2 : mc = (q : Int) := e2
                          subst e2
                          have b0 : 0 ≤ max (fr.getD q 0) re + le := b0
                          have b1 : max (fr.getD q 0) re + le ≤ 1000 := b1
                          have hN : OrdAt ts m (ordEnd ts m n) (k - 1) (rest / k) (left.eraseIdx (rest % k)) (fr.set q (max (fr.getD q 0) re + le)) (max last (max (fr.getD q 0) re + le)) := hN
                          have t0 : wr.cell? ⟨b, off + i * 4, none⟩ = some (.int .i64 (q : Int)) := t0
                          have t1 : wr.cell? ⟨b, off + i * 4 + 1, none⟩ = some (.int .i64 le) := t1
                          have t2 : wr.cell? ⟨b, off + i * 4 + 2, none⟩ = some (.int .i64 re) := t2
                          have t3 : wr.cell? ⟨b, off + i * 4 + 3, none⟩ = some (.slice A9 aft.length c9) := t3
                          have HN := Lib.hid hN
                          have hr2 : rest / k ≤ 120 := Nat.le_trans (Nat.div_le_self _ _) hr120
                          have g3 := small_wrap hr2
                          obtain ⟨j1, j2, j3, j4, j5, j6, j7, j8⟩ := on30 (k := k) hr120
                          have HE1 := Lib.hid e1
                          clear hN e1
                          generalize rest % k = p at *
                          generalize rest / k = r2 at *
                          generalize hfq : fr.getD q 0 = f at *
                          have HFq := Lib.hid hfq
                          clear hfq
                          have q0 : (0 : Int) ≤ (q : Int) := nn_cast q
                          have q1 : (q : Int) < (m : Int) := lt_cast hq
                          have i0 : (0 : Int) ≤ (i : Int) := nn_cast i
                          have i1_ : (i : Int) < (xs.length : Int) := lt_cast hix
                          have y0 : (0 : Int) ≤ (p : Int) := nn_cast p
                          have y1 : (p : Int) < (k : Int) := lt_cast hpk
                          have HSS := Lib.hid (show ∀ W, Below wr.heap.size wr W → W.cell? ⟨w1.heap.size, 1, none⟩ = some (.slice (some ⟨b, off, none⟩) xs.length c') ∧ W.cell? ⟨b4, off4 + p, none⟩ = some (.int .i64 (i : Int)) ∧ W.cell? ⟨b, off + i * 4, none⟩ = some (.int .i64 (q : Int)) ∧ W.cell? ⟨b, off + i * 4 + 1, none⟩ = some (.int .i64 le) ∧ W.cell? ⟨b, off + i * 4 + 2, none⟩ = some (.int .i64 re) ∧ W.cell? ⟨b, off + i * 4 + 3, none⟩ = some (.slice A9 aft.length c9) from fun W hW => ⟨((bcell hW).1 _ _ pl).trans p1, ((bcell hW).1 _ _ hb4).trans s4, ((bcell hW).1 _ _ hbb).trans t0, ((bcell hW).1 _ _ hbb).trans t1, ((bcell hW).1 _ _ hbb).trans t2, ((bcell hW).1 _ _ hbb).trans t3⟩)
                          as_aux_lemma =>
                          go_wp2
                          clear g1 g2 p0 p1 s4 t0 t1 t2 t3 j1 j2 j3 j4 j5 j6 j7 j8
                          as_aux_lemma =>
                          refine wp_region_G 9 follows_mixed (fun W => W.cell? ⟨w1.heap.size, 1, none⟩ = some (.slice (some ⟨b, off, none⟩) xs.length c') ∧ W.cell? ⟨b4, off4 + p, none⟩ = some (.int .i64 (i : Int)) ∧ W.cell? ⟨b, off + i * 4, none⟩ = some (.int .i64 (q : Int)) ∧ W.cell? ⟨b, off + i * 4 + 1, none⟩ = some (.int .i64 le) ∧ W.cell? ⟨b, off + i * 4 + 2, none⟩ = some (.int .i64 re) ∧ W.cell? ⟨b, off + i * 4 + 3, none⟩ = some (.slice A9 aft.length c9)) (HSS.out _ (pd pr)) ?_
                          intro hSd inv
                          have HSd := Lib.hid hSd
                          clear hSd
                          refine wpAnyG_take (i := 0) (v := ?_) rfl (by kernel_rfl) (by kernel_rfl) (by kernel_rfl) (by kernel_rfl) (by kernel_rfl) (by decide) (by decide) inv (fun _ _ _ h => h) (Or.inl ⟨by rfl, ?_⟩) HSd.out ?_; rotate_left; (focus (intro W y1; obtain ⟨y1, y2, y3, y4, y5, y6⟩ := y1; go_simp; (first | done | with_reducible rfl))); clear inv; intro inv; simp only [List.getElem_toArray, List.getElem_cons_zero, Act.put, List.setIfInBounds_toArray, List.set_cons_zero, List.set_cons_succ]
                          refine wpAnyG_take (i := 1) (v := ?_) rfl (by kernel_rfl) (by kernel_rfl) (by kernel_rfl) (by kernel_rfl) (by kernel_rfl) (by decide) (by decide) inv (fun _ _ _ h => h) (Or.inl ⟨by rfl, ?_⟩) HSd.out ?_; rotate_left; (focus (intro W y1; obtain ⟨y1, y2, y3, y4, y5, y6⟩ := y1; go_simp; (first | done | with_reducible rfl))); clear inv; intro inv; simp only [List.getElem_toArray, List.getElem_cons_zero, List.getElem_cons_succ, Act.put, List.setIfInBounds_toArray, List.set_cons_zero, List.set_cons_succ]
                          refine wpAnyG_take (i := 2) (v := ?_) rfl (by kernel_rfl) (by kernel_rfl) (by kernel_rfl) (by kernel_rfl) (by kernel_rfl) (by decide) (by decide) inv (fun _ _ _ h => h) (Or.inl ⟨by rfl, ?_⟩) HSd.out ?_; rotate_left; (focus (intro W y1; obtain ⟨y1, y2, y3, y4, y5, y6⟩ := y1; go_simp; (first | done | with_reducible rfl))); clear inv; intro inv; simp only [List.getElem_toArray, List.getElem_cons_zero, List.getElem_cons_succ, Act.put, List.setIfInBounds_toArray, List.set_cons_zero, List.set_cons_succ]
                          refine wpAnyG_take (i := 3) (v := ?_) rfl (by kernel_rfl) (by kernel_rfl) (by kernel_rfl) (by kernel_rfl) (by kernel_rfl) (by decide) (by decide) inv (fun _ _ _ h => h) (Or.inl ⟨by rfl, ?_⟩) HSd.out ?_; rotate_left; (focus (intro W y1; obtain ⟨y1, y2, y3, y4, y5, y6⟩ := y1; go_simp; (first | done | with_reducible rfl))); clear inv; intro inv; simp only [List.getElem_toArray, List.getElem_cons_zero, List.getElem_cons_succ, Act.put, List.setIfInBounds_toArray, List.set_cons_zero, List.set_cons_succ]
                          refine wpAnyG_take (i := 4) (v := ?_) rfl (by kernel_rfl) (by kernel_rfl) (by kernel_rfl) (by kernel_rfl) (by kernel_rfl) (by decide) (by decide) inv (fun _ _ _ h => h) (Or.inl ⟨by rfl, ?_⟩) HSd.out ?_; rotate_left; (focus (intro W y1; obtain ⟨y1, y2, y3, y4, y5, y6⟩ := y1; go_simp; (first | done | with_reducible rfl))); clear inv; intro inv; simp only [List.getElem_toArray, List.getElem_cons_zero, List.getElem_cons_succ, Act.put, List.setIfInBounds_toArray, List.set_cons_zero, List.set_cons_succ]
                          refine wpAnyG_take (i := 5) (v := ?_) rfl (by kernel_rfl) (by kernel_rfl) (by kernel_rfl) (by kernel_rfl) (by kernel_rfl) (by decide) (by decide) inv (fun _ _ _ h => h) (Or.inl ⟨by rfl, ?_⟩) HSd.out ?_; rotate_left; (focus (intro W y1; obtain ⟨y1, y2, y3, y4, y5, y6⟩ := y1; go_simp; (first | done | with_reducible rfl))); clear inv; intro inv; simp only [List.getElem_toArray, List.getElem_cons_zero, List.getElem_cons_succ, Act.put, List.setIfInBounds_toArray, List.set_cons_zero, List.set_cons_succ]
                          refine wpAnyG_take (i := 6) (v := ?_) rfl (by kernel_rfl) (by kernel_rfl) (by kernel_rfl) (by kernel_rfl) (by kernel_rfl) (by decide) (by decide) inv (fun _ _ _ h => h) (Or.inl ⟨by rfl, ?_⟩) HSd.out ?_; rotate_left; (focus (intro W y1; obtain ⟨y1, y2, y3, y4, y5, y6⟩ := y1; go_simp; (first | done | with_reducible rfl))); clear inv; intro inv; simp only [List.getElem_toArray, List.getElem_cons_zero, List.getElem_cons_succ, Act.put, List.setIfInBounds_toArray, List.set_cons_zero, List.set_cons_succ]
                          refine wpAnyG_take (i := 7) (v := ?_) rfl (by kernel_rfl) (by kernel_rfl) (by kernel_rfl) (by kernel_rfl) (by kernel_rfl) (by decide) (by decide) inv (fun _ _ _ h => h) (Or.inl ⟨by rfl, ?_⟩) HSd.out ?_; rotate_left; (focus (intro W y1; obtain ⟨y1, y2, y3, y4, y5, y6⟩ := y1; go_simp; (first | done | with_reducible rfl))); clear inv; intro inv; simp only [List.getElem_toArray, List.getElem_cons_zero, List.getElem_cons_succ, Act.put, List.setIfInBounds_toArray, List.set_cons_zero, List.set_cons_succ]
                          clear inv
                          as_aux_lemma =>
                          refine wpAnyG_one (i := 8) (by kernel_rfl) rfl rfl fun K hK => ?_
                          go_simp
                          refine hK.out _ _ (fun _ => HSS.out _ (pa (pd pr))) ?_
                          clear hK K
                          as_aux_lemma =>
                          refine wpAnyG_one (i := 9) (by kernel_rfl) rfl rfl fun K hK => ?_
                          go_simp
                          refine hK.out _ _ (fun h => absurd h (by decide)) ?_
                          clear hK K
                          refine wpAnyG_done (by kernel_rfl) ?_
                          have hW : Below wr.heap.size wr (wr.alloc (.cells #[.int .i64 (q : Int), .int .i64 le, .int .i64 re, .slice A9 aft.length c9] 41)).drew := pd (pa pr)
                          have hF := HF.out.past hW
                          have hX : Blk (wr.alloc (.cells #[.int .i64 (q : Int), .int .i64 le, .int .i64 re, .slice A9 aft.length c9] 41)).drew wr.heap.size 41 #[.int .i64 (q : Int), .int .i64 le, .int .i64 re, .slice A9 aft.length c9] := (Blk.newAt rfl).drew
                          have hI := HI.out.below hW
                          have hne : wf.heap.size ≠ wr.heap.size := Nat.ne_of_lt HF.out.lt
                          have hwo8 := HQ8.out.size
                          have hwoj := HQj.out.size
                          have HQ9 := Lib.hid (pt HQ8.out hW)
                          have hzv := hW.size
                          clear f0 fl0 pl hW hbb
                          generalize (wr.alloc (.cells #[.int .i64 (q : Int), .int .i64 le, .int .i64 re, .slice A9 aft.length c9] 41)).drew = wv at *
                          have hql : q < fr.length := by rw [HA.out.lf]; exact hq
                          have f0 := blk_int hF (j := q) hql
                          rw [HFq.out] at f0
                          have f1 := hF.frozen q; have f2 := hF.lt
                          have t0 := hX.cellAt 0 rfl; have t1 := hX.cellAt 1 rfl; have t2 := hX.cellAt 2 rfl; have tl := hX.lt
                          obtain ⟨e3, e4⟩ := max_wraps b0 b1
                          clear b0 b1
                          clear HFq hql
                          as_aux_lemma =>
                          go_wp2
                          go_region
                          have hF2 : Blk (wv.setCell ⟨wf.heap.size, q, none⟩ (.int .i64 (max f re + le))).drew wf.heap.size 3 (iarr (fr.set q (max f re + le))) := (blk_set hF q _).drew
                          have hX2 : Blk (wv.setCell ⟨wf.heap.size, q, none⟩ (.int .i64 (max f re + le))).drew wr.heap.size 41 #[.int .i64 (q : Int), .int .i64 le, .int .i64 re, .slice A9 aft.length c9] := (hX.far (p := ⟨wf.heap.size, q, none⟩) (u := .int .i64 (max f re + le)) hne.symm).drew
                          have hI3 := (intsIn_far (u := .int .i64 (max f re + le)) hI (p := ⟨wf.heap.size, q, none⟩) (fun e => HAp.out b4 off4 rfl e.symm)).below ((pd pr).mono (by rw [set_size']; exact hzv))
                          have HQz := Lib.hid (show Below wo.heap.size wo (wv.setCell ⟨wf.heap.size, q, none⟩ (.int .i64 (max f re + le))).drew from pd (ps HQ9.out hwoj))
                          have hsz := set_size' wv ⟨wf.heap.size, q, none⟩ (.int .i64 (max f re + le))
                          have hwv : wf.heap.size < wv.heap.size := hF.lt
                          clear f0 f1 f2 t0 t1 t2 tl hX hF hI HQ9
                          have hszz : (wv.setCell ⟨wf.heap.size, q, none⟩ (.int .i64 (max f re + le))).drew.heap.size = wv.heap.size := set_size _ _ _
                          rw [← hszz] at hwv
                          clear hsz hszz
                          have hzs : wr.heap.size ≤ (wv.setCell ⟨wf.heap.size, q, none⟩ (.int .i64 (max f re + le))).drew.heap.size := by rw [set_size]; exact hzv
                          generalize (wv.setCell ⟨wf.heap.size, q, none⟩ (.int .i64 (max f re + le))).drew = wz at *
                          have hE : (fr.set q (max f re + le)).getD q 0 = max f re + le := getD_set_eq _ (by rw [HA.out.lf]; exact hq)
                          have f0 := blk_int hF2 (j := q) (by rw [List.length_set, HA.out.lf]; exact hq)
                          rw [hE] at f0
                          have f2 := hF2.lt
                          have t0 := hX2.cellAt 0 rfl; have tl := hX2.lt
                          have HF := Lib.hid hF2
                          have HIy := Lib.hid (show IntsIn wz.heap.size wz (some ⟨b4, off4, none⟩) left from hI3.more hzs)
                          clear hE hF2 hX2 hI3
                          as_aux_lemma =>
                          go_wp2
                          clear f0 f2 t0 tl
                          have HIz := Lib.hid (show ∀ W, Below wz.heap.size wz W → IntsIn W.heap.size W (some ⟨b4, off4, none⟩) (left.take p) from fun W hW => ((HIy.out.below hW).more hW.size).take p)
                          have hk5 : k ≤ 5 := Nat.le_trans HA.out.kn HSm.out.1
                          have HLen := Lib.hid (show left.length = k from LK.out)
                          have HIw := Lib.hid HIy.out
                          have HCo := Lib.hid (show ∀ W, Below wz.heap.size wz W → Calls Tryz.prog 20 #[.slice (some ⟨b4, off4, none⟩) p c1] W fun e w' => ∃ v, e = .returned v ∧ w'.ownsRow W.heap.size 3 1 v p ((left.take p).map (Value.int .i64)) ∧ Below W.heap.size W w' from fun W hW => by
                            have hlp : (left.take p).length = p := by rw [List.length_take, LK.out]; exact Nat.min_eq_left (Nat.le_of_lt hpk)
                            have q := copyInts_any W.heap.size (some ⟨b4, off4, none⟩) p c1 (left.take p) W (HIz.out W hW) hlp (Nat.le_refl _) (Nat.le_trans (Nat.le_of_lt hpk) (Nat.le_trans hk5 (by decide)))
                            unfold RowRet at q
                            rw [hlp] at q
                            exact q)
                          obtain ⟨s, hs⟩ : ∃ s : Nat, s = p + 1 := ⟨_, rfl⟩
                          obtain ⟨a1, a2, a5, a3, a6, a7, hk1, hsk, hm63, hmby, a8⟩ := slice_nums hpk hkc hk5 hs
                          have HK1 := Lib.hid hk1
                          have HSs := Lib.hid hs
                          have hw7 : wf.heap.size < wz.heap.size := HF.out.lt
                          clear hk1 hs HA HIy HIz LK HE1 HI HQ8 hne hwo8 hwoj hzv hzs hwv g3 k1 k2 k3 k4 e3 e4
                          have HDa := Lib.hid (show ∀ W A, c1 = s → CellsIn wz.heap.size W A ((left.drop s).map (Value.int .i64)) from fun W A e => .inl (by rw [List.drop_eq_nil_of_le (by rw [HLen.out]; exact e ▸ hkc)]; rfl))
                          have HDb := Lib.hid (show ∀ W, Below wz.heap.size wz W → CellsIn wz.heap.size W (some ⟨b4, off4 + s, none⟩) ((left.drop s).map (Value.int .i64)) from fun W hW => ((intsIn_drop HIw.out s).below hW).cells)
                          have HLd := Lib.hid (show ((left.drop s).map (Value.int .i64)).length = (k - s) * 1 from by rw [List.length_map, List.length_drop, HLen.out, Nat.mul_one])
                          have HOne := Lib.hid (show ∀ u ∈ ((left.drop s).map (Value.int .i64)), u.oneCell' = true from fun u hu => by obtain ⟨x, _, rfl⟩ := List.mem_map.1 hu; rfl)
                          have HKc := Lib.hid hkc
                          clear hkc hsk hk5 hpk
                          as_aux_lemma =>
                          refine wp_region_G 9 follows_mixed (fun _ => True) trivial ?_
                          intro hSd inv
                          have HSd := Lib.hid hSd
                          clear hSd
                          refine wpAnyG_take (i := 0) (v := ?_) rfl (by kernel_rfl) (by kernel_rfl) (by kernel_rfl) (by kernel_rfl) (by kernel_rfl) (by decide) (by decide) inv (fun _ _ _ h => h) (Or.inl ⟨by rfl, ?_⟩) HSd.out ?_; rotate_left; (focus (intro W y1; clear y1; go_simp; (first | done | with_reducible rfl))); clear inv; intro inv; simp only [List.getElem_toArray, List.getElem_cons_zero, Act.put, List.setIfInBounds_toArray, List.set_cons_zero, List.set_cons_succ]
                          refine wpAnyG_take (i := 1) (v := ?_) rfl (by kernel_rfl) (by kernel_rfl) (by kernel_rfl) (by kernel_rfl) (by kernel_rfl) (by decide) (by decide) inv (fun _ _ _ h => h) (Or.inl ⟨by rfl, ?_⟩) HSd.out ?_; rotate_left; (focus (intro W y1; clear y1; go_simp; (first | done | with_reducible rfl))); clear inv; intro inv; simp only [List.getElem_toArray, List.getElem_cons_zero, List.getElem_cons_succ, Act.put, List.setIfInBounds_toArray, List.set_cons_zero, List.set_cons_succ]
                          refine wpAnyG_take (i := 2) (v := ?_) rfl (by kernel_rfl) (by kernel_rfl) (by kernel_rfl) (by kernel_rfl) (by kernel_rfl) (by decide) (by decide) inv (fun _ _ _ h => h) (Or.inl ⟨by rfl, ?_⟩) HSd.out ?_; rotate_left; (focus (intro W y1; clear y1; go_simp; (first | done | with_reducible rfl))); clear inv; intro inv; simp only [List.getElem_toArray, List.getElem_cons_zero, List.getElem_cons_succ, Act.put, List.setIfInBounds_toArray, List.set_cons_zero, List.set_cons_succ]
                          refine wpAnyG_take (i := 4) (v := ?_) rfl (by kernel_rfl) (by kernel_rfl) (by kernel_rfl) (by kernel_rfl) (by kernel_rfl) (by decide) (by decide) inv (fun _ _ _ h => h) (Or.inl ⟨by rfl, ?_⟩) HSd.out ?_; rotate_left; (focus (intro W y1; clear y1; go_simp; (first | done | with_reducible rfl))); clear inv; intro inv; simp only [List.getElem_toArray, List.getElem_cons_zero, List.getElem_cons_succ, Act.put, List.setIfInBounds_toArray, List.set_cons_zero, List.set_cons_succ]
                          refine wpAnyG_take (i := 5) (v := ?_) rfl (by kernel_rfl) (by kernel_rfl) (by kernel_rfl) (by kernel_rfl) (by kernel_rfl) (by decide) (by decide) inv (fun _ _ _ h => h) (Or.inl ⟨by rfl, ?_⟩) HSd.out ?_; rotate_left; (focus (intro W y1; clear y1; go_simp; (first | done | with_reducible rfl))); clear inv; intro inv; simp only [List.getElem_toArray, List.getElem_cons_zero, List.getElem_cons_succ, Act.put, List.setIfInBounds_toArray, List.set_cons_zero, List.set_cons_succ]
                          refine wpAnyG_take (i := 6) (v := ?_) rfl (by kernel_rfl) (by kernel_rfl) (by kernel_rfl) (by kernel_rfl) (by kernel_rfl) (by decide) (by decide) inv (fun _ _ _ h => h) (Or.inl ⟨by rfl, ?_⟩) HSd.out ?_; rotate_left; (focus (intro W y1; clear y1; go_simp; (first | done | with_reducible rfl))); clear inv; intro inv; simp only [List.getElem_toArray, List.getElem_cons_zero, List.getElem_cons_succ, Act.put, List.setIfInBounds_toArray, List.set_cons_zero, List.set_cons_succ]
                          refine wpAnyG_take (i := 7) (v := ?_) rfl (by kernel_rfl) (by kernel_rfl) (by kernel_rfl) (by kernel_rfl) (by kernel_rfl) (by decide) (by decide) inv (fun _ _ _ h => h) (Or.inl ⟨by rfl, ?_⟩) HSd.out ?_; rotate_left; (focus (intro W y1; clear y1; go_simp; (first | done | with_reducible rfl))); clear inv; intro inv; simp only [List.getElem_toArray, List.getElem_cons_zero, List.getElem_cons_succ, Act.put, List.setIfInBounds_toArray, List.set_cons_zero, List.set_cons_succ]
                          clear inv
                          as_aux_lemma =>
                          refine wpAnyG_one (i := 3) (by kernel_rfl) rfl rfl fun K hK => ?_
                          go_simp
                          refine (HCo.out _ (pd pr)).mono ?_
                          rintro e w4 ⟨v4, rfl, hown4, hb4⟩
                          obtain ⟨A6, c6, rfl, hc6, hm6⟩ := own_form hown4
                          have hz4 := hb4.size
                          refine hK.out _ _ (fun _ => trivial) ?_
                          clear hK K
                          as_aux_lemma =>
                          refine wpAnyG_one (i := 8) (by kernel_rfl) rfl rfl fun K hK => ?_
                          refine wp_append_cells _ (.tmp 366) (.tmp 370) _ (by rfl) wz.drew.heap.size 3 i1 _ 1 8 Tryz.underlying32 hi1 hy0 hy1 hy2 rfl Nat.one_pos _ p _ (by rfl) hown4 wz.heap.size _ (k - s) (c1 - s) ((left.drop s).map (Value.int .i64)) (by rfl) (by first | exact HDb.out _ (pt (pd pr) hb4) | (split; (focus exact HDa.out _ _ ‹_›); (focus exact HDb.out _ (pt (pd pr) hb4)))) HLd.out HOne.out hm63 hmby hz4 ?_
                          intro v7 w7 hown7 hg7 hat7
                          obtain ⟨A7, c7, rfl, hc7, hm7⟩ := own_form hown7
                          have hb7 : Below wz.heap.size wz w7 := pg (pt (pd pr) hb4) hown4 (Nat.le_refl _) hg7
                          refine hK.out _ _ (fun _ => trivial) ?_
                          clear hK K
                          as_aux_lemma =>
                          refine wpAnyG_one (i := 9) (by kernel_rfl) rfl rfl fun K hK => ?_
                          go_simp
                          refine hK.out _ _ (fun h => absurd h (by decide)) ?_
                          clear hK K
                          refine wpAnyG_done (by kernel_rfl) ?_
                          have HB7 := Lib.hid hb7
                          have HI7 := Lib.hid (show IntsIn w7.heap.size w7 A7 (left.eraseIdx p) from by have q := hown7; rw [show ((left.take p).map (Value.int .i64)) ++ ((left.drop s).map (Value.int .i64)) = (left.eraseIdx p).map (Value.int .i64) by rw [HSs.out]; exact erase_split left p] at q; exact intsIn_of_own q)
                          have HA7 := Lib.hid (show ∀ b off, A7 = some ⟨b, off, none⟩ → b ≠ wf.heap.size from fun b off e => by have q := own_addr hown7 e; exact fun e2 => absurd (Nat.lt_of_lt_of_le hw7 q) (by rw [e2]; exact Nat.lt_irrefl _))
                          clear hown7 hg7 hat7 hown4 hb4 hz4 hc6 hm6 hb7
                          as_aux_lemma =>
                          go_wp2
                          go_roundw
                          case rel => exact ⟨p + (k - s), r2, left.eraseIdx p, fr.set q (max f re + le), max last (max f re + le), A7, c7, rfl, rfl, rfl, hr2, hc7, HA7.out, HI7.out, by rw [HK1.out]; exact HN.out, HF.out.past HB7.out, pt HQz.out HB7.out⟩
                          case measure => exact meas8 HK1.out hk0
                        · obtain rfl : k = 0 := Nat.eq_zero_of_not_pos hk0
                          have hT := HA.out.end_
                          have HT2 := Lib.hid hT
                          have hle := HOl.out n
                          rw [← hT] at hle
                          have hnl : ¬ last < L := Int.not_lt.2 hle
                          have HQe := Lib.hid (pt HQ6.out HQ8.out)
                          clear hT hle HI HA HF HAp HO HQj HOA HT HSm
                          cases rb with
                          | true =>
                            have HR2 := Lib.hid (show true = true ↔ ∃ r, r < n + 1 ∧ ordEnd ts m r = L from ⟨(fun _ => by obtain ⟨r, h1, h2⟩ := HRb.out.1 rfl; exact ⟨r, Nat.lt_succ_of_lt h1, h2⟩), fun _ => rfl⟩)
                            as_aux_lemma =>
                            go_wp2
                            go_roundw
                            case rel => exact ⟨n + 1, true, rfl, vint_succ _, Nat.succ_le_of_lt hln, HR2.out, HQe.out⟩
                            case measure => exact om12 hln
                          | false =>
                            by_cases hE : last = L
                            · have e9 : (last == L) = true := by rw [hE]; exact beq_self_eq_true _
                              have HR2 := Lib.hid (show true = true ↔ ∃ r, r < n + 1 ∧ ordEnd ts m r = L from ⟨fun _ => ⟨n, Nat.lt_succ_self n, by rw [← HT2.out, hE]⟩, fun _ => rfl⟩)
                              clear hE
                              as_aux_lemma =>
                              go_wp2
                              go_roundw
                              case rel => exact ⟨n + 1, true, rfl, vint_succ _, Nat.succ_le_of_lt hln, HR2.out, HQe.out⟩
                              case measure => exact om12 hln
                            · have e9 : (last == L) = false := beq_eq_false_iff_ne.2 hE
                              have HR2 := Lib.hid (show false = true ↔ ∃ r, r < n + 1 ∧ ordEnd ts m r = L from ⟨(fun h => nomatch h), fun ⟨r, h1, h2⟩ => by
                                rcases Nat.lt_or_ge r n with h | h
                                · exact HRb.out.2 ⟨r, h, h2⟩
                                · obtain rfl : r = n := eq_last h1 h
                                  exact absurd (HT2.out.trans h2) hE⟩)
                              as_aux_lemma =>
                              go_wp2
                              go_roundw
                              case rel => exact ⟨n + 1, false, rfl, vint_succ _, Nat.succ_le_of_lt hln, HR2.out, HQe.out⟩
                              case measure => exact om12 hln
                · obtain rfl : n = Fn := Nat.le_antisymm hn (Nat.le_of_not_lt hln)
                  have hrt := HRb.out.2 HFl.out
                  subst hrt
                  as_aux_lemma =>
                  go_wp2
                  go_ret
                  exact ⟨rfl, pt HQw.out (pt HQm.out (pt HQ5.out HQ6.out))⟩

theorem topdried_any (A : Option Addr) (c : Nat) (xs : List Load) (ov : Int) (w : World) (hS : StrIn w) (hr : LoadsIn w.heap.size w A xs) (hcap : xs.length ≤ c) :
    Calls Tryz.prog 3 #[.slice A xs.length c, .int .i64 ov] w fun e w' => e = .returned (.bool true) ∧ Below w.heap.size w w' := by
  by_cases h0 : xs.length = 0
  · exact td_empty A c xs ov w hS hr hcap h0
  · by_cases h1 : 5 < xs.length
    · exact td_many A c xs ov w hS hr hcap h1
    · cases h2 : withinB ov 1 2 with
      | false => exact td_ov A c xs ov w hS hr hcap (by omega) (by omega) h2
      | true => exact td_main A c xs ov w hS hr hcap (by omega) (by omega) h2

end Go.Proofs.YtbojmcopagbheaaGreatDoor
