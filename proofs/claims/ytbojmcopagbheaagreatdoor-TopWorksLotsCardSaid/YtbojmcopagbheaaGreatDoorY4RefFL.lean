/- Contract: the specification's string of a lot. Printed by a program (gen_reffmt.py). -/
import Derived.Test.YtbojmcopagbheaaGreatDoorQ5
namespace Go.Proofs.YtbojmcopagbheaaGreatDoor
open Go.RowKit
attribute [local go_sem ↓] Go.wp_at_zero Go.wp_at_succ

set_option maxHeartbeats 4000000 in
set_option maxRecDepth 100000 in
theorem refFormatLot_core (B : Nat) (nm : List UInt8) (L : List (List UInt8)) (A : Option Addr) (n c : Nat) (x1 x2 x3 x4 : Int) (w : World) (hn : L.length = n) (hA : CellsIn B w A (L.map strV)) (hB : B ≤ w.heap.size) (hm : n ≤ 10) (hnm : nm.length ≤ 40) (hL : ∀ x ∈ L, x.length ≤ 40)
    (i1 : I64 x1) (i2 : I64 x2) (i3 : I64 x3) (i4 : I64 x4) :
    Calls Tryz.prog 35 #[.agg #[.string ⟨nm.toArray⟩, .slice A n c, .int .i64 x1, .int .i64 x2, .int .i64 x3, .int .i64 x4]] w fun e w' => e = .returned (strV (fmtL nm L x1 x2 x3 x4)) ∧ Below w.heap.size w w' := by
  obtain ⟨FT, hFT⟩ : ∃ FT, FT = fmtL nm L x1 x2 x3 x4 := ⟨_, rfl⟩
  rw [← hFT]
  have hz : fmtL nm L x1 x2 x3 x4 = (((((((((nm ++ [32]) ++ listedL L) ++ [32]) ++ Lib.itoa x1) ++ [32]) ++ Lib.itoa x2) ++ [32]) ++ Lib.itoa x3) ++ [32]) ++ Lib.itoa x4 := by unfold fmtL; simp [Lib.join]
  rw [hz] at hFT
  have HFT := Lib.hid hFT
  clear hFT
  have HD := Lib.hid (fun k (hk : I64 k) w' => refDecimal_any k hk.1 hk.2 w')
  have HLs := Lib.hid hL
  have HR := Lib.hid hA
  have HN := Lib.hid hn
  have hxs : L.length ≤ 10 := by omega
  clear hA hn hz hL
  go_enter Tryz.func35, Tryz.ntmps35
  go_wp2
  go_loopw [3, 4] (fun sv iv wr => ∃ i : Nat, sv = strV (listedL (L.take i)) ∧ iv = .int .i64 (i : Int) ∧ i ≤ n ∧ Blk wr w.heap.size 58 #[.string ⟨nm.toArray⟩, .slice A n c, .int .i64 x1, .int .i64 x2, .int .i64 x3, .int .i64 x4] ∧ Below w.heap.size w wr) (fun _ iv _ => n - (intOf iv).toNat)
  case atStart => exact ⟨0, rfl, rfl, Nat.zero_le _, Blk.new w _ _, pa pr⟩
  case round =>
    obtain ⟨i, rfl, rfl, hin, hk, hq⟩ := hrel
    have HQ := Lib.hid hq
    have n0 : (0 : Int) ≤ (i : Int) := by omega
    have k1 := hk.cellAt 1 rfl
    have kl := hk.lt
    clear hq
    by_cases hlt : i < n
    · have n1 : (i : Int) < (n : Int) := by omega
      have hlx : i < L.length := by have := HN.out; omega
      have hget : L.getD i [] = L[i] := by simp [List.getD, hlx]
      obtain ⟨b, off, rfl, hb, hc⟩ : ∃ b off, A = some ⟨b, off, none⟩ ∧ b < B ∧ ∀ j, j < (L.map strV).length → w.cell? ⟨b, off + j, none⟩ = (L.map strV)[j]? := by
        rcases HR.out with h | h
        · have h : L = [] := by simpa using h
          subst h
          simp at hlx
        · exact h
      have hcell : wr.cell? ⟨b, off + i, none⟩ = some (.string ⟨(L.getD i []).toArray⟩) := ((bcell HQ.out).1 b _ (by omega)).trans ((hc i (by simpa using hlx)).trans (by rw [List.getElem?_map, List.getElem?_eq_getElem hlx, hget]; rfl))
      have e1 : IntKind.i64.wrap ((i : Int) + 1) = (i : Int) + 1 := IntWalk.i64_in _ (by omega)
      have hxl : (L.getD i []).length ≤ 40 := HLs.out _ (by rw [hget]; exact List.getElem_mem hlx)
      have hll := listed_len (L.take i) 40 (fun x hx => HLs.out x (List.mem_of_mem_take hx))
      have hll : (listedL (L.take i)).length ≤ 411 := by
        have : (L.take i).length ≤ 10 := by simp; omega
        have := Nat.mul_le_mul_right 41 this
        omega
      have hT : L.take (i + 1) = L.take i ++ [L.getD i []] := by rw [List.take_succ_eq_append_getElem hlx, hget]
      clear hc hget
      by_cases h0 : i = 0
      · subst h0
        have HT := Lib.hid (show listedL (L.take (0 + 1)) = L.getD 0 [] by rw [hT]; exact listedL_one _)
        have hcell0 : wr.cell? ⟨b, off, none⟩ = some (.string ⟨(L.getD 0 []).toArray⟩) := hcell
        clear hT hll hcell
        generalize L.getD 0 [] = x at *
        go_wp2
        go_roundw
        case rel => exact ⟨0 + 1, by rw [HT.out], by go_num, by omega, hk, HQ.out⟩
        case measure => simp [intOf]; omega
      · have hne : L.take i ≠ [] := by
          intro e
          have := congrArg List.length e
          rw [List.length_take, List.length_nil] at this
          omega
        have hz0 : ((i : Int) == 0) = false := by simp; omega
        have HT := Lib.hid (show listedL (L.take (i + 1)) = (listedL (L.take i) ++ [44]) ++ L.getD i [] by rw [hT, listedL_snoc _ hne]; simp)
        clear hT h0 hne
        generalize listedL (L.take i) = S at *
        generalize L.getD i [] = x at *
        have f1 := add_list S [44] (by simp; omega)
        have f2 := add_list (S ++ [44]) x (by simp; omega)
        generalize (S ++ [44]) ++ x = X2 at *
        generalize S ++ [44] = X1 at *
        go_wp2
        go_roundw
        case rel => exact ⟨i + 1, by rw [HT.out], by go_num, by omega, hk, HQ.out⟩
        case measure => simp [intOf]; omega
    · have hie : i = n := by omega
      subst hie
      have hT : L.take i = L := List.take_of_length_le (by have := HN.out; omega)
      rw [hT]
      have l1 := itoa_len i1.1 i1.2
      have l2 := itoa_len i2.1 i2.2
      have l3 := itoa_len i3.1 i3.2
      have l4 := itoa_len i4.1 i4.2
      have l5 := listed_len _ 40 HLs.out
      have l5 : (listedL L).length ≤ 411 := by
        have := Nat.mul_le_mul_right 41 hxs
        omega
      have k0 := hk.cellAt 0 rfl
      have k2 := hk.cellAt 2 rfl
      have k3 := hk.cellAt 3 rfl
      have k4 := hk.cellAt 4 rfl
      have k5 := hk.cellAt 5 rfl
      have H1 := Lib.hid (HD.out x1 i1)
      have H2 := Lib.hid (HD.out x2 i2)
      have H3 := Lib.hid (HD.out x3 i3)
      have H4 := Lib.hid (HD.out x4 i4)
      clear hT HD HR HN HLs i1 i2 i3 i4 hlt
      generalize listedL L = LL at *
      generalize Lib.itoa x1 = L1 at *
      generalize Lib.itoa x2 = L2 at *
      generalize Lib.itoa x3 = L3 at *
      generalize Lib.itoa x4 = L4 at *
      have f1 := add_list (nm) [32] (by simp; omega)
      have f2 := add_list ((nm) ++ [32]) LL (by simp; omega)
      have f3 := add_list (((nm) ++ [32]) ++ LL) [32] (by simp; omega)
      have f4 := add_list ((((nm) ++ [32]) ++ LL) ++ [32]) L1 (by simp; omega)
      have f5 := add_list (((((nm) ++ [32]) ++ LL) ++ [32]) ++ L1) [32] (by simp; omega)
      have f6 := add_list ((((((nm) ++ [32]) ++ LL) ++ [32]) ++ L1) ++ [32]) L2 (by simp; omega)
      have f7 := add_list (((((((nm) ++ [32]) ++ LL) ++ [32]) ++ L1) ++ [32]) ++ L2) [32] (by simp; omega)
      have f8 := add_list ((((((((nm) ++ [32]) ++ LL) ++ [32]) ++ L1) ++ [32]) ++ L2) ++ [32]) L3 (by simp; omega)
      have f9 := add_list (((((((((nm) ++ [32]) ++ LL) ++ [32]) ++ L1) ++ [32]) ++ L2) ++ [32]) ++ L3) [32] (by simp; omega)
      have f10 := add_list ((((((((((nm) ++ [32]) ++ LL) ++ [32]) ++ L1) ++ [32]) ++ L2) ++ [32]) ++ L3) ++ [32]) L4 (by simp; omega)
      generalize ((((((((((nm) ++ [32]) ++ LL) ++ [32]) ++ L1) ++ [32]) ++ L2) ++ [32]) ++ L3) ++ [32]) ++ L4 = X10 at *
      generalize (((((((((nm) ++ [32]) ++ LL) ++ [32]) ++ L1) ++ [32]) ++ L2) ++ [32]) ++ L3) ++ [32] = X9 at *
      generalize ((((((((nm) ++ [32]) ++ LL) ++ [32]) ++ L1) ++ [32]) ++ L2) ++ [32]) ++ L3 = X8 at *
      generalize (((((((nm) ++ [32]) ++ LL) ++ [32]) ++ L1) ++ [32]) ++ L2) ++ [32] = X7 at *
      generalize ((((((nm) ++ [32]) ++ LL) ++ [32]) ++ L1) ++ [32]) ++ L2 = X6 at *
      generalize (((((nm) ++ [32]) ++ LL) ++ [32]) ++ L1) ++ [32] = X5 at *
      generalize ((((nm) ++ [32]) ++ LL) ++ [32]) ++ L1 = X4 at *
      generalize (((nm) ++ [32]) ++ LL) ++ [32] = X3 at *
      generalize ((nm) ++ [32]) ++ LL = X2 at *
      generalize (nm) ++ [32] = X1 at *
      clear l1 l2 l3 l4 l5 hnm
      go_wp2
      refine region_below 29 follows_mixed (by kernel_rfl) ?_
      intro C hC
      simp only [List.take_succ_cons, List.take_zero, List.drop_succ_cons, List.drop_zero]
      repeat (first
        | ((with_reducible refine quiet_plain rfl (fun K hK => ?_)); (focus (apply quiet_val; (focus (intro w' hw; obtain ⟨hcq, hfq⟩ := bcell ((hC.out _).1 hw); go_simp; (first | done | rfl | (with_reducible exact call_below hC hw (H1.out _)) | (with_reducible exact call_below hC hw (H2.out _)) | (with_reducible exact call_below hC hw (H3.out _)) | (with_reducible exact call_below hC hw (H4.out _))))); (simp only [Act.put, List.setIfInBounds_toArray, List.set_cons_succ, List.set_cons_zero]); (with_reducible refine hK _ ?_); clear hK K)))
        | ((with_reducible refine quiet_skip ?_ ?_); (focus (first | (simp [Region.wanted, yielded]; done) | (simp [Region.wanted, yielded, undef]; done))); simp only [Act.put, List.setIfInBounds_toArray, List.set_cons_succ, List.set_cons_zero])
        | ((with_reducible refine quiet_go ?_ (fun K hK => ?_)); (focus (first | (simp [Region.wanted, yielded]; done) | (simp [Region.wanted, yielded, undef]; done))); (focus (apply quiet_val; (focus (intro w' hw; obtain ⟨hcq, hfq⟩ := bcell ((hC.out _).1 hw); go_simp; (first | done | rfl | (with_reducible exact call_below hC hw (H1.out _)) | (with_reducible exact call_below hC hw (H2.out _)) | (with_reducible exact call_below hC hw (H3.out _)) | (with_reducible exact call_below hC hw (H4.out _))))); (simp only [Act.put, List.setIfInBounds_toArray, List.set_cons_succ, List.set_cons_zero]); (with_reducible refine hK _ ?_); clear hK K))))
      refine wpQuiet_nil ?_
      intro w1 hb1
      replace hb1 := (hC.out _).1 hb1
      clear hC C
      obtain ⟨hc1, hf1⟩ := bcell hb1
      go_wp2
      go_ret
      exact ⟨by rw [HFT.out]; rfl, pt HQ.out hb1⟩

end Go.Proofs.YtbojmcopagbheaaGreatDoor
