/- WorksLots: for every input the law returns true, and nothing that was there is turned (the walk). Lots whose cells lie in memory. -/
import Derived.Test.YtlgioldmjohhlaaT9RefSusp
import Derived.Test.YtlgioldmjohhlaaT6Copies
import Derived.Test.YtlgioldmjohhlaaT7Works
import Derived.Test.YtlgioldmjohhlaaM9
namespace Go.Proofs.Ytlgioldmjohhlaa
open Go.RowKit


set_option maxHeartbeats 2000000 in
set_option maxRecDepth 100000 in
theorem lots_skip (A : Option Addr) (c : Nat) (xs : List Lot) (w : World) (hr : LotsIn w.heap.size w A xs) (h : smallB xs = false) :
    Calls Try.prog 6 #[.slice A xs.length c] w fun e w' => e = .returned (.bool true) ∧ Below w.heap.size w w' := by
  have HBx := Lib.hid (Below.refl w.heap.size w)
  have hsm := fun W (hW : Below w.heap.size w W) => small_any w.heap.size xs A c W (hr.below hW) hW.size
  rw [h] at hsm
  have HSm := Lib.hid hsm
  clear hr hsm h
  go_enter Try.func6, Try.ntmps6
  go_wp2_with (first
    | (go_at_call 15; refine (awake_any _).mono ?_; rintro e w1 ⟨rfl, hb⟩; replace HBx := Lib.hid (pt HBx.out hb); clear hb)
    | (go_at_call 34; go_must (refine (HSm.out _ HBx.out).mono ?_); rintro e w1 ⟨rfl, hb⟩; replace HBx := Lib.hid (pt HBx.out hb); clear hb))
  go_ret
  exact ⟨rfl, HBx.out⟩

theorem susp_uni (xs : List Lot) (A : Option Addr) (c : Nat) (w : World) (hr : LotsIn w.heap.size w A xs) (hs : SmallLots xs) :
    Calls Try.prog 37 #[.slice A xs.length c] w fun e w' => ∃ A2 c2, e = .returned (.tuple #[.slice A2 (if (openLotsV xs).2 = 0 then suspectsV xs else []).length c2, .int .i64 (openLotsV xs).2]) ∧ RowIn Value.string w'.heap.size w' A2 (if (openLotsV xs).2 = 0 then suspectsV xs else []) ∧ Below w.heap.size w w' := by
  by_cases h : (openLotsV xs).2 = 0
  · rw [h, if_pos rfl]
    exact (suspectsIn_ok w.heap.size xs A c w hr (Nat.le_refl _) hs h).mono fun e w' ⟨A2, c2, h1, h2, _, h3⟩ => ⟨A2, c2, h1, h2, h3⟩
  · rw [if_neg h]
    exact (suspectsIn_err w.heap.size xs A c w hr (Nat.le_refl _) hs h).mono fun e w' ⟨h1, h2⟩ => ⟨none, 0, h1, .nil, h2⟩


set_option maxHeartbeats 4000000 in
set_option maxRecDepth 100000 in
theorem lots_go (A : Option Addr) (c : Nat) (xs : List Lot) (w : World) (hr : LotsIn w.heap.size w A xs) (hcap : xs.length ≤ c) (h : smallB xs = true) :
    Calls Try.prog 6 #[.slice A xs.length c] w fun e w' => e = .returned (.bool true) ∧ Below w.heap.size w w' := by
  have HBx := Lib.hid (Below.refl w.heap.size w)
  have hs := small_lots h
  have hsm := fun W (hW : Below w.heap.size w W) => small_any w.heap.size xs A c W (hr.below hW) hW.size
  rw [h] at hsm
  have hck := fun W A1 c1 (h1 : LotsIn W.heap.size W A1 xs) => checkLots_any W.heap.size xs A1 c1 W h1 (Nat.le_refl _) hs
  have hsu := fun W A1 c1 (h1 : LotsIn W.heap.size W A1 xs) => susp_uni xs A1 c1 W h1 hs
  have hrck := fun W (hW : Below w.heap.size w W) => refCheckLots_any w.heap.size xs A c W (hr.below hW) hW.size hs hcap
  have hrsu := fun (h0 : (openLotsV xs).2 = 0) W (hW : Below w.heap.size w W) => refSuspects_any w.heap.size xs A c W (hr.below hW) hW.size (lotsOk_of h0)
  have HYs := Lib.hid (show (openLotsV xs).2 = 0 → suspectsV xs = (if (openLotsV xs).2 = 0 then suspectsV xs else []) from fun h => by rw [if_pos h])
  have HYl := Lib.hid (show (if (openLotsV xs).2 = 0 then suspectsV xs else []).length ≤ 1000 by
    split
    · exact Nat.le_trans (namesV_le _ _) hs.1
    · exact Nat.zero_le _)
  have HYn := Lib.hid (show (openLotsV xs).2 ≠ 0 → (if (openLotsV xs).2 = 0 then suspectsV xs else []).length = 0 from fun h => by rw [if_neg h]; rfl)
  have hl := hs.1
  generalize (if (openLotsV xs).2 = 0 then suspectsV xs else []) = YS at *
  generalize (openLotsV xs).1 = I at *
  generalize (openLotsV xs).2 = E at *
  have HSm := Lib.hid hsm
  have HCk := Lib.hid hck
  have HSu := Lib.hid hsu
  have HRCk := Lib.hid hrck
  have HRSu := Lib.hid hrsu
  have HR := Lib.hid hr
  have HS := Lib.hid hs
  clear hr hsm h hck hsu hrck hrsu hs
  go_enter Try.func6, Try.ntmps6
  go_wp2_with (first
    | (go_at_call 15; refine (awake_any _).mono ?_; rintro e w1 ⟨rfl, hb⟩; replace HBx := Lib.hid (pt HBx.out hb); clear hb)
    | (go_at_call 34; go_must (refine (HSm.out _ HBx.out).mono ?_); rintro e w1 ⟨rfl, hb⟩; replace HBx := Lib.hid (pt HBx.out hb); clear hb)
    | (go_at_call 36; go_must (refine (copyLots_any w.heap.size xs A xs.length c _ (HR.out.below HBx.out) rfl HBx.out.size HS.out).mono ?_); rintro e w2 ⟨A1, c1, rfl, hl1, hc1, hb⟩; have HL1 := Lib.hid hl1; replace HBx := Lib.hid (pt HBx.out hb); clear hb; clear hl1)
    | (go_at_call 35; go_must (refine (HCk.out _ A1 c1 HL1.out).mono ?_); rintro e w3 ⟨rfl, hb⟩; replace HBx := Lib.hid (pt HBx.out hb); clear hb)
    | (go_at_call 37; go_must (refine (HSu.out _ A1 c1 HL1.out).mono ?_); rintro e w4 ⟨A2, c2, rfl, hi2, hb⟩; have HI2 := Lib.hid hi2; clear hi2; replace HBx := Lib.hid (pt HBx.out hb); clear hb)
    | (go_at_call 38; go_must (refine (HRCk.out _ HBx.out).mono ?_); rintro e w6 ⟨rfl, hb⟩; (replace HI2 := Lib.hid ((HI2.out.below hb).more hb.size)); replace HBx := Lib.hid (pt HBx.out hb); clear hb))
  have HB6 := Lib.hid HBx.out
  clear HBx
  go_loopw [9] (fun iv wr => ∃ i : Nat, iv = .int .i64 (i : Int) ∧ i ≤ xs.length ∧ Below w6.heap.size w6 wr) (fun iv _ => xs.length - (intOf iv).toNat)
  case atStart => exact ⟨0, rfl, Nat.zero_le _, pr⟩
  case round =>
    obtain ⟨i, rfl, hi, hq⟩ := hrel
    have HBx := Lib.hid (pt HB6.out hq)
    have HBy := Lib.hid hq
    clear hq
    by_cases hlt : i < xs.length
    · obtain ⟨b, off, hA, hbB, hct⟩ := HR.out.at_ hlt
      subst hA
      obtain ⟨t0w, A3, c3, t1w, tr, tc, t2w, t3w, t4w, t5w⟩ := hct i hlt
      have n0 : (0 : Int) ≤ (i : Int) := by omega
      have n1 : (i : Int) < (xs.length : Int) := by omega
      have hsx := HS.out.2 i hlt
      clear hct
      generalize xs.getD i default = x at *
      have HT0 := Lib.hid t0w
      have HT1 := Lib.hid t1w
      have HT2 := Lib.hid t2w
      have HT3 := Lib.hid t3w
      have HT4 := Lib.hid t4w
      have HT5 := Lib.hid t5w
      have HTr := Lib.hid tr
      have HSx := Lib.hid hsx
      have hra := fun W => refAccept_any x A3 x.made.length c3 W
      have hrl := fun W (hW : Below w.heap.size w W) => refLotErr_any w.heap.size x A3 x.made.length c3 W rfl (HTr.out.below hW) hW.size HSx.out tc
      have hac := fun W A5 c5 (h1 : TextRow W A5 x.made) (h2 : x.made.length ≤ c5) => acceptOf_any W.heap.size x A5 x.made.length c5 W rfl h1.row (Nat.le_refl _) HSx.out h2
      clear t0w t1w t2w t3w t4w t5w tr hsx
      have HRa := Lib.hid hra
      clear hra
      by_cases hz : lotE x = 0
      · rw [hz] at hrl
        rw [if_pos hz, hz] at hac
        have HRl := Lib.hid hrl
        have HAc := Lib.hid hac
        clear hrl hac hz
        generalize acceptV x = V at *
        have t0 := ((bcell HBx.out).1 _ _ hbB).trans HT0.out; have t1 := ((bcell HBx.out).1 _ _ hbB).trans HT1.out; have t2 := ((bcell HBx.out).1 _ _ hbB).trans HT2.out; have t3 := ((bcell HBx.out).1 _ _ hbB).trans HT3.out; have t4 := ((bcell HBx.out).1 _ _ hbB).trans HT4.out; have t5 := ((bcell HBx.out).1 _ _ hbB).trans HT5.out; have tx := Nat.lt_of_lt_of_le hbB HBx.out.size
        go_wp2_with (first
          | (go_at_call 40; go_must (refine (copyLot_any w.heap.size x A3 x.made.length c3 _ (by rfl) (HTr.out.below HBx.out) HBx.out.size HSx.out).mono ?_); rintro e w2 ⟨A5, c5, rfl, hrow5, hc5, hb⟩; have HRow5 := Lib.hid hrow5; have HC5 := Lib.hid hc5; clear t0 t1 t2 t3 t4 t5 tx hrow5 hc5; replace HBx := Lib.hid (pt HBx.out hb); replace HBy := Lib.hid (pt HBy.out hb); clear hb)
          | (go_at_call 39; go_must (refine (HAc.out _ A5 c5 HRow5.out HC5.out).mono ?_); rintro e w3 ⟨rfl, hb⟩; replace HBx := Lib.hid (pt HBx.out hb); replace HBy := Lib.hid (pt HBy.out hb); clear hb; have t0 := ((bcell HBx.out).1 _ _ hbB).trans HT0.out; have t1 := ((bcell HBx.out).1 _ _ hbB).trans HT1.out; have t2 := ((bcell HBx.out).1 _ _ hbB).trans HT2.out; have t3 := ((bcell HBx.out).1 _ _ hbB).trans HT3.out; have t4 := ((bcell HBx.out).1 _ _ hbB).trans HT4.out; have t5 := ((bcell HBx.out).1 _ _ hbB).trans HT5.out; have tx := Nat.lt_of_lt_of_le hbB HBx.out.size)
          | (go_at_call 41; go_must (refine (HRl.out _ HBx.out).mono ?_); rintro e w4 ⟨rfl, hb⟩; clear t0 t1 t2 t3 t4 t5 tx; replace HBx := Lib.hid (pt HBx.out hb); replace HBy := Lib.hid (pt HBy.out hb); clear hb; have t0 := ((bcell HBx.out).1 _ _ hbB).trans HT0.out; have t1 := ((bcell HBx.out).1 _ _ hbB).trans HT1.out; have t2 := ((bcell HBx.out).1 _ _ hbB).trans HT2.out; have t3 := ((bcell HBx.out).1 _ _ hbB).trans HT3.out; have t4 := ((bcell HBx.out).1 _ _ hbB).trans HT4.out; have t5 := ((bcell HBx.out).1 _ _ hbB).trans HT5.out; have tx := Nat.lt_of_lt_of_le hbB HBx.out.size)
          | (go_at_call 42; go_must (refine (HRa.out _).mono ?_); rintro e w5 ⟨rfl, hb⟩; replace HBx := Lib.hid (pt HBx.out hb); replace HBy := Lib.hid (pt HBy.out hb); clear hb))
        go_roundw
        case rel => exact ⟨i + 1, by go_num, by omega, HBy.out⟩
        case measure => simp [intOf]; omega
      · rw [if_neg hz] at hac
        have HRl := Lib.hid hrl
        have HAc := Lib.hid hac
        have hz1 : (lotE x != 0) = true := by simpa using hz
        have hz2 : (lotE x == 0) = false := by simpa using hz
        clear hrl hac hz
        generalize lotE x = V at *
        have t0 := ((bcell HBx.out).1 _ _ hbB).trans HT0.out; have t1 := ((bcell HBx.out).1 _ _ hbB).trans HT1.out; have t2 := ((bcell HBx.out).1 _ _ hbB).trans HT2.out; have t3 := ((bcell HBx.out).1 _ _ hbB).trans HT3.out; have t4 := ((bcell HBx.out).1 _ _ hbB).trans HT4.out; have t5 := ((bcell HBx.out).1 _ _ hbB).trans HT5.out; have tx := Nat.lt_of_lt_of_le hbB HBx.out.size
        go_wp2_with (first
          | (go_at_call 40; go_must (refine (copyLot_any w.heap.size x A3 x.made.length c3 _ (by rfl) (HTr.out.below HBx.out) HBx.out.size HSx.out).mono ?_); rintro e w2 ⟨A5, c5, rfl, hrow5, hc5, hb⟩; have HRow5 := Lib.hid hrow5; have HC5 := Lib.hid hc5; clear t0 t1 t2 t3 t4 t5 tx hrow5 hc5; replace HBx := Lib.hid (pt HBx.out hb); replace HBy := Lib.hid (pt HBy.out hb); clear hb)
          | (go_at_call 39; go_must (refine (HAc.out _ A5 c5 HRow5.out HC5.out).mono ?_); rintro e w3 ⟨rfl, hb⟩; replace HBx := Lib.hid (pt HBx.out hb); replace HBy := Lib.hid (pt HBy.out hb); clear hb; have t0 := ((bcell HBx.out).1 _ _ hbB).trans HT0.out; have t1 := ((bcell HBx.out).1 _ _ hbB).trans HT1.out; have t2 := ((bcell HBx.out).1 _ _ hbB).trans HT2.out; have t3 := ((bcell HBx.out).1 _ _ hbB).trans HT3.out; have t4 := ((bcell HBx.out).1 _ _ hbB).trans HT4.out; have t5 := ((bcell HBx.out).1 _ _ hbB).trans HT5.out; have tx := Nat.lt_of_lt_of_le hbB HBx.out.size)
          | (go_at_call 41; go_must (refine (HRl.out _ HBx.out).mono ?_); rintro e w4 ⟨rfl, hb⟩; clear t0 t1 t2 t3 t4 t5 tx; replace HBx := Lib.hid (pt HBx.out hb); replace HBy := Lib.hid (pt HBy.out hb); clear hb; have t0 := ((bcell HBx.out).1 _ _ hbB).trans HT0.out; have t1 := ((bcell HBx.out).1 _ _ hbB).trans HT1.out; have t2 := ((bcell HBx.out).1 _ _ hbB).trans HT2.out; have t3 := ((bcell HBx.out).1 _ _ hbB).trans HT3.out; have t4 := ((bcell HBx.out).1 _ _ hbB).trans HT4.out; have t5 := ((bcell HBx.out).1 _ _ hbB).trans HT5.out; have tx := Nat.lt_of_lt_of_le hbB HBx.out.size))
        go_roundw
        case rel => exact ⟨i + 1, by go_num, by omega, HBy.out⟩
        case measure => simp [intOf]; omega
    · have HI3 := Lib.hid ((HI2.out.below HBy.out).more HBy.out.size)
      clear HI2
      by_cases h0 : E = 0
      · subst h0
        have HRs := Lib.hid (HRSu.out rfl _ HBx.out)
        rw [HYs.out rfl] at HRs
        have hyl := HYl.out
        go_wp2_with (first
          | (go_at_call 44; go_must (refine HRs.out.mono ?_); rintro e w7 ⟨A7, c7, rfl, hi7, _, hb⟩; have HI7 := Lib.hid hi7; replace HI3 := Lib.hid ((HI3.out.below hb).more hb.size); clear hi7; replace HBx := Lib.hid (pt HBx.out hb); replace HBy := Lib.hid (pt HBy.out hb); clear hb)
          | (go_at_call 43; go_must (refine (texts_any _ A2 A7 c2 c7 YS YS _ HI3.out HI7.out (by omega)).mono ?_); rintro e w8 ⟨rfl, hb⟩; rw [show textsB YS YS = true by simp [textsB]]; replace HBx := Lib.hid (pt HBx.out hb); replace HBy := Lib.hid (pt HBy.out hb); clear hb))
        go_ret
        exact ⟨rfl, HBx.out⟩
      · have h1 : (E != 0) = true := by simpa using h0
        have h2 := HYn.out h0
        clear h0 HI3
        generalize YS.length = N at *
        subst h2
        go_wp2
        go_ret
        exact ⟨rfl, HBx.out⟩

end Go.Proofs.Ytlgioldmjohhlaa
