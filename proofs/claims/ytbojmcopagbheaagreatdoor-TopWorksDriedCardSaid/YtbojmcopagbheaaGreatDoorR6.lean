/- Contracts: the specification's LotErr, AcceptOf and CheckLots, over the same values as the program's.
Contract: the specification's CheckLots, over the same value as the program's. -/
import Derived.Test.YtbojmcopagbheaaGreatDoorR5
import Derived.Deep.RegionHeld3
import Derived.Deep.QuietTactic
import Derived.BigQuiet

section
namespace Go.Proofs.YtbojmcopagbheaaGreatDoor
open Go.RowKit


set_option maxHeartbeats 2000000 in
set_option maxRecDepth 100000 in
theorem refLotErr_any (B : Nat) (x : Lot) (A : Option Addr) (n c : Nat) (w : World) (hn : x.made.length = n) (hr : RowIn Value.string B w A x.made) (hB : B ≤ w.heap.size) (hs : SmallLot x) (hcap : n ≤ c) :
    Calls Tryz.prog 36 #[.agg #[.string x.name, .slice A n c, .int .i64 x.mlo, .int .i64 x.mhi, .int .i64 x.llo, .int .i64 x.lhi]] w fun e w' => e = .returned (.int .i64 (lotE x)) ∧ Below w.heap.size w w' := by
  obtain ⟨nm, xs, mlo, mhi, llo, lhi⟩ := x
  obtain ⟨hs1, hs2, hs3⟩ := hs
  dsimp only at *
  have HT := Lib.hid (show lotE ⟨nm, xs, mlo, mhi, llo, lhi⟩ = if lotE1 ⟨nm, xs, mlo, mhi, llo, lhi⟩ ≠ 0 then lotE1 ⟨nm, xs, mlo, mhi, llo, lhi⟩ else if (scan (madeErr xs) xs.length 0).2 ≠ 0 then (scan (madeErr xs) xs.length 0).2 else lotE3 ⟨nm, xs, mlo, mhi, llo, lhi⟩ from rfl)
  have HV1 := Lib.hid (show lotE1 ⟨nm, xs, mlo, mhi, llo, lhi⟩ = firstV [unlessV (nameB nm) 4, unlessV (decide ((n : Int) ≤ 6)) 8] by rw [← hn]; rfl)
  have HV3 := Lib.hid (show lotE3 ⟨nm, xs, mlo, mhi, llo, lhi⟩ = if rangeErrV valueB mlo mhi = 0 then rangeErrV valueB llo lhi else rangeErrV valueB mlo mhi by
    show firstV [rangeErrV valueB mlo mhi, rangeErrV valueB llo lhi] = _
    simp only [firstV]
    split
    · split <;> simp_all
    · rfl)
  have HN := Lib.hid hn
  have HR := Lib.hid hr
  have HS3 := Lib.hid hs3
  have hn2 : n ≤ 1000 := by omega
  clear hn hr hs3
  generalize lotE ⟨nm, xs, mlo, mhi, llo, lhi⟩ = E at *
  generalize lotE1 ⟨nm, xs, mlo, mhi, llo, lhi⟩ = E1 at *
  generalize lotE3 ⟨nm, xs, mlo, mhi, llo, lhi⟩ = E3 at *
  cases hnm : nameB nm with
  | false =>
    have HE := Lib.hid (show E = 4 by rw [HT.out, HV1.out, hnm]; rfl)
    have HNm := Lib.hid (show ∀ W, Calls Tryz.prog 82 #[.string nm] W fun e w' => e = .returned (.bool false) ∧ W = w' from fun W => hnm ▸ baseIsName_any nm W hs1)
    clear HT HV1 HV3 hnm
    go_enter Tryz.func36, Tryz.ntmps36
    go_wp2_with (go_at_call 82; go_must (refine (HNm.out _).mono ?_); rintro e w' ⟨rfl, rfl⟩)
    go_ret
    exact ⟨ret_int HE.out.symm, pa pr⟩
  | true =>
    have HNm := Lib.hid (show ∀ W, Calls Tryz.prog 82 #[.string nm] W fun e w' => e = .returned (.bool true) ∧ W = w' from fun W => hnm ▸ baseIsName_any nm W hs1)
    by_cases h6 : (6 : Int) < (n : Int)
    · have HE := Lib.hid (show E = 8 by rw [HT.out, HV1.out, hnm, decide_eq_false (show ¬ (n : Int) ≤ 6 by omega)]; rfl)
      have h6n : 6 < n := by omega
      clear HT HV1 HV3 hnm
      go_enter Tryz.func36, Tryz.ntmps36
      go_wp2_with (go_at_call 82; go_must (refine (HNm.out _).mono ?_); rintro e w' ⟨rfl, rfl⟩)
      go_ret
      exact ⟨ret_int HE.out.symm, pa pr⟩
    · have HTE := Lib.hid (show E = if (scan (madeErr xs) xs.length 0).2 ≠ 0 then (scan (madeErr xs) xs.length 0).2 else E3 by rw [HT.out, HV1.out, hnm, decide_eq_true (show (n : Int) ≤ 6 by omega)]; rfl)
      have h6n : ¬ 6 < n := by omega
      have h6d : decide ((6 : Int) < (n : Int)) = false := decide_eq_false h6
      clear HT HV1 hnm
      go_enter Tryz.func36, Tryz.ntmps36
      go_wp2_with (go_at_call 82; go_must (refine (HNm.out _).mono ?_); rintro e w' ⟨rfl, rfl⟩)
      clear h6n h6d h6
      have r0 : Blk (w.alloc (.cells #[.string nm, .slice A n c, .int .i64 mlo, .int .i64 mhi, .int .i64 llo, .int .i64 lhi] 58)) w.heap.size 58 #[.string nm, .slice A n c, .int .i64 mlo, .int .i64 mhi, .int .i64 llo, .int .i64 lhi] := Blk.newAt rfl
      go_loopw [3] (fun i wr => ∃ k : Nat, k ≤ n ∧ i = .int .i64 (k : Int) ∧ scan (madeErr xs) xs.length 0 = scan (madeErr xs) xs.length k ∧ Blk wr w.heap.size 58 #[.string nm, .slice A n c, .int .i64 mlo, .int .i64 mhi, .int .i64 llo, .int .i64 lhi] ∧ Below w.heap.size w wr) (fun i _ => n - (intOf i).toNat)
      case atStart => exact ⟨0, Nat.zero_le _, rfl, rfl, r0, pa pr⟩
      case round =>
        obtain ⟨k, hk, rfl, hf, q0, hq⟩ := hrel
        clear r0
        have c1 := q0.cellAt 1 rfl
        have z0 := q0.lt
        by_cases hlt : k < n
        · obtain ⟨b, off, hA, hbB, hcell⟩ := (HR.out.below (hq.mono hB)).at_ (k := k) (by rw [HN.out]; exact hlt)
          subst hA
          have hbw := Nat.lt_of_lt_of_le hbB (Nat.le_trans hB hq.size)
          have d0 := hcell k (by rw [HN.out]; exact hlt)
          have HF := Lib.hid (hf.trans (scan_step (by rw [HN.out]; exact hlt)))
          have HE := Lib.hid (show madeErr xs k = firstV [unlessV (nameB (xs.getD k default)) 4, unlessV (!anyG (sameS (xs.getD k default)) (xs.take k)) 23] from rfl)
          have hsz := HS3.out k
          have HR1 := Lib.hid ((HR.out.below (hq.mono hB)))
          have HTk := Lib.hid (show (xs.take k).length = k by have := HN.out; simp; omega)
          have i0 : (0 : Int) ≤ (k : Int) := by omega
          have i1 : (k : Int) ≤ (c : Int) := by omega
          have i2 : (k : Int) < (n : Int) := by omega
          have hk1000 : k ≤ 1000 := by omega
          have HQ0 := Lib.hid q0
          have HNx := Lib.hid fun W => baseIsName_any (xs.getD k default) W hsz
          have HTx := Lib.hid fun (nq : Nat) (W : World) (hW : W = wr.drewN nq) => baseHasText_any B (some ⟨b, off, none⟩) k c (xs.take k) (xs.getD k default) W (hW ▸ (HR1.out.below (below_drewN' (Below.refl _ _) nq)).take k) HTk.out (by omega)
          clear hcell hf q0
          generalize hy : xs.getD k default = y at *
          have HZ := Lib.hid (show madeErr xs k = 0 → scan (madeErr xs) xs.length 0 = scan (madeErr xs) xs.length (k + 1) from fun hz => by rw [HF.out, if_pos hz])
          have HG := Lib.hid (show madeErr xs k ≠ 0 → E = madeErr xs k from fun hz => by
            have e : scan (madeErr xs) xs.length 0 = (k, madeErr xs k) := by rw [HF.out, if_neg hz]
            rw [HTE.out, e, if_pos hz])
          clear HF hy
          cases hny : nameB y with
          | false =>
            have HR4 := Lib.hid (show E = 4 by
              have h4 : madeErr xs k = 4 := by rw [HE.out, hny]; rfl
              rw [HG.out (by rw [h4]; decide), h4])
            rw [hny] at HNx
            clear hny
            go_wp2_with (go_at_call 82; go_must (refine (HNx.out _).mono ?_); rintro e w' ⟨rfl, rfl⟩)
            go_ret
            exact ⟨ret_int HR4.out.symm, hq⟩
          | true =>
            rw [hny] at HNx
            cases hta : hasT (xs.take k) y with
            | true =>
              have HR4 := Lib.hid (show E = 23 by
                have h4 : madeErr xs k = 23 := by rw [HE.out, hny, show anyG (sameS y) (xs.take k) = true from hta]; rfl
                rw [HG.out (by rw [h4]; decide), h4])
              rw [hta] at HTx
              clear hny hta
              go_wp2_with (go_at_call 82; go_must (refine (HNx.out _).mono ?_); rintro e w' ⟨rfl, rfl⟩)
              go_quiet ((go_at_call 31; exact Calls.quiet_of_same ((HTx.out _ _ rfl).mono fun e w' h => ⟨h.1, h.2.symm⟩)))
              have hb1 : Below wr.heap.size wr (wr.drewN nq) := below_drewN' (Below.refl _ _) nq
              go_wp2
              go_ret
              exact ⟨ret_int HR4.out.symm, pt hq hb1⟩
            | false =>
              have HR4 := Lib.hid (show scan (madeErr xs) xs.length 0 = scan (madeErr xs) xs.length (k + 1) from HZ.out (by rw [HE.out, hny, show anyG (sameS y) (xs.take k) = false from hta]; rfl))
              rw [hta] at HTx
              clear hny hta
              go_wp2_with (go_at_call 82; go_must (refine (HNx.out _).mono ?_); rintro e w' ⟨rfl, rfl⟩)
              go_quiet ((go_at_call 31; exact Calls.quiet_of_same ((HTx.out _ _ rfl).mono fun e w' h => ⟨h.1, h.2.symm⟩)))
              have hb1 : Below wr.heap.size wr (wr.drewN nq) := below_drewN' (Below.refl _ _) nq
              go_wp2
              go_roundw
              case rel => exact ⟨k + 1, by omega, by go_num, HR4.out, HQ0.out.past hb1, pt hq hb1⟩
              case measure => simp [intOf]; omega
        · have HF := Lib.hid (show E = if rangeErrV valueB mlo mhi = 0 then rangeErrV valueB llo lhi else rangeErrV valueB mlo mhi by
            have e : scan (madeErr xs) xs.length 0 = (0, 0) := by rw [hf]; exact scan_end (by have := HN.out; omega)
            rw [HTE.out, e, if_neg (by simp), HV3.out])
          have c2 := q0.cellAt 2 rfl
          have c3 := q0.cellAt 3 rfl
          have c4 := q0.cellAt 4 rfl
          have c5 := q0.cellAt 5 rfl
          have HQ0 := Lib.hid q0
          have HR1 := Lib.hid fun W => refRange_any mlo mhi W
          have HR2 := Lib.hid fun W => refRange_any llo lhi W
          clear hf q0 HV3 HTE
          generalize rangeErrV valueB mlo mhi = R1 at *
          generalize rangeErrV valueB llo lhi = R2 at *
          by_cases hz : R1 = 0
          · subst hz
            go_wp2_with (first
              | (go_at_call 83; (with_reducible refine (HR1.out _).mono ?_); rintro e w1 ⟨rfl, hb1⟩; have q1 := HQ0.out.past hb1; have e4 : w1.cell? ⟨w.heap.size, 4, none⟩ = some (.int .i64 llo) := q1.cellAt 4 rfl; have e5 : w1.cell? ⟨w.heap.size, 5, none⟩ = some (.int .i64 lhi) := q1.cellAt 5 rfl; have z1 := q1.lt; clear q1)
              | (go_at_call 83; go_must (refine (HR2.out _).mono ?_); rintro e w2 ⟨rfl, hb2⟩))
            go_ret
            exact ⟨ret_int (by rw [HF.out]; rfl), pt (pt hq hb1) hb2⟩
          · have hne : (R1 != 0) = true := by simpa using hz
            have HF1 := Lib.hid (show E = R1 by rw [HF.out, if_neg hz])
            clear HF hz
            go_wp2_with (go_at_call 83; go_must (refine (HR1.out _).mono ?_); rintro e w1 ⟨rfl, hb1⟩)
            go_ret
            exact ⟨ret_int HF1.out.symm, pt hq hb1⟩

end Go.Proofs.YtbojmcopagbheaaGreatDoor
end

section
namespace Go.Proofs.YtbojmcopagbheaaGreatDoor
open Go.RowKit

theorem find_gone {xs : List Lot} {i : Nat} (hi : i ≤ xs.length) (z : ByteArray) : (goneB (fromV xs i) z = true → findG (hasName z) (xs.take i) 0 = -1) ∧ (goneB (fromV xs i) z = false → ∃ m : Nat, findG (hasName z) (xs.take i) 0 = (m : Int)) := by
  have h1 := findG_any (hasName z) (xs.take i)
  rw [gone_take xs i hi z]
  cases ha : anyG (hasName z) (xs.take i) with
  | true =>
    rw [ha] at h1
    have h2 := of_decide_eq_true h1
    exact ⟨fun h => by simp at h, fun _ => ⟨(findG (hasName z) (xs.take i) 0).toNat, by omega⟩⟩
  | false =>
    refine ⟨fun _ => ?_, fun h => by simp at h⟩
    unfold findG
    rw [List.drop_zero]
    have h2 : (xs.take i).findIdx? (hasName z) = none := by
      rw [List.findIdx?_eq_none_iff]
      unfold anyG at ha
      rw [List.any_eq_false] at ha
      intro x hx
      simpa using ha x hx
    rw [h2]
theorem LotsIn.take {B : Nat} {w : World} {A : Option Addr} {xs : List Lot} (h : LotsIn B w A xs) (k : Nat) : LotsIn B w A (xs.take k) := by
  rcases h with h | ⟨b, off, hA, hb, hc⟩
  · exact .inl (by rw [h]; simp)
  · refine .inr ⟨b, off, hA, hb, fun j hj => ?_⟩
    simp only [List.length_take] at hj
    have e : (xs.take k).getD j default = xs.getD j default := by simp [List.getD, show j < k by omega]
    rw [e]
    exact hc j (by omega)

set_option maxHeartbeats 4000000 in
set_option maxRecDepth 100000 in
theorem refCheckLots_any (B : Nat) (xs : List Lot) (A : Option Addr) (c : Nat) (w : World) (hr : LotsIn B w A xs) (hB : B ≤ w.heap.size) (hs : SmallLots xs) (hcap : xs.length ≤ c) :
    Calls Tryz.prog 63 #[.slice A xs.length c] w fun e w' => e = .returned (.tuple #[.int .i64 ((openLotsV xs).1 : Int), .int .i64 (openLotsV xs).2]) ∧ Below w.heap.size w w' := by
  obtain ⟨hs1, hs2⟩ := hs
  have HS2 := Lib.hid hs2
  have HR := Lib.hid hr
  clear hs2 hr
  by_cases hlen : 20 < xs.length
  · have HV := Lib.hid (show openLotsV xs = (0, 8) by unfold openLotsV; rw [if_pos hlen])
    have hlen' : (20 : Int) < (xs.length : Int) := by omega
    go_enter Tryz.func63, Tryz.ntmps63
    go_wp2
    go_ret2
    exact ⟨ret_ii (by rw [HV.out]; rfl) (by rw [HV.out]), pr⟩
  · have HV := Lib.hid (show openLotsV xs = scan (lotsE1 xs) xs.length 0 by unfold openLotsV; rw [if_neg hlen])
    have hle : xs.length ≤ 20 := by omega
    have hlen' : decide ((20 : Int) < (xs.length : Int)) = false := by simp; omega
    generalize openLotsV xs = V at *
    go_enter Tryz.func63, Tryz.ntmps63
    go_wp2
    clear hlen hlen'
    go_loopw [4] (fun ix wr => ∃ i : Nat, ix = .int .i64 (i : Int) ∧ i ≤ xs.length ∧ V = scan (lotsE1 xs) xs.length i ∧ Below w.heap.size w wr) (fun ix _ => xs.length - (intOf ix).toNat)
    case atStart => exact ⟨0, rfl, Nat.zero_le _, HV.out, pr⟩
    case round =>
      obtain ⟨i, rfl, hi, hf, hq⟩ := hrel
      by_cases hlt : i < xs.length
      · obtain ⟨b, off, hA, hbB, hct⟩ := (HR.out.below (hq.mono hB)).at_ hlt
        subst hA
        obtain ⟨t0, A3, c3, t1, tr, tc, t2, t3, t4, t5⟩ := hct i hlt
        have hBr : B ≤ wr.heap.size := Nat.le_trans hB hq.size
        have hbw : b < wr.heap.size := Nat.lt_of_lt_of_le hbB hBr
        have n0 : (0 : Int) ≤ (i : Int) := by omega
        have n1 : (i : Int) < (xs.length : Int) := by omega
        have n2 : (i : Int) ≤ (c : Int) := by omega
        have hsm := HS2.out i hlt
        have HF := Lib.hid (hf.trans (scan_step hlt))
        have HE := Lib.hid (show lotsE1 xs i = firstV [lotE (xs.getD i default), unlessV (goneB (fromV xs i) (xs.getD i default).name) 5, unlessV (!anyG (goneB (fromV xs i)) (xs.getD i default).made) 6] from rfl)
        have HG := Lib.hid (fun z => find_gone (xs := xs) (i := i) (by omega) z)
        have HTk := Lib.hid (show (xs.take i).length = i by simp; omega)
        have hm1 : i ≤ 1000 := by omega
        clear hct hf
        generalize xs.getD i default = x at *
        generalize fromV xs i = F at *
        have HSm := Lib.hid hsm
        have HTr := Lib.hid tr
        have HHR := Lib.hid (HR.out.below (hq.mono hB))
        have hmlen := hsm.2.1
        clear tr hsm
        have HLe := Lib.hid (refLotErr_any B x A3 x.made.length c3 wr rfl HTr.out hBr HSm.out tc)
        by_cases hz : lotE x = 0
        · rw [hz] at HLe HE
          have HE2 := Lib.hid (show lotsE1 xs i = firstV [unlessV (goneB F x.name) 5, unlessV (!anyG (goneB F) x.made) 6] by rw [HE.out]; rfl)
          clear HE hz
          cases hgn : goneB F x.name with
          | false =>
            obtain ⟨m, hm⟩ := (HG.out x.name).2 hgn
            have HO := Lib.hid (show lotsE1 xs i = 5 by rw [HE2.out, hgn]; rfl)
            have HV5 := Lib.hid (show V = (i, 5) by rw [HF.out, HO.out, if_neg (by decide)])
            have HFd := Lib.hid fun (W : World) (hW : Below wr.heap.size wr W) => refFind_any B (xs.take i) (some ⟨b, off, none⟩) i c x.name W ((HHR.out.below (hW.mono hBr)).take i) HTk.out hm1
            rw [hm] at HFd
            have m0 : (0 : Int) ≤ (m : Int) := by omega
            clear hm hgn
            go_wp2_with (go_at_call 36; go_must (refine HLe.out.mono ?_); rintro e w1 ⟨rfl, hb1⟩; have s0 : w1.cell? ⟨b, off + i * 6, none⟩ = some (.string x.name) := ((bcell (hb1.mono hBr)).1 _ _ hbB).trans t0; clear t0 t1 t2 t3 t4 t5)
            go_quiet ((go_at_call 102; exact Calls.quiet_of_same ((HFd.out _ (below_drewN' hb1 _)).mono fun e w' h => ⟨h.1, h.2.symm⟩)))
            have hb2 : Below wr.heap.size wr (w1.drewN nq) := below_drewN' hb1 nq
            go_wp2
            go_ret2
            exact ⟨ret_ii (by rw [HV5.out]) (by rw [HV5.out]), pt hq hb2⟩
          | true =>
            have hm := (HG.out x.name).1 hgn
            have HE3 := Lib.hid (show lotsE1 xs i = unlessV (!anyG (goneB F) x.made) 6 by rw [HE2.out, hgn]; simp only [firstV, unlessV]; cases anyG (goneB F) x.made <;> simp)
            have HFd := Lib.hid fun (W : World) (hW : Below wr.heap.size wr W) => refFind_any B (xs.take i) (some ⟨b, off, none⟩) i c x.name W ((HHR.out.below (hW.mono hBr)).take i) HTk.out hm1
            have HFm := Lib.hid fun (k : Nat) (W : World) (hW : Below wr.heap.size wr W) => refFind_any B (xs.take i) (some ⟨b, off, none⟩) i c (x.made.getD k default) W ((HHR.out.below (hW.mono hBr)).take i) HTk.out hm1
            rw [hm] at HFd
            clear hm hgn HE2
            go_wp2_with (go_at_call 36; go_must (refine HLe.out.mono ?_); rintro e w1 ⟨rfl, hb1⟩; have s0 : w1.cell? ⟨b, off + i * 6, none⟩ = some (.string x.name) := ((bcell (hb1.mono hBr)).1 _ _ hbB).trans t0; have s1 : w1.cell? ⟨b, off + i * 6 + 1, none⟩ = some (.slice A3 x.made.length c3) := ((bcell (hb1.mono hBr)).1 _ _ hbB).trans t1; clear t0 t1 t2 t3 t4 t5)
            go_quiet ((go_at_call 102; exact Calls.quiet_of_same ((HFd.out _ (below_drewN' hb1 _)).mono fun e w' h => ⟨h.1, h.2.symm⟩)))
            have hb2 : Below wr.heap.size wr (w1.drewN nq) := below_drewN' hb1 nq
            have hs1' : (w1.drewN nq).cell? ⟨b, off + i * 6 + 1, none⟩ = some (.slice A3 x.made.length c3) := s1
            have HS1 := Lib.hid hs1'
            clear s0 s1 hs1'
            go_wp2
            obtain ⟨wo, rfl⟩ : ∃ wo : World, wo = wr := ⟨_, rfl⟩
            generalize hw2 : w1.drewN nq = w2 at *
            clear hw2
            go_loopw [6] (fun jx wr2 => ∃ j : Nat, jx = .int .i64 (j : Int) ∧ j ≤ x.made.length ∧ anyG (goneB F) x.made = anyG (goneB F) (x.made.drop j) ∧ Below wo.heap.size wo wr2) (fun jx _ => x.made.length - (intOf jx).toNat)
            case atStart => exact ⟨0, rfl, Nat.zero_le _, rfl, hb2⟩
            case round =>
              obtain ⟨j, rfl, hj, hfj, hbj⟩ := hrel
              have s1 : wr.cell? ⟨b, off + i * 6 + 1, none⟩ = some (.slice A3 x.made.length c3) := by
                have h2 := (bcell (hb2.mono hBr)).1 b (off + i * 6 + 1) hbB
                have h3 := (bcell (hbj.mono hBr)).1 b (off + i * 6 + 1) hbB
                exact h3.trans (h2.symm.trans HS1.out)
              have hbw2 : b < wr.heap.size := Nat.lt_of_lt_of_le hbw hbj.size
              by_cases hlt2 : j < x.made.length
              · obtain ⟨b4, off4, hA4, hb4, hc4⟩ := (HTr.out.below (hbj.mono hBr)).at_ hlt2
                subst hA4
                have s2 := hc4 j hlt2
                have j0 : (0 : Int) ≤ (j : Int) := by omega
                have j1 : (j : Int) < (x.made.length : Int) := by omega
                have hb4w : b4 < wr.heap.size := by have := hbj.size; omega
                have HJ := Lib.hid (hfj.trans (anyG_step (goneB F) x.made j default hlt2))
                have hfm := fun W hW => HFm.out j W hW
                have hgg := HG.out (x.made.getD j default)
                clear hc4 hfj
                generalize x.made.getD j default = y at *
                cases hgy : goneB F y with
                | true =>
                  have hm := hgg.1 hgy
                  have HO := Lib.hid (show lotsE1 xs i = 6 by rw [HE3.out, HJ.out, hgy]; rfl)
                  have HV5 := Lib.hid (show V = (i, 6) by rw [HF.out, HO.out, if_neg (by decide)])
                  rw [hm] at hfm
                  have HFy := Lib.hid hfm
                  clear hm hgy hfm hgg
                  go_wp2
                  go_quiet ((go_at_call 102; exact Calls.quiet_of_same ((HFy.out _ (below_drewN' hbj _)).mono fun e w' h => ⟨h.1, h.2.symm⟩)))
                  have hb3 : Below wo.heap.size wo (wr.drewN nq) := below_drewN' hbj nq
                  go_wp2
                  go_ret2
                  exact ⟨ret_ii (by rw [HV5.out]) (by rw [HV5.out]), pt hq hb3⟩
                | false =>
                  obtain ⟨m, hm⟩ := hgg.2 hgy
                  have HJ2 := Lib.hid (show anyG (goneB F) x.made = anyG (goneB F) (x.made.drop (j + 1)) by rw [HJ.out, hgy]; simp)
                  rw [hm] at hfm
                  have HFy := Lib.hid hfm
                  have m0 : decide ((m : Int) < 0) = false := decide_eq_false (by omega)
                  clear hm hgy hfm hgg HJ
                  go_wp2
                  go_quiet ((go_at_call 102; exact Calls.quiet_of_same ((HFy.out _ (below_drewN' hbj _)).mono fun e w' h => ⟨h.1, h.2.symm⟩)))
                  have hb3 : Below wo.heap.size wo (wr.drewN nq) := below_drewN' hbj nq
                  go_wp2
                  go_roundw
                  case rel => exact ⟨j + 1, by go_num, by omega, HJ2.out, hb3⟩
                  case measure => simp [intOf]; omega
              · have HO := Lib.hid (show lotsE1 xs i = 0 by rw [HE3.out, hfj, List.drop_eq_nil_of_le (by omega)]; rfl)
                have HV5 := Lib.hid (show V = scan (lotsE1 xs) xs.length (i + 1) by rw [HF.out, HO.out, if_pos rfl])
                clear hfj
                go_wp2
                go_roundw
                case rel => exact ⟨i + 1, by go_num, by omega, HV5.out, pt hq hbj⟩
                case measure => simp [intOf]; omega
        · have hne : (lotE x != 0) = true := by simpa using hz
          have HO := Lib.hid (show lotsE1 xs i = lotE x by rw [HE.out]; show (if lotE x = 0 then _ else lotE x) = _; rw [if_neg hz])
          have HV5 := Lib.hid (show V = (i, lotE x) by rw [HF.out, HO.out, if_neg hz])
          clear HE HO hz
          generalize lotE x = E at *
          go_wp2_with (go_at_call 36; go_must (refine HLe.out.mono ?_); rintro e w1 ⟨rfl, hb1⟩)
          go_ret2
          exact ⟨ret_ii (by rw [HV5.out]) (by rw [HV5.out]), pt hq hb1⟩
      · have HV5 := Lib.hid (show V = (0, 0) by rw [hf]; exact scan_end (by omega))
        clear hf
        go_wp2
        go_ret2
        exact ⟨ret_ii (by rw [HV5.out]; rfl) (by rw [HV5.out]), hq⟩

end Go.Proofs.YtbojmcopagbheaaGreatDoor
end
