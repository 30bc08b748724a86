/- Contracts: the specification's LotErr, AcceptOf and CheckLots, over the same values as the program's. -/
import Derived.Test.YtbojmcopagbheaaGreatDoorT4Law
import Derived.Deep.RegionHeld3
import Derived.Deep.QuietTactic
import Derived.BigQuiet
namespace Go.Proofs.YtbojmcopagbheaaGreatDoor
open Go.RowKit


set_option maxHeartbeats 2000000 in
set_option maxRecDepth 100000 in
theorem refLotErr_any (B : Nat) (x : Lot) (A : Option Addr) (n c : Nat) (w : World) (hn : x.made.length = n) (hr : RowIn Value.string B w A x.made) (hB : B ≤ w.heap.size) (hs : SmallLot x) (hcap : n ≤ c) :
    Calls Tryz.prog 36 #[.agg #[.string x.name, .slice A n c, .int .i64 x.mlo, .int .i64 x.mhi, .int .i64 x.llo, .int .i64 x.lhi]] w fun e w' => e = .returned (.int .i64 (lotE x)) ∧ Below w.heap.size w w' := by
  obtain ⟨nm, xs, mlo, mhi, llo, lhi⟩ := x
  obtain ⟨hs1, hs2, hs3⟩ := hs
  dsimp only at *
  have HT := Lib.hid (show lotE ⟨nm, xs, mlo, mhi, llo, lhi⟩ = if lotE1 ⟨nm, xs, mlo, mhi, llo, lhi⟩ ≠ 0 then lotE1 ⟨nm, xs, mlo, mhi, llo, lhi⟩ else if (scan (madeErr xs) xs.length 0).2 ≠ 0 then (scan (madeErr xs) xs.length 0).2 else lotE3 ⟨nm, xs, mlo, mhi, llo, lhi⟩ from rfl)
  have HV1 := Lib.hid (show lotE1 ⟨nm, xs, mlo, mhi, llo, lhi⟩ = firstV [unlessV (nameB nm) 4, unlessV (decide ((n : Int) ≤ 6)) 8] by rw [← hn]; rfl)
  have HV3 := Lib.hid (show lotE3 ⟨nm, xs, mlo, mhi, llo, lhi⟩ = if rangeErrV valueB mlo mhi = 0 then rangeErrV valueB llo lhi else rangeErrV valueB mlo mhi by
    show firstV [rangeErrV valueB mlo mhi, rangeErrV valueB llo lhi] = _
    simp only [firstV]
    split
    · split <;> simp_all
    · rfl)
  have HN := Lib.hid hn
  have HR := Lib.hid hr
  have HS3 := Lib.hid hs3
  have hn2 : n ≤ 1000 := by omega
  clear hn hr hs3
  generalize lotE ⟨nm, xs, mlo, mhi, llo, lhi⟩ = E at *
  generalize lotE1 ⟨nm, xs, mlo, mhi, llo, lhi⟩ = E1 at *
  generalize lotE3 ⟨nm, xs, mlo, mhi, llo, lhi⟩ = E3 at *
  cases hnm : nameB nm with
  | false =>
    have HE := Lib.hid (show E = 4 by rw [HT.out, HV1.out, hnm]; rfl)
    have HNm := Lib.hid (show ∀ W, Calls Tryz.prog 82 #[.string nm] W fun e w' => e = .returned (.bool false) ∧ W = w' from fun W => hnm ▸ baseIsName_any nm W hs1)
    clear HT HV1 HV3 hnm
    go_enter Tryz.func36, Tryz.ntmps36
    go_wp2_with (go_at_call 82; go_must (refine (HNm.out _).mono ?_); rintro e w' ⟨rfl, rfl⟩)
    go_ret
    exact ⟨ret_int HE.out.symm, pa pr⟩
  | true =>
    have HNm := Lib.hid (show ∀ W, Calls Tryz.prog 82 #[.string nm] W fun e w' => e = .returned (.bool true) ∧ W = w' from fun W => hnm ▸ baseIsName_any nm W hs1)
    by_cases h6 : (6 : Int) < (n : Int)
    · have HE := Lib.hid (show E = 8 by rw [HT.out, HV1.out, hnm, decide_eq_false (show ¬ (n : Int) ≤ 6 by omega)]; rfl)
      have h6n : 6 < n := by omega
      clear HT HV1 HV3 hnm
      go_enter Tryz.func36, Tryz.ntmps36
      go_wp2_with (go_at_call 82; go_must (refine (HNm.out _).mono ?_); rintro e w' ⟨rfl, rfl⟩)
      go_ret
      exact ⟨ret_int HE.out.symm, pa pr⟩
    · have HTE := Lib.hid (show E = if (scan (madeErr xs) xs.length 0).2 ≠ 0 then (scan (madeErr xs) xs.length 0).2 else E3 by rw [HT.out, HV1.out, hnm, decide_eq_true (show (n : Int) ≤ 6 by omega)]; rfl)
      have h6n : ¬ 6 < n := by omega
      have h6d : decide ((6 : Int) < (n : Int)) = false := decide_eq_false h6
      clear HT HV1 hnm
      go_enter Tryz.func36, Tryz.ntmps36
      go_wp2_with (go_at_call 82; go_must (refine (HNm.out _).mono ?_); rintro e w' ⟨rfl, rfl⟩)
      clear h6n h6d h6
      have r0 : Blk (w.alloc (.cells #[.string nm, .slice A n c, .int .i64 mlo, .int .i64 mhi, .int .i64 llo, .int .i64 lhi] 58)) w.heap.size 58 #[.string nm, .slice A n c, .int .i64 mlo, .int .i64 mhi, .int .i64 llo, .int .i64 lhi] := Blk.newAt rfl
      go_loopw [3] (fun i wr => ∃ k : Nat, k ≤ n ∧ i = .int .i64 (k : Int) ∧ scan (madeErr xs) xs.length 0 = scan (madeErr xs) xs.length k ∧ Blk wr w.heap.size 58 #[.string nm, .slice A n c, .int .i64 mlo, .int .i64 mhi, .int .i64 llo, .int .i64 lhi] ∧ Below w.heap.size w wr) (fun i _ => n - (intOf i).toNat)
      case atStart => exact ⟨0, Nat.zero_le _, rfl, rfl, r0, pa pr⟩
      case round =>
        obtain ⟨k, hk, rfl, hf, q0, hq⟩ := hrel
        clear r0
        have c1 := q0.cellAt 1 rfl
        have z0 := q0.lt
        by_cases hlt : k < n
        · obtain ⟨b, off, hA, hbB, hcell⟩ := (HR.out.below (hq.mono hB)).at_ (k := k) (by rw [HN.out]; exact hlt)
          subst hA
          have hbw := Nat.lt_of_lt_of_le hbB (Nat.le_trans hB hq.size)
          have d0 := hcell k (by rw [HN.out]; exact hlt)
          have HF := Lib.hid (hf.trans (scan_step (by rw [HN.out]; exact hlt)))
          have HE := Lib.hid (show madeErr xs k = firstV [unlessV (nameB (xs.getD k default)) 4, unlessV (!anyG (sameS (xs.getD k default)) (xs.take k)) 23] from rfl)
          have hsz := HS3.out k
          have HR1 := Lib.hid ((HR.out.below (hq.mono hB)))
          have HTk := Lib.hid (show (xs.take k).length = k by have := HN.out; simp; omega)
          have i0 : (0 : Int) ≤ (k : Int) := by omega
          have i1 : (k : Int) ≤ (c : Int) := by omega
          have i2 : (k : Int) < (n : Int) := by omega
          have hk1000 : k ≤ 1000 := by omega
          have HQ0 := Lib.hid q0
          have HNx := Lib.hid fun W => baseIsName_any (xs.getD k default) W hsz
          have HTx := Lib.hid fun (nq : Nat) (W : World) (hW : W = wr.drewN nq) => baseHasText_any B (some ⟨b, off, none⟩) k c (xs.take k) (xs.getD k default) W (hW ▸ (HR1.out.below (below_drewN' (Below.refl _ _) nq)).take k) HTk.out (by omega)
          clear hcell hf q0
          generalize hy : xs.getD k default = y at *
          have HZ := Lib.hid (show madeErr xs k = 0 → scan (madeErr xs) xs.length 0 = scan (madeErr xs) xs.length (k + 1) from fun hz => by rw [HF.out, if_pos hz])
          have HG := Lib.hid (show madeErr xs k ≠ 0 → E = madeErr xs k from fun hz => by
            have e : scan (madeErr xs) xs.length 0 = (k, madeErr xs k) := by rw [HF.out, if_neg hz]
            rw [HTE.out, e, if_pos hz])
          clear HF hy
          cases hny : nameB y with
          | false =>
            have HR4 := Lib.hid (show E = 4 by
              have h4 : madeErr xs k = 4 := by rw [HE.out, hny]; rfl
              rw [HG.out (by rw [h4]; decide), h4])
            rw [hny] at HNx
            clear hny
            go_wp2_with (go_at_call 82; go_must (refine (HNx.out _).mono ?_); rintro e w' ⟨rfl, rfl⟩)
            go_ret
            exact ⟨ret_int HR4.out.symm, hq⟩
          | true =>
            rw [hny] at HNx
            cases hta : hasT (xs.take k) y with
            | true =>
              have HR4 := Lib.hid (show E = 23 by
                have h4 : madeErr xs k = 23 := by rw [HE.out, hny, show anyG (sameS y) (xs.take k) = true from hta]; rfl
                rw [HG.out (by rw [h4]; decide), h4])
              rw [hta] at HTx
              clear hny hta
              go_wp2_with (go_at_call 82; go_must (refine (HNx.out _).mono ?_); rintro e w' ⟨rfl, rfl⟩)
              go_quiet ((go_at_call 31; exact Calls.quiet_of_same ((HTx.out _ _ rfl).mono fun e w' h => ⟨h.1, h.2.symm⟩)))
              have hb1 : Below wr.heap.size wr (wr.drewN nq) := below_drewN' (Below.refl _ _) nq
              go_wp2
              go_ret
              exact ⟨ret_int HR4.out.symm, pt hq hb1⟩
            | false =>
              have HR4 := Lib.hid (show scan (madeErr xs) xs.length 0 = scan (madeErr xs) xs.length (k + 1) from HZ.out (by rw [HE.out, hny, show anyG (sameS y) (xs.take k) = false from hta]; rfl))
              rw [hta] at HTx
              clear hny hta
              go_wp2_with (go_at_call 82; go_must (refine (HNx.out _).mono ?_); rintro e w' ⟨rfl, rfl⟩)
              go_quiet ((go_at_call 31; exact Calls.quiet_of_same ((HTx.out _ _ rfl).mono fun e w' h => ⟨h.1, h.2.symm⟩)))
              have hb1 : Below wr.heap.size wr (wr.drewN nq) := below_drewN' (Below.refl _ _) nq
              go_wp2
              go_roundw
              case rel => exact ⟨k + 1, by omega, by go_num, HR4.out, HQ0.out.past hb1, pt hq hb1⟩
              case measure => simp [intOf]; omega
        · have HF := Lib.hid (show E = if rangeErrV valueB mlo mhi = 0 then rangeErrV valueB llo lhi else rangeErrV valueB mlo mhi by
            have e : scan (madeErr xs) xs.length 0 = (0, 0) := by rw [hf]; exact scan_end (by have := HN.out; omega)
            rw [HTE.out, e, if_neg (by simp), HV3.out])
          have c2 := q0.cellAt 2 rfl
          have c3 := q0.cellAt 3 rfl
          have c4 := q0.cellAt 4 rfl
          have c5 := q0.cellAt 5 rfl
          have HQ0 := Lib.hid q0
          have HR1 := Lib.hid fun W => refRange_any mlo mhi W
          have HR2 := Lib.hid fun W => refRange_any llo lhi W
          clear hf q0 HV3 HTE
          generalize rangeErrV valueB mlo mhi = R1 at *
          generalize rangeErrV valueB llo lhi = R2 at *
          by_cases hz : R1 = 0
          · subst hz
            go_wp2_with (first
              | (go_at_call 83; (with_reducible refine (HR1.out _).mono ?_); rintro e w1 ⟨rfl, hb1⟩; have q1 := HQ0.out.past hb1; have e4 : w1.cell? ⟨w.heap.size, 4, none⟩ = some (.int .i64 llo) := q1.cellAt 4 rfl; have e5 : w1.cell? ⟨w.heap.size, 5, none⟩ = some (.int .i64 lhi) := q1.cellAt 5 rfl; have z1 := q1.lt; clear q1)
              | (go_at_call 83; go_must (refine (HR2.out _).mono ?_); rintro e w2 ⟨rfl, hb2⟩))
            go_ret
            exact ⟨ret_int (by rw [HF.out]; rfl), pt (pt hq hb1) hb2⟩
          · have hne : (R1 != 0) = true := by simpa using hz
            have HF1 := Lib.hid (show E = R1 by rw [HF.out, if_neg hz])
            clear HF hz
            go_wp2_with (go_at_call 83; go_must (refine (HR1.out _).mono ?_); rintro e w1 ⟨rfl, hb1⟩)
            go_ret
            exact ⟨ret_int HF1.out.symm, pt hq hb1⟩

end Go.Proofs.YtbojmcopagbheaaGreatDoor
