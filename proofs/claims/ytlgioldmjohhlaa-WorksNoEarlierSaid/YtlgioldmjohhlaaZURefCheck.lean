/- Contract: the specification's CheckStack, over the same value as the program's. -/
import Derived.Test.YtlgioldmjohhlaaMB
namespace Go.Proofs.Ytlgioldmjohhlaa
open Go.RowKit

set_option maxHeartbeats 1000000 in
set_option maxRecDepth 100000 in
theorem refCheckStack_any (B : Nat) (A : Option Addr) (c : Nat) (xs : List Int) (overlap : Int) (w : World) (hr : IntsIn B w A xs) (hB : B ≤ w.heap.size) (hm : xs.length ≤ 1000) (hcap : xs.length ≤ c) :
    Calls Try.prog 27 #[.slice A xs.length c, .int .i64 overlap] w fun e w' =>
      e = .returned (.tuple #[.int .i64 ((checkStackV xs overlap).1 : Int), .int .i64 (checkStackV xs overlap).2]) ∧ Below w.heap.size w w' := by
  by_cases h0 : stackE xs.length overlap = 0
  · have H0 := Lib.hid h0
    clear h0
    have h00 : stackE xs.length overlap = 0 := H0.out
    go_enter Try.func27, Try.ntmps27
    go_wp2_with (go_at_call 28; refine (refStackErr_any _ _ _).mono ?_; rintro e w' ⟨rfl, rfl⟩)
    clear h00
    go_loopw [7] (fun i wr => ∃ k : Nat, k ≤ xs.length ∧ i = .int .i64 k ∧ scan (offErr xs) xs.length 0 = scan (offErr xs) xs.length k ∧ (∀ j, j < k → 0 ≤ xs.getD j 0 ∧ xs.getD j 0 ≤ xs.length - 1) ∧ Below w.heap.size w wr) (fun i _ => xs.length - (intOf i).toNat)
    case atStart => exact ⟨0, Nat.zero_le _, rfl, rfl, fun j hj => by omega, pr⟩
    case round =>
      obtain ⟨k, hk, rfl, hf, hin, hb⟩ := hrel
      by_cases hlt : k < xs.length
      · have hrw := hr.below (hb.mono hB)
        obtain ⟨b, off, rfl, hbB, hc⟩ := hrw.at_ hlt
        have hcell := hc k hlt
        have hbw := Nat.lt_of_lt_of_le hbB (Nat.le_trans hB hb.size)
        have HR := Lib.hid (hrw.more (Nat.le_trans hB hb.size))
        have HF := Lib.hid (hf.trans (scan_step hlt))
        have HI := Lib.hid (show offErr xs k = 0 → ∀ j, j < k + 1 → 0 ≤ xs.getD j 0 ∧ xs.getD j 0 ≤ xs.length - 1 from fun h j hj => by
          rcases Nat.lt_or_ge j k with h' | h'
          · exact hin j h'
          · obtain rfl : j = k := by omega
            exact offErr_in h)
        have HE := Lib.hid (show offErr xs k = firstV [unlessV (withinB (xs.getD k 0) 0 (xs.length - 1)) 2, unlessV (!(hasB (xs.take k) (xs.getD k 0))) 23] from rfl)
        have HV := Lib.hid (show offErr xs k ≠ 0 → checkStackV xs overlap = (k, offErr xs k) from fun hz => by
          have e : scan (offErr xs) xs.length 0 = (k, offErr xs k) := by rw [HF.out, if_neg hz]
          simp only [checkStackV, e, H0.out]
          rw [if_neg (by simp), if_pos hz])
        have i0 : (0 : Int) ≤ (k : Int) := by omega
        have i1 : (k : Int) ≤ (c : Int) := by omega
        have hk1000 : k ≤ 1000 := by omega
        have HT := Lib.hid (show (xs.take k).length = k by simp; omega)
        clear hf hc hin hr hrw
        generalize xs.getD k 0 = x at *
        have hw1 : IntKind.i64.wrap ((xs.length : Int) - 1) = (xs.length : Int) - 1 := IntWalk.i64_in _ (by omega)
        cases hwi : withinB x 0 ((xs.length : Int) - 1)
        · have ho : offErr xs k = 2 := by rw [HE.out, hwi]; rfl
          have HO := Lib.hid ho
          clear ho
          go_wp2_with (go_at_call 32; refine (baseWithin_any _ _ _ _).mono ?_; rintro e w' ⟨rfl, rfl⟩)
          go_ret2
          have hv := HV.out (by rw [HO.out]; decide)
          rw [HO.out] at hv
          exact ⟨ret_ii (by rw [hv]) (by rw [hv]), hb⟩
        · cases hha : hasB (xs.take k) x
          · have ho : offErr xs k = 0 := by rw [HE.out, hwi, hha]; rfl
            have HO := Lib.hid ho
            clear ho
            go_wp2_with (go_at_call 32; refine (baseWithin_any _ _ _ _).mono ?_; rintro e w' ⟨rfl, rfl⟩)
            go_quiet ((go_at_call 33; exact Calls.quiet_of_same ((baseHas_n k _ _ c (xs.take k) _ _ ((HR.out.below (below_drewN' (Below.refl _ _) _)).take k) HT.out hk1000).mono fun e w' h => ⟨h.1, h.2.symm⟩)))
            rw [hha]
            have hb1 : Below wr.heap.size wr (wr.drewN nq) := below_drewN' (Below.refl _ _) nq
            go_wp2
            go_roundw
            case rel => exact ⟨k + 1, by omega, by go_num, by rw [HF.out, if_pos HO.out], HI.out HO.out, pt hb hb1⟩
            case measure => simp [intOf]; omega
          · have ho : offErr xs k = 23 := by rw [HE.out, hwi, hha]; rfl
            have HO := Lib.hid ho
            clear ho
            go_wp2_with (go_at_call 32; refine (baseWithin_any _ _ _ _).mono ?_; rintro e w' ⟨rfl, rfl⟩)
            go_quiet ((go_at_call 33; exact Calls.quiet_of_same ((baseHas_n k _ _ c (xs.take k) _ _ ((HR.out.below (below_drewN' (Below.refl _ _) _)).take k) HT.out hk1000).mono fun e w' h => ⟨h.1, h.2.symm⟩)))
            rw [hha]
            have hb1 : Below wr.heap.size wr (wr.drewN nq) := below_drewN' (Below.refl _ _) nq
            go_wp2
            go_ret2
            have hv := HV.out (by rw [HO.out]; decide)
            rw [HO.out] at hv
            exact ⟨ret_ii (by rw [hv]) (by rw [hv]), pt hb hb1⟩
      · have hkn : k = xs.length := by omega
        subst hkn
        have HF := Lib.hid (show scan (offErr xs) xs.length 0 = (0, 0) by rw [hf]; exact scan_end (Nat.le_refl _))
        have HI := Lib.hid hin
        have HR := Lib.hid hr
        clear hf hin hr
        go_wp2
        go_loopw [8] (fun i wr2 => ∃ k : Nat, k ≤ xs.length ∧ i = .int .i64 k ∧ scan (gapErr xs overlap) xs.length 0 = scan (gapErr xs overlap) xs.length k ∧ Below w.heap.size w wr2) (fun i _ => xs.length - (intOf i).toNat)
        case atStart => exact ⟨0, Nat.zero_le _, rfl, rfl, hb⟩
        case round =>
          obtain ⟨k, hk, rfl, hf, hb2⟩ := hrel
          by_cases hlt2 : k < xs.length
          · obtain ⟨b, off, rfl, hbB, hc⟩ := (HR.out.below (hb2.mono hB)).at_ hlt2
            have hcell := hc k hlt2
            have hcell2 := hc ((k + xs.length - 1) % xs.length) (Nat.mod_lt _ (by omega))
            have hb1 := HI.out k hlt2
            have hb3 := HI.out ((k + xs.length - 1) % xs.length) (Nat.mod_lt _ (by omega))
            have HF2 := Lib.hid (hf.trans (scan_step hlt2))
            have HG := Lib.hid (show gapErr xs overlap k = if (decide (1 < xs.length) && decide (sizeV (xs.getD k 0 - xs.getD ((k + xs.length - 1) % xs.length) 0) < overlap)) = true then 14 else 0 from rfl)
            clear hf hc
            generalize xs.getD k 0 = x at *
            generalize xs.getD ((k + xs.length - 1) % xs.length) 0 = y at *
            have e0 : ((k : Int) + (xs.length : Int) - 1) % (xs.length : Int) = (((k + xs.length - 1) % xs.length : Nat) : Int) := by
              rw [show (k : Int) + (xs.length : Int) - 1 = ((k + xs.length - 1 : Nat) : Int) by omega]
              exact (Int.natCast_emod _ _).symm
            have q0 : (0 : Int) ≤ ((k : Int) + (xs.length : Int) - 1) % (xs.length : Int) := by rw [e0]; exact Int.natCast_nonneg _
            have q1 : ((k : Int) + (xs.length : Int) - 1) % (xs.length : Int) < (xs.length : Int) := by rw [e0]; exact Int.ofNat_lt.2 (Nat.mod_lt _ (by omega))
            have q2 : (((k : Int) + (xs.length : Int) - 1) % (xs.length : Int)).toNat = (k + xs.length - 1) % xs.length := by rw [e0]; exact Int.toNat_natCast _
            clear e0
            by_cases h1 : 1 < xs.length
            · go_wp2_with (go_at_call 92; refine (baseSize_any _ _ (by omega) (by omega)).mono ?_; rintro e w' ⟨rfl, rfl⟩)
              · go_ret2
                have hg : gapErr xs overlap k = 14 := by rw [HG.out, if_pos (by simp; omega)]
                have hv : checkStackV xs overlap = (k, 14) := by
                  simp only [checkStackV, H0.out, HF.out, HF2.out, hg]
                  simp
                exact ⟨ret_ii (by rw [hv]) (by rw [hv]), hb2⟩
              · go_roundw
                case rel => exact ⟨k + 1, by omega, by go_num, by rw [HF2.out, if_pos (by rw [HG.out, if_neg (by simp; omega)])], hb2⟩
                case measure => simp [intOf]; omega
            · have h1' : decide (1 < xs.length) = false := by simpa using h1
              have h1'' : decide ((1 : Int) < (xs.length : Int)) = false := by simp; omega
              go_wp2
              go_roundw
              case rel => exact ⟨k + 1, by omega, by go_num, by rw [HF2.out, if_pos (by rw [HG.out, if_neg (by simp; omega)])], hb2⟩
              case measure => simp [intOf]; omega
          · have hv : checkStackV xs overlap = (0, 0) := by
              have e : scan (gapErr xs overlap) xs.length 0 = (0, 0) := by rw [hf]; exact scan_end (by omega)
              simp only [checkStackV, H0.out, HF.out, e]
              simp
            have HV := Lib.hid hv
            clear hv hf
            go_wp2
            go_ret2
            exact ⟨ret_ii (by rw [HV.out]; rfl) (by rw [HV.out]), hb2⟩
  · have h00 : (stackE xs.length overlap != 0) = true := by simpa using h0
    have hv : checkStackV xs overlap = (0, stackE xs.length overlap) := by simp [checkStackV, h0]
    have HV := Lib.hid hv
    clear hv h0
    go_enter Try.func27, Try.ntmps27
    go_wp2_with (go_at_call 28; refine (refStackErr_any _ _ _).mono ?_; rintro e w' ⟨rfl, rfl⟩)
    go_ret2
    exact ⟨ret_ii (by rw [HV.out]; rfl) (by rw [HV.out]), pr⟩

end Go.Proofs.Ytlgioldmjohhlaa
