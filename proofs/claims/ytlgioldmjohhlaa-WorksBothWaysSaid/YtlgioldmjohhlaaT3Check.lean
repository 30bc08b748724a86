/- Contract: the specification's CheckLots, over the same value as the program's. -/
import Derived.Test.YtlgioldmjohhlaaT2RefLot
namespace Go.Proofs.Ytlgioldmjohhlaa
open Go.RowKit

theorem find_gone {xs : List Lot} {i : Nat} (hi : i ≤ xs.length) (z : ByteArray) : (goneB (fromV xs i) z = true → findG (hasName z) (xs.take i) 0 = -1) ∧ (goneB (fromV xs i) z = false → ∃ m : Nat, findG (hasName z) (xs.take i) 0 = (m : Int)) := by
  have h1 := findG_any (hasName z) (xs.take i)
  rw [gone_take xs i hi z]
  cases ha : anyG (hasName z) (xs.take i) with
  | true =>
    rw [ha] at h1
    have h2 := of_decide_eq_true h1
    exact ⟨fun h => by simp at h, fun _ => ⟨(findG (hasName z) (xs.take i) 0).toNat, by omega⟩⟩
  | false =>
    refine ⟨fun _ => ?_, fun h => by simp at h⟩
    unfold findG
    rw [List.drop_zero]
    have h2 : (xs.take i).findIdx? (hasName z) = none := by
      rw [List.findIdx?_eq_none_iff]
      unfold anyG at ha
      rw [List.any_eq_false] at ha
      intro x hx
      simpa using ha x hx
    rw [h2]
theorem LotsIn.take {B : Nat} {w : World} {A : Option Addr} {xs : List Lot} (h : LotsIn B w A xs) (k : Nat) : LotsIn B w A (xs.take k) := by
  rcases h with h | ⟨b, off, hA, hb, hc⟩
  · exact .inl (by rw [h]; simp)
  · refine .inr ⟨b, off, hA, hb, fun j hj => ?_⟩
    simp only [List.length_take] at hj
    have e : (xs.take k).getD j default = xs.getD j default := by simp [List.getD, show j < k by omega]
    rw [e]
    exact hc j (by omega)

set_option maxHeartbeats 4000000 in
set_option maxRecDepth 100000 in
theorem refCheckLots_any (B : Nat) (xs : List Lot) (A : Option Addr) (c : Nat) (w : World) (hr : LotsIn B w A xs) (hB : B ≤ w.heap.size) (hs : SmallLots xs) (hcap : xs.length ≤ c) :
    Calls Try.prog 38 #[.slice A xs.length c] w fun e w' => e = .returned (.tuple #[.int .i64 ((openLotsV xs).1 : Int), .int .i64 (openLotsV xs).2]) ∧ Below w.heap.size w w' := by
  obtain ⟨hs1, hs2⟩ := hs
  have HS2 := Lib.hid hs2
  have HR := Lib.hid hr
  clear hs2 hr
  by_cases hlen : 20 < xs.length
  · have HV := Lib.hid (show openLotsV xs = (0, 8) by unfold openLotsV; rw [if_pos hlen])
    have hlen' : (20 : Int) < (xs.length : Int) := by omega
    go_enter Try.func38, Try.ntmps38
    go_wp2
    go_ret2
    exact ⟨ret_ii (by rw [HV.out]; rfl) (by rw [HV.out]), pr⟩
  · have HV := Lib.hid (show openLotsV xs = scan (lotsE1 xs) xs.length 0 by unfold openLotsV; rw [if_neg hlen])
    have hle : xs.length ≤ 20 := by omega
    have hlen' : decide ((20 : Int) < (xs.length : Int)) = false := by simp; omega
    generalize openLotsV xs = V at *
    go_enter Try.func38, Try.ntmps38
    go_wp2
    clear hlen hlen'
    go_loopw [4] (fun ix wr => ∃ i : Nat, ix = .int .i64 (i : Int) ∧ i ≤ xs.length ∧ V = scan (lotsE1 xs) xs.length i ∧ Below w.heap.size w wr) (fun ix _ => xs.length - (intOf ix).toNat)
    case atStart => exact ⟨0, rfl, Nat.zero_le _, HV.out, pr⟩
    case round =>
      obtain ⟨i, rfl, hi, hf, hq⟩ := hrel
      by_cases hlt : i < xs.length
      · obtain ⟨b, off, hA, hbB, hct⟩ := (HR.out.below (hq.mono hB)).at_ hlt
        subst hA
        obtain ⟨t0, A3, c3, t1, tr, tc, t2, t3, t4, t5⟩ := hct i hlt
        have hBr : B ≤ wr.heap.size := Nat.le_trans hB hq.size
        have hbw : b < wr.heap.size := Nat.lt_of_lt_of_le hbB hBr
        have n0 : (0 : Int) ≤ (i : Int) := by omega
        have n1 : (i : Int) < (xs.length : Int) := by omega
        have n2 : (i : Int) ≤ (c : Int) := by omega
        have hsm := HS2.out i hlt
        have HF := Lib.hid (hf.trans (scan_step hlt))
        have HE := Lib.hid (show lotsE1 xs i = firstV [lotE (xs.getD i default), unlessV (goneB (fromV xs i) (xs.getD i default).name) 5, unlessV (!anyG (goneB (fromV xs i)) (xs.getD i default).made) 6] from rfl)
        have HG := Lib.hid (fun z => find_gone (xs := xs) (i := i) (by omega) z)
        have HTk := Lib.hid (show (xs.take i).length = i by simp; omega)
        have hm1 : i ≤ 1000 := by omega
        clear hct hf
        generalize xs.getD i default = x at *
        generalize fromV xs i = F at *
        have HSm := Lib.hid hsm
        have HTr := Lib.hid tr
        have HHR := Lib.hid (HR.out.below (hq.mono hB))
        have hmlen := hsm.2.1
        clear tr hsm
        have HLe := Lib.hid (refLotErr_any B x A3 x.made.length c3 wr rfl HTr.out hBr HSm.out tc)
        by_cases hz : lotE x = 0
        · rw [hz] at HLe HE
          have HE2 := Lib.hid (show lotsE1 xs i = firstV [unlessV (goneB F x.name) 5, unlessV (!anyG (goneB F) x.made) 6] by rw [HE.out]; rfl)
          clear HE hz
          cases hgn : goneB F x.name with
          | false =>
            obtain ⟨m, hm⟩ := (HG.out x.name).2 hgn
            have HO := Lib.hid (show lotsE1 xs i = 5 by rw [HE2.out, hgn]; rfl)
            have HV5 := Lib.hid (show V = (i, 5) by rw [HF.out, HO.out, if_neg (by decide)])
            have HFd := Lib.hid fun (W : World) (hW : Below wr.heap.size wr W) => refFind_any B (xs.take i) (some ⟨b, off, none⟩) i c x.name W ((HHR.out.below (hW.mono hBr)).take i) HTk.out hm1
            rw [hm] at HFd
            have m0 : (0 : Int) ≤ (m : Int) := by omega
            clear hm hgn
            go_wp2_with (go_at_call 41; go_must (refine HLe.out.mono ?_); rintro e w1 ⟨rfl, hb1⟩; have s0 : w1.cell? ⟨b, off + i * 6, none⟩ = some (.string x.name) := ((bcell (hb1.mono hBr)).1 _ _ hbB).trans t0; clear t0 t1 t2 t3 t4 t5)
            go_quiet ((go_at_call 57; exact Calls.quiet_of_same ((HFd.out _ (below_drewN' hb1 _)).mono fun e w' h => ⟨h.1, h.2.symm⟩)))
            have hb2 : Below wr.heap.size wr (w1.drewN nq) := below_drewN' hb1 nq
            go_wp2
            go_ret2
            exact ⟨ret_ii (by rw [HV5.out]) (by rw [HV5.out]), pt hq hb2⟩
          | true =>
            have hm := (HG.out x.name).1 hgn
            have HE3 := Lib.hid (show lotsE1 xs i = unlessV (!anyG (goneB F) x.made) 6 by rw [HE2.out, hgn]; simp only [firstV, unlessV]; cases anyG (goneB F) x.made <;> simp)
            have HFd := Lib.hid fun (W : World) (hW : Below wr.heap.size wr W) => refFind_any B (xs.take i) (some ⟨b, off, none⟩) i c x.name W ((HHR.out.below (hW.mono hBr)).take i) HTk.out hm1
            have HFm := Lib.hid fun (k : Nat) (W : World) (hW : Below wr.heap.size wr W) => refFind_any B (xs.take i) (some ⟨b, off, none⟩) i c (x.made.getD k default) W ((HHR.out.below (hW.mono hBr)).take i) HTk.out hm1
            rw [hm] at HFd
            clear hm hgn HE2
            go_wp2_with (go_at_call 41; go_must (refine HLe.out.mono ?_); rintro e w1 ⟨rfl, hb1⟩; have s0 : w1.cell? ⟨b, off + i * 6, none⟩ = some (.string x.name) := ((bcell (hb1.mono hBr)).1 _ _ hbB).trans t0; have s1 : w1.cell? ⟨b, off + i * 6 + 1, none⟩ = some (.slice A3 x.made.length c3) := ((bcell (hb1.mono hBr)).1 _ _ hbB).trans t1; clear t0 t1 t2 t3 t4 t5)
            go_quiet ((go_at_call 57; exact Calls.quiet_of_same ((HFd.out _ (below_drewN' hb1 _)).mono fun e w' h => ⟨h.1, h.2.symm⟩)))
            have hb2 : Below wr.heap.size wr (w1.drewN nq) := below_drewN' hb1 nq
            have hs1' : (w1.drewN nq).cell? ⟨b, off + i * 6 + 1, none⟩ = some (.slice A3 x.made.length c3) := s1
            have HS1 := Lib.hid hs1'
            clear s0 s1 hs1'
            go_wp2
            obtain ⟨wo, rfl⟩ : ∃ wo : World, wo = wr := ⟨_, rfl⟩
            generalize hw2 : w1.drewN nq = w2 at *
            clear hw2
            go_loopw [6] (fun jx wr2 => ∃ j : Nat, jx = .int .i64 (j : Int) ∧ j ≤ x.made.length ∧ anyG (goneB F) x.made = anyG (goneB F) (x.made.drop j) ∧ Below wo.heap.size wo wr2) (fun jx _ => x.made.length - (intOf jx).toNat)
            case atStart => exact ⟨0, rfl, Nat.zero_le _, rfl, hb2⟩
            case round =>
              obtain ⟨j, rfl, hj, hfj, hbj⟩ := hrel
              have s1 : wr.cell? ⟨b, off + i * 6 + 1, none⟩ = some (.slice A3 x.made.length c3) := by
                have h2 := (bcell (hb2.mono hBr)).1 b (off + i * 6 + 1) hbB
                have h3 := (bcell (hbj.mono hBr)).1 b (off + i * 6 + 1) hbB
                exact h3.trans (h2.symm.trans HS1.out)
              have hbw2 : b < wr.heap.size := Nat.lt_of_lt_of_le hbw hbj.size
              by_cases hlt2 : j < x.made.length
              · obtain ⟨b4, off4, hA4, hb4, hc4⟩ := (HTr.out.below (hbj.mono hBr)).at_ hlt2
                subst hA4
                have s2 := hc4 j hlt2
                have j0 : (0 : Int) ≤ (j : Int) := by omega
                have j1 : (j : Int) < (x.made.length : Int) := by omega
                have hb4w : b4 < wr.heap.size := by have := hbj.size; omega
                have HJ := Lib.hid (hfj.trans (anyG_step (goneB F) x.made j default hlt2))
                have hfm := fun W hW => HFm.out j W hW
                have hgg := HG.out (x.made.getD j default)
                clear hc4 hfj
                generalize x.made.getD j default = y at *
                cases hgy : goneB F y with
                | true =>
                  have hm := hgg.1 hgy
                  have HO := Lib.hid (show lotsE1 xs i = 6 by rw [HE3.out, HJ.out, hgy]; rfl)
                  have HV5 := Lib.hid (show V = (i, 6) by rw [HF.out, HO.out, if_neg (by decide)])
                  rw [hm] at hfm
                  have HFy := Lib.hid hfm
                  clear hm hgy hfm hgg
                  go_wp2
                  go_quiet ((go_at_call 57; exact Calls.quiet_of_same ((HFy.out _ (below_drewN' hbj _)).mono fun e w' h => ⟨h.1, h.2.symm⟩)))
                  have hb3 : Below wo.heap.size wo (wr.drewN nq) := below_drewN' hbj nq
                  go_wp2
                  go_ret2
                  exact ⟨ret_ii (by rw [HV5.out]) (by rw [HV5.out]), pt hq hb3⟩
                | false =>
                  obtain ⟨m, hm⟩ := hgg.2 hgy
                  have HJ2 := Lib.hid (show anyG (goneB F) x.made = anyG (goneB F) (x.made.drop (j + 1)) by rw [HJ.out, hgy]; simp)
                  rw [hm] at hfm
                  have HFy := Lib.hid hfm
                  have m0 : decide ((m : Int) < 0) = false := decide_eq_false (by omega)
                  clear hm hgy hfm hgg HJ
                  go_wp2
                  go_quiet ((go_at_call 57; exact Calls.quiet_of_same ((HFy.out _ (below_drewN' hbj _)).mono fun e w' h => ⟨h.1, h.2.symm⟩)))
                  have hb3 : Below wo.heap.size wo (wr.drewN nq) := below_drewN' hbj nq
                  go_wp2
                  go_roundw
                  case rel => exact ⟨j + 1, by go_num, by omega, HJ2.out, hb3⟩
                  case measure => simp [intOf]; omega
              · have HO := Lib.hid (show lotsE1 xs i = 0 by rw [HE3.out, hfj, List.drop_eq_nil_of_le (by omega)]; rfl)
                have HV5 := Lib.hid (show V = scan (lotsE1 xs) xs.length (i + 1) by rw [HF.out, HO.out, if_pos rfl])
                clear hfj
                go_wp2
                go_roundw
                case rel => exact ⟨i + 1, by go_num, by omega, HV5.out, pt hq hbj⟩
                case measure => simp [intOf]; omega
        · have hne : (lotE x != 0) = true := by simpa using hz
          have HO := Lib.hid (show lotsE1 xs i = lotE x by rw [HE.out]; show (if lotE x = 0 then _ else lotE x) = _; rw [if_neg hz])
          have HV5 := Lib.hid (show V = (i, lotE x) by rw [HF.out, HO.out, if_neg hz])
          clear HE HO hz
          generalize lotE x = E at *
          go_wp2_with (go_at_call 41; go_must (refine HLe.out.mono ?_); rintro e w1 ⟨rfl, hb1⟩)
          go_ret2
          exact ⟨ret_ii (by rw [HV5.out]) (by rw [HV5.out]), pt hq hb1⟩
      · have HV5 := Lib.hid (show V = (0, 0) by rw [hf]; exact scan_end (by omega))
        clear hf
        go_wp2
        go_ret2
        exact ⟨ret_ii (by rw [HV5.out]; rfl) (by rw [HV5.out]), hq⟩

end Go.Proofs.Ytlgioldmjohhlaa
