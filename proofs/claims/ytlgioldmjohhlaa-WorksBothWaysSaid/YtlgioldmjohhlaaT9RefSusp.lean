/- Contract: the specification's SuspectsIn, over the same value as the program's. Lots are valid. -/
import Derived.Test.YtlgioldmjohhlaaT8In
namespace Go.Proofs.Ytlgioldmjohhlaa
open Go.RowKit

/-- Strings in a slice. -/
def TextsRet (w : World) (ys : List ByteArray) (e : Ending) (w' : World) : Prop :=
  ∃ A c, e = .returned (.slice A ys.length c) ∧ RowIn Value.string w'.heap.size w' A ys ∧ ys.length ≤ c ∧ Below w.heap.size w w'

set_option maxHeartbeats 2000000 in
set_option maxRecDepth 100000 in
theorem refSuspects_any (B : Nat) (xs : List Lot) (A : Option Addr) (c : Nat) (w : World) (hr : LotsIn B w A xs) (hB : B ≤ w.heap.size) (ok : LotsOk xs) :
    Calls Try.prog 44 #[.slice A xs.length c] w (TextsRet w (suspectsV xs)) := by
  obtain ⟨i0, hi0, hz0, hz1, hz2⟩ := info_parts string_info
  have hle := ok.1
  have HSu := Lib.hid (suspects_pick ok)
  generalize suspectsV xs = YS at *
  have HOk := Lib.hid ok
  have HR := Lib.hid hr
  clear ok hr
  go_enter Try.func44, Try.ntmps44
  go_wp2
  go_loopw [3, 4] (fun ov ix wr => ∃ (i : Nat) (A' : Option Addr) (c' : Nat), ov = .slice A' (pickV (fun i => suspK xs i xs.length) xs i).length c' ∧ ix = .int .i64 (i : Int) ∧ i ≤ xs.length ∧ wr.ownsRow w.heap.size 9 1 (.slice A' (pickV (fun i => suspK xs i xs.length) xs i).length c') (pickV (fun i => suspK xs i xs.length) xs i).length ((pickV (fun i => suspK xs i xs.length) xs i).map Value.string) ∧ Below w.heap.size w wr) (fun _ ix _ => xs.length - (intOf ix).toNat)
  case atStart => exact ⟨0, none, 0, rfl, rfl, Nat.zero_le _, World.ownsRow_nil _ _ _ _, pr⟩
  case round =>
    obtain ⟨i, A', c', rfl, rfl, hi, hown, hq⟩ := hrel
    by_cases hlt : i < xs.length
    · obtain ⟨b, off, hA, hbB, hct⟩ := HR.out.at_ hlt
      subst hA
      have HAt := Lib.hid hct
      obtain ⟨t0w, A3, c3, t1w, _, _, t2w, t3w, t4w, t5w⟩ := hct i hlt
      have HT0 := Lib.hid t0w
      have hBr : B ≤ wr.heap.size := Nat.le_trans hB hq.size
      have hbw : b < wr.heap.size := Nat.lt_of_lt_of_le hbB hBr
      have t0 := ((bcell (hq.mono hB)).1 _ _ hbB).trans t0w
      have t1 := ((bcell (hq.mono hB)).1 _ _ hbB).trans t1w
      have t2 := ((bcell (hq.mono hB)).1 _ _ hbB).trans t2w
      have t3 := ((bcell (hq.mono hB)).1 _ _ hbB).trans t3w
      have t4 := ((bcell (hq.mono hB)).1 _ _ hbB).trans t4w
      have t5 := ((bcell (hq.mono hB)).1 _ _ hbB).trans t5w
      clear t0w t1w t2w t3w t4w t5w hct
      have n0 : (0 : Int) ≤ (i : Int) := by omega
      have n1 : (i : Int) < (xs.length : Int) := by omega
      have HStep := Lib.hid (show pickV (fun i => suspK xs i xs.length) xs (i + 1) = pickV (fun i => suspK xs i xs.length) xs i ++ if suspK xs i xs.length then [(xs.getD i default).name] else [] from rfl)
      have hlen := pick_len (fun i => suspK xs i xs.length) xs i
      have HS0 := Lib.hid (show suspK xs i 0 = (acceptV (xs.getD i default) != 2) by unfold suspK badB; simp)
      have hacc := fun W => refAccept_any (xs.getD i default) A3 (xs.getD i default).made.length c3 W
      generalize pickV (fun i => suspK xs i xs.length) xs i = ys at *
      generalize xs.getD i default = x at *
      have HAcc := Lib.hid hacc
      have HOwn := Lib.hid hown
      have HQ := Lib.hid hq
      have hqs := hq.size
      clear hown hacc hq
      generalize acceptV x = V at *
      go_wp2_with (first
        | (go_at_call 42; go_must (refine (HAcc.out _).mono ?_); rintro e w1 ⟨rfl, hb1⟩; have hb1s := hb1.size; have HB1 := Lib.hid hb1; clear hb1 t0 t1 t2 t3 t4 t5)
        | (go_at_call 105; go_must (refine (refIn_any B xs _ c i w1 (HR.out.below ((pt HQ.out HB1.out).mono hB)) (Nat.le_trans hBr hb1s) HOk.out hlt).mono ?_); rintro e w2 ⟨g, rfl, hg, hg2, hb2⟩; have hb2s := hb2.size; have HB2 := Lib.hid (pt HB1.out hb2); have HG := Lib.hid hg; have hgl := hg.lt; clear hb2 hg hg2))
      obtain ⟨wo, rfl⟩ : ∃ wo : World, wo = wr := ⟨_, rfl⟩
      rw [← HS0.out]
      go_loopw [5, 7] (fun sv jv wr2 => ∃ k : Nat, sv = .bool (suspK xs i k) ∧ jv = .int .i64 (k : Int) ∧ k ≤ xs.length ∧ Below w2.heap.size w2 wr2) (fun _ jv _ => xs.length - (intOf jv).toNat)
      case atStart => exact ⟨0, rfl, rfl, Nat.zero_le _, pr⟩
      case round =>
        obtain ⟨k, rfl, rfl, hk, hb⟩ := hrel
        have hbs := hb.size
        have HB := Lib.hid hb
        have hbwW : Below w.heap.size w wr := pt (pt HQ.out HB2.out) hb
        have hbw3 : b < wr.heap.size := by omega
        have hgw : g < wr.heap.size := by omega
        by_cases hlt2 : k < xs.length
        · have hs := suspK_succ xs i k
          have k0 : (0 : Int) ≤ (k : Int) := by omega
          have k1 : (k : Int) < (xs.length : Int) := by omega
          have kg := HG.out.past hb
          have gc : wr.cell? ⟨g, k, none⟩ = some (.bool (ingD xs i k)) := kg.cellAt k (marks_at hlt2)
          cases hsk : suspK xs i k with
          | true =>
            have HS := Lib.hid (show suspK xs i (k + 1) = true by rw [hs, hsk]; rfl)
            clear hs hsk kg gc hb
            go_wp2
            go_roundw
            case rel => exact ⟨k + 1, by rw [HS.out], by go_num, by omega, HB.out⟩
            case measure => simp [intOf]; omega
          | false =>
            cases hin : ingD xs i k with
            | false =>
              rw [hin] at gc
              have HS := Lib.hid (show suspK xs i (k + 1) = false by rw [hs, hsk, hin]; rfl)
              clear hs hsk hin kg hb
              go_wp2
              go_roundw
              case rel => exact ⟨k + 1, by rw [HS.out], by go_num, by omega, HB.out⟩
              case measure => simp [intOf]; omega
            | true =>
              rw [hin] at gc
              obtain ⟨u0w, A5, c5, u1w, _, _, u2w, u3w, u4w, u5w⟩ := HAt.out k hlt2
              have u0 := ((bcell (hbwW.mono hB)).1 _ _ hbB).trans u0w
              have u1 := ((bcell (hbwW.mono hB)).1 _ _ hbB).trans u1w
              have u2 := ((bcell (hbwW.mono hB)).1 _ _ hbB).trans u2w
              have u3 := ((bcell (hbwW.mono hB)).1 _ _ hbB).trans u3w
              have u4 := ((bcell (hbwW.mono hB)).1 _ _ hbB).trans u4w
              have u5 := ((bcell (hbwW.mono hB)).1 _ _ hbB).trans u5w
              have HS := Lib.hid (show suspK xs i (k + 1) = (acceptV (xs.getD k default) != 2) by rw [hs, hsk, hin]; simp [badB])
              have HAcc2 := Lib.hid fun W => refAccept_any (xs.getD k default) A5 (xs.getD k default).made.length c5 W
              clear u0w u1w u2w u3w u4w u5w hs hsk hin kg hb hbwW
              generalize xs.getD k default = y at *
              generalize acceptV y = V2 at *
              go_wp2_with (go_at_call 42; go_must (refine (HAcc2.out _).mono ?_); rintro e w3 ⟨rfl, hb3⟩)
              go_roundw
              case rel => exact ⟨k + 1, by rw [HS.out], by go_num, by omega, pt HB.out hb3⟩
              case measure => simp [intOf]; omega
        · obtain rfl : k = xs.length := by omega
          have HOwn2 := Lib.hid (ownsRow_past (pt HB2.out hb) HOwn.out)
          have u0 := ((bcell (hbwW.mono hB)).1 _ _ hbB).trans HT0.out
          have HBW := Lib.hid hbwW
          clear hb hbwW
          cases hsk : suspK xs i xs.length with
          | false =>
            have HSt := Lib.hid (show pickV (fun i => suspK xs i xs.length) xs (i + 1) = ys by rw [HStep.out, hsk]; simp)
            clear hsk u0
            go_wp2
            go_roundw
            case rel => exact ⟨i + 1, A', c', by rw [HSt.out], by go_num, by omega, by rw [HSt.out]; exact HOwn2.out, HBW.out⟩
            case measure => simp [intOf]; omega
          | true =>
            have HSt := Lib.hid (show pickV (fun i => suspK xs i xs.length) xs (i + 1) = ys ++ [x.name] by rw [HStep.out, hsk]; simp)
            have HC := Lib.hid (cellsIn_new wr 9 (.string x.name))
            have HO3 := Lib.hid (HOwn2.out.alloc (.cells #[.string x.name] 9))
            clear hsk
            go_wp2_with (at_builtin; go_must (refine wpList_append_cells _ rfl (.tmp 45) (.tmp 51) _ rfl w.heap.size 9 i0 _ 1 16 Try.underlying53 hi0 hz0 hz1 hz2 rfl (by omega) _ ys.length _ rfl HO3.out (wr.heap.size + 1) (some ⟨wr.heap.size, 0, none⟩) 1 1 _ rfl HC.out rfl (by simp [Value.oneCell']) (by simp only [maxLen]; omega) (by omega) (by simp; omega) ?_); intro v4 w4 hown4 hg4 hat4; obtain ⟨A4, c4, rfl, hc4, hm4⟩ := own_form hown4)
            have HB4 := Lib.hid (show Below w.heap.size w w4 from pg (pa HBW.out) HO3.out (Nat.le_refl _) hg4)
            have HOwn4 := Lib.hid hown4
            clear hown4 hg4 hat4
            go_roundw
            case rel => exact ⟨i + 1, A4, c4, by rw [HSt.out]; simp, by go_num, by omega, by rw [HSt.out]; simpa using HOwn4.out, HB4.out⟩
            case measure => simp [intOf]; omega
    · obtain rfl : i = xs.length := by omega
      rw [HSu.out] at hown ⊢
      have HRow := Lib.hid (rowS_of_own hown)
      obtain ⟨A2, c2, hv, hcap, _⟩ := own_form hown
      have hcap' : YS.length ≤ c' := by injection hv with _ _ h; omega
      clear hown hv
      go_wp2
      go_ret
      exact ⟨A', c', rfl, HRow.out, hcap', hq⟩

end Go.Proofs.Ytlgioldmjohhlaa
