/- Contract: the specification's list of the ingredients of a lot, as marks. Lots are valid. -/
import Derived.Test.YtlgioldmjohhlaaT3Check
import Derived.Deep.OwnRows
namespace Go.Proofs.Ytlgioldmjohhlaa
open Go.RowKit

theorem bool_info : (Try.prog.info? 4).map (fun i => (i.zero, i.size, i.bytes)) = some (some (.bool false), 1, 1) := by kernel_rfl
theorem made_false (n : Nat) : madeCells #[Value.bool false] n = marksC n fun _ => false := by
  have h := toList_madeCells_one (.bool false) n
  have e : madeCells #[.bool false] n = (madeCells #[.bool false] n).toList.toArray := by simp
  rw [e, h]
  unfold marksC
  congr 1
  apply List.ext_getElem
  · simp
  · intro j h1 h2; simp

theorem next_case {xs : List Lot} {a i : Nat} {o : Nat → Bool} (h : Marks xs a i o) (hi : i ≤ a) {v : Value} (hv : v = .int .i64 ((i : Int) - 1) := by rfl) :
    (∃ p : Nat, v = .int .i64 (p : Int) ∧ p ≤ a ∧ Marks xs a (p + 1) o) ∨ (v = .int .i64 (-1) ∧ Marks xs a 0 o) := by
  subst hv
  rcases i with _ | p
  · exact .inr ⟨rfl, h⟩
  · exact .inl ⟨p, by rw [show ((p + 1 : Nat) : Int) - 1 = (p : Int) by omega], by omega, h⟩

def InRet (xs : List Lot) (a : Nat) (w : World) (e : Ending) (w' : World) : Prop :=
  ∃ g, e = .returned (.slice (some ⟨g, 0, none⟩) xs.length xs.length) ∧ Blk w' g 4 (marksC xs.length (ingD xs a)) ∧ w.heap.size ≤ g ∧ Below w.heap.size w w'

set_option maxHeartbeats 1000000 in
set_option maxRecDepth 100000 in
theorem refIn_any (B : Nat) (xs : List Lot) (A : Option Addr) (c a : Nat) (w : World) (hr : LotsIn B w A xs) (hB : B ≤ w.heap.size) (ok : LotsOk xs) (ha : a < xs.length) :
    Calls Try.prog 105 #[.slice A xs.length c, .int .i64 (a : Int)] w (InRet xs a w) := by
  have hle := ok.1
  have hmk := fun w => run_make_row' (P := Try.prog) 89 4 (.bool false) 1 rfl bool_info rfl .i64 .i64 xs.length (by omega) (by omega) w
  rw [made_false] at hmk
  have HOk := Lib.hid ok
  have HR := Lib.hid hr
  clear ok hr
  go_enter Try.func105, Try.ntmps105
  go_wp2
  clear hmk
  go_loopw [6] (fun iv wr => ∃ o : Nat → Bool, ((∃ i : Nat, iv = .int .i64 (i : Int) ∧ i ≤ a ∧ Marks xs a (i + 1) o) ∨ (iv = .int .i64 (-1) ∧ Marks xs a 0 o)) ∧ Blk wr w.heap.size 4 (marksC xs.length o) ∧ Below w.heap.size w wr) (fun iv _ => (intOf iv + 1).toNat)
  case atStart => exact ⟨fun _ => false, .inl ⟨a, rfl, Nat.le_refl _, marks_start xs a⟩, Blk.newAt rfl, pa pr⟩
  case round =>
    obtain ⟨o, hcase, k0, hq⟩ := hrel
    rcases hcase with ⟨i, rfl, hi, hM⟩ | ⟨rfl, hM⟩
    · have hix : i < xs.length := by omega
      obtain ⟨b, off, hA, hbB, hct⟩ := HR.out.at_ hix
      subst hA
      obtain ⟨t0, A3, c3, t1w, tr, tc, t2, t3, t4, t5⟩ := hct i hix
      have t1 := ((bcell (hq.mono hB)).1 _ _ hbB).trans t1w
      have hBr : B ≤ wr.heap.size := Nat.le_trans hB hq.size
      have hbw : b < wr.heap.size := Nat.lt_of_lt_of_le hbB hBr
      have n0 : (0 : Int) ≤ (i : Int) := by omega
      have n1 : (i : Int) < (xs.length : Int) := by omega
      have m0 : wr.cell? ⟨w.heap.size, i, none⟩ = some (.bool (o i)) := k0.cellAt i (marks_at hix)
      have hmd := (HOk.out.2 i hix).2.1
      have HM := Lib.hid hM
      have K0 := Lib.hid k0
      have hk0 := k0.lt
      have hT0 := t0
      clear hT0 t0 t2 t3 t4 t5 hM hct k0
      have hgo : (i = a ∨ o i = true) ∨ (i ≠ a ∧ o i = false) := by
        by_cases h : i = a
        · exact .inl (.inl h)
        · cases ho : o i with
          | true => exact .inl (.inr rfl)
          | false => exact .inr ⟨h, rfl⟩
      rcases hgo with hgo | ⟨hne, ho⟩
      · have HGo := Lib.hid hgo
        have HMd := Lib.hid (show madeAt xs i = (xs.getD i default).made from rfl)
        have HTr := Lib.hid tr
        have HName := Lib.hid fun j (hj : j < (madeAt xs i).length) => gone_false (show i ≤ xs.length by omega) ((HOk.out.2 i hix).2.2 _ (getD_in (d := default) hj))
        rw [← HMd.out] at t1 t1w tc HTr
        generalize hys : madeAt xs i = ys at *
        have HMe := Lib.hid hys
        clear hys
        have hguard : (((i : Int) != (a : Int)) = false) ∨ (((i : Int) != (a : Int)) = true ∧ o i = true) := by
          rcases hgo with h | h
          · left; simp [h]
          · by_cases h2 : i = a
            · left; simp [h2]
            · right; exact ⟨by rw [bne_iff_ne]; omega, h⟩
        clear hgo tr
        rcases hguard with hg | ⟨hg, ho⟩
        all_goals
          try rw [ho] at m0
          go_wp2
          obtain ⟨wo, rfl⟩ : ∃ wo : World, wo = wr := ⟨_, rfl⟩
          have HT1 := Lib.hid t1w
          clear t1 t1w m0 hg
          try clear ho
          go_loopw [7] (fun jv wr2 => ∃ j : Nat, jv = .int .i64 (j : Int) ∧ j ≤ ys.length ∧ Blk wr2 w.heap.size 4 (marksC xs.length (markV xs o (ys.take j))) ∧ Below w.heap.size w wr2) (fun jv _ => ys.length - (intOf jv).toNat)
          case atStart => exact ⟨0, rfl, Nat.zero_le _, by
            have h := K0.out
            rw [marksC_ext (o2 := markV xs o (ys.take 0)) (fun j _ => by simp [markV])] at h
            exact h, hq⟩
          case round =>
            obtain ⟨j, rfl, hj, kB, hbj⟩ := hrel
            have s1 := ((bcell (hbj.mono hB)).1 _ _ hbB).trans HT1.out
            have hbw2 : b < wr.heap.size := by have := hbj.size; omega
            by_cases hlt2 : j < ys.length
            · obtain ⟨m, hm, hnm⟩ := HName.out j hlt2
              have hbB2 : B ≤ wr.heap.size := Nat.le_trans hB hbj.size
              obtain ⟨b4, off4, hA4, hb4, hc4⟩ := (HTr.out.below (hbj.mono hB)).at_ (k := j) hlt2
              subst hA4
              have s2 := hc4 j hlt2
              rw [← hnm] at s2
              have hb4w : b4 < wr.heap.size := by omega
              have hmx : m < xs.length := by omega
              have hfd : ∀ W, Below w.heap.size w W → Calls Try.prog 57 #[.slice (some ⟨b, off, none⟩) xs.length c, .string (nameAt xs m)] W (fun e w' => e = .returned (.int .i64 (m : Int)) ∧ W = w') := fun W hW => by
                have h := refFind_any B xs (some ⟨b, off, none⟩) xs.length c (nameAt xs m) W (HR.out.below (hW.mono hB)) rfl (by omega)
                rw [find_name HOk.out hmx] at h
                exact h
              have j0 : (0 : Int) ≤ (j : Int) := by omega
              have j1 : (j : Int) < (ys.length : Int) := by omega
              have q0 : (0 : Int) ≤ (m : Int) := by omega
              have q1 : (m : Int) < (xs.length : Int) := by omega
              have c0 := kB.cellAt m (marks_at hmx)
              have f0 := kB.frozen m
              have hgx := kB.lt
              have HK := Lib.hid (show Blk (wr.setCell ⟨w.heap.size, m, none⟩ (.bool true)) w.heap.size 4 (marksC xs.length (markV xs o (ys.take (j + 1)))) by
                have h := kB.set_ m (.bool true)
                rw [marks_set] at h
                rw [marksC_ext fun q hq => marks_one HOk.out hlt2 hmx hnm hq]
                exact h)
              clear hc4 kB
              have HFd := Lib.hid hfd
              clear hfd hnm
              generalize nameAt xs m = z at *
              go_wp2_with (go_at_call 57; go_must (refine (HFd.out _ hbj).mono ?_); rintro e w' ⟨rfl, rfl⟩)
              go_roundw
              case rel => exact ⟨j + 1, by go_num, by omega, HK.out, ps hbj (Nat.le_refl _)⟩
              case measure => simp [intOf]; omega
            · obtain rfl : j = ys.length := by omega
              rw [List.take_length] at kB
              have HKB := Lib.hid kB
              have HM3 := Lib.hid (marks_step HOk.out ha hi HM.out HGo.out)
              rw [show madeAt xs i = ys from HMe.out] at HM3
              clear kB
              go_wp2
              go_roundw
              case rel => exact ⟨_, next_case HM3.out hi, HKB.out, hbj⟩
              case measure => simp [intOf]; try omega
      · have hg : ((i : Int) != (a : Int)) = true := by rw [bne_iff_ne]; omega
        rw [ho] at m0
        have HM2 := Lib.hid (marks_skip HM.out hne ho)
        clear hne ho tr
        go_wp2
        go_roundw
        case rel => exact ⟨o, next_case HM2.out hi, K0.out, hq⟩
        case measure => simp [intOf]; try omega
    · have HE := Lib.hid (show Blk wr w.heap.size 4 (marksC xs.length (ingD xs a)) by
        rw [← marksC_ext (fun j hj => marks_end HOk.out ha hM hj)]
        exact k0)
      clear hM k0
      go_wp2
      go_ret
      exact ⟨_, rfl, HE.out, Nat.le_refl _, hq⟩

end Go.Proofs.Ytlgioldmjohhlaa
