/- Contract: the specification's BestBound. Valid plans. -/
import Derived.Test.YtlgioldmjohhlaaU8Subsets
import Derived.Test.YtlgioldmjohhlaaU5TasksErr
namespace Go.Proofs.Ytlgioldmjohhlaa
open Go.RowKit

def rbStep (ts : List Task) (s : List Int × Int) (l : List Int) : List Int × Int := if tasksE ts l ≠ 0 then s else if s.2 < busyV ts l then (l, busyV ts l) else s
def rbUpto (ts : List Task) : Nat → List Int × Int
  | 0 => ([], -1)
  | k + 1 => (subsV ts.length (k + 1) []).foldl (rbStep ts) (rbUpto ts k)

theorem row_at {w : World} {base n c j : Nat} {A : Option Addr} {us : List Value} {L : List (List Int)} (h : w.ownsRow base 28 1 (.slice A n c) n us) (hr : RowsOf w us L) (hl : j < L.length) :
    ∃ b off A2 c2, A = some ⟨b, off, none⟩ ∧ b < w.heap.size ∧ w.cell? ⟨b, off + j, none⟩ = some (.slice A2 (L.getD j []).length c2) ∧ IntsIn w.heap.size w A2 (L.getD j []) := by
  have hu : j < us.length := by rw [hr.1]; exact hl
  obtain ⟨A2, c2, h1, _, h3⟩ := hr.2 j hl
  rcases cellsIn_of_own h with hx | ⟨b, off, hA, hb, hc⟩
  · rw [hx] at hu; simp at hu
  · have := hc j hu
    rw [List.getElem?_eq_getElem hu] at this
    have e : us.getD j undef = us[j] := by simp [List.getD, hu]
    rw [e] at h1
    exact ⟨b, off, A2, c2, hA, hb, this.trans (by rw [h1]), h3.ints⟩

theorem subsV_len {count : Nat} : ∀ (d : Nat) (xs l : List Int), l ∈ subsV count d xs → l.length = xs.length + d
  | 0, xs, l, h => by simp [subsV] at h; subst h; rfl
  | d + 1, xs, l, h => by
    simp only [subsV, List.mem_flatten, List.mem_map] at h
    obtain ⟨L, ⟨j, _, rfl⟩, hl⟩ := h
    have := subsV_len d _ l hl
    simp at this
    omega

set_option maxHeartbeats 4000000 in
set_option maxRecDepth 100000 in
theorem refBestBound_any (B : Nat) (ts : List Task) (A : Option Addr) (c : Nat) (m : Int) (w : World) (hr : TasksIn B w A ts) (hB : B ≤ w.heap.size) (ha : AcyOk ts) (hl : LenOk ts) (hm : MachOk ts) (hp : PosOk ts) :
    Calls Try.prog 76 #[.agg #[.int .i64 m, .slice A ts.length c]] w fun e w' => ∃ A2 c2, e = .returned (.tuple #[.slice A2 (rbUpto ts ts.length).1.length c2, .int .i64 (rbUpto ts ts.length).2]) ∧ IntsIn w'.heap.size w' A2 (rbUpto ts ts.length).1 ∧ Below w.heap.size w w' := by
  have h7 := ha.1.1
  have HBusy := Lib.hid fun W A2 c2 (L : List Int) (hW : Below w.heap.size w W) (h2 : IntsIn W.heap.size W A2 L) (hE : TasksOk ts.length L) => refBusy_any W.heap.size ts L A A2 c c2 m W ((hr.below (hW.mono hB)).more (Nat.le_trans hB hW.size)) h2 (Nat.le_refl _) ha hl hm hp hE
  have HErr := Lib.hid fun W A2 c2 (L : List Int) (hW : Below w.heap.size w W) (h2 : IntsIn W.heap.size W A2 L) (hL : L.length ≤ 1000) => refTasksErr_any W.heap.size ts L A A2 c c2 m W ((hr.below (hW.mono hB)).more (Nat.le_trans hB hW.size)) h2 (Nat.le_refl _) (by omega) hL
  clear ha hl hm hp hr
  have RA := Lib.hid (Blk.newAt (w := w) (t := 24) (cs := #[.int .i64 m, .slice A ts.length c]) rfl)
  have HBo := Lib.hid (show Below w.heap.size w (w.alloc (.cells #[.int .i64 m, .slice A ts.length c] 24)) from pa pr)
  go_enter Try.func76, Try.ntmps76
  go_wp2
  generalize (w.alloc (.cells #[.int .i64 m, .slice A ts.length c] 24)) = wo at *
  go_loopw [4, 5, 6] (fun bv nv sv wr => ∃ (k : Nat) (A2 : Option Addr) (c2 : Nat), sv = .int .i64 (k : Int) ∧ (1 ≤ k ∧ k ≤ ts.length + 1) ∧ bv = .slice A2 (rbUpto ts (k - 1)).1.length c2 ∧ nv = .int .i64 (rbUpto ts (k - 1)).2 ∧ IntsIn wr.heap.size wr A2 (rbUpto ts (k - 1)).1 ∧ Below wo.heap.size wo wr) (fun _ _ sv _ => ts.length + 1 - (intOf sv).toNat)
  case atStart => exact ⟨1, none, 0, rfl, ⟨Nat.le_refl _, by omega⟩, rfl, rfl, .inl rfl, pr⟩
  case round =>
    obtain ⟨k, A2, c2, rfl, hk, rfl, rfl, hi2, hq⟩ := hrel
    have HQ0 := Lib.hid hq
    have HQ := Lib.hid (pt HBo.out hq)
    have a0 := (RA.out.past hq).cellAt 0 rfl
    have a1 := (RA.out.past hq).cellAt 1 rfl
    have x0 := (RA.out.past hq).lt
    have HI2 := Lib.hid hi2
    clear hq hi2
    by_cases hlt : k ≤ ts.length
    · have hle : (k : Int) ≤ (ts.length : Int) := by omega
      have HStep := Lib.hid (show rbUpto ts (k + 1 - 1) = (subsV ts.length k []).foldl (rbStep ts) (rbUpto ts (k - 1)) by
        rw [show k + 1 - 1 = (k - 1) + 1 by omega, rbUpto, show k - 1 + 1 = k by omega])
      have HFew := Lib.hid (subsV_few h7 k (by omega) [])
      have HLen := Lib.hid fun (l : List Int) (h : l ∈ subsV ts.length k []) => (by have := subsV_len k [] l h; simp at this; omega : l.length ≤ 7)
      have HSub := Lib.hid fun W => refSubsets_any ts.length k h7 (by omega) k [] none 0 0 W rfl (by omega) (Nat.le_refl _) (.inl rfl) (by simp)
      generalize rbUpto ts (k - 1) = S0 at *
      generalize subsV ts.length k [] = LL at *
      go_wp2_with (go_at_call 125; go_must (refine (HSub.out _).mono ?_); rintro e w1 ⟨Al, cl, us, rfl, hown, hrows, hb1⟩)
      have HQ1 := Lib.hid (pt HQ0.out hb1)
      have HRow := Lib.hid fun j (hj : j < LL.length) => row_at hown hrows hj
      have HI3 := Lib.hid ((HI2.out.below hb1).more hb1.size)
      clear hown hrows hb1 a0 a1 x0 HSub
      go_loopw [4, 5, 8] (fun bv nv jv wr => ∃ (j : Nat) (T : List Int × Int) (A2 : Option Addr) (c2 : Nat), jv = .int .i64 (j : Int) ∧ j ≤ LL.length ∧ bv = .slice A2 T.1.length c2 ∧ nv = .int .i64 T.2 ∧ rbUpto ts (k + 1 - 1) = (LL.drop j).foldl (rbStep ts) T ∧ IntsIn wr.heap.size wr A2 T.1 ∧ Below w1.heap.size w1 wr) (fun _ _ jv _ => LL.length - (intOf jv).toNat)
      case atStart => exact ⟨0, S0, A2, c2, rfl, Nat.zero_le _, rfl, rfl, HStep.out, HI3.out, pr⟩
      case round =>
        obtain ⟨j, T, A3, c3, rfl, hj, rfl, rfl, hT, hi3, hq⟩ := hrel
        clear HI2 HI3 HStep
        have hfew := HFew.out
        have HQ2 := Lib.hid hq
        have HQw := Lib.hid (pt HBo.out (pt HQ1.out hq))
        have a0 := (RA.out.past (pt HQ1.out hq)).cellAt 0 rfl
        have a1 := (RA.out.past (pt HQ1.out hq)).cellAt 1 rfl
        have x0 := (RA.out.past (pt HQ1.out hq)).lt
        have HI3 := Lib.hid hi3
        clear hq hi3
        obtain ⟨T1, T2⟩ := T
        by_cases hlj : j < LL.length
        · obtain ⟨b, off, A4, c4, hAl, hbl, hcl, hil⟩ := HRow.out j hlj
          have hcl2 := (HQ2.out.cell hbl).trans hcl
          have HIl := Lib.hid ((hil.below HQ2.out).more HQ2.out.size)
          have hbw : b < wr.heap.size := Nat.lt_of_lt_of_le hbl HQ2.out.size
          have hll := HLen.out (LL.getD j []) (getD_mem hlj)
          have hd : LL.drop j = LL.getD j [] :: LL.drop (j + 1) := by
            rw [List.drop_eq_getElem_cons hlj]
            simp [List.getD, hlj]
          have HT := Lib.hid (show rbUpto ts (k + 1 - 1) = (LL.drop (j + 1)).foldl (rbStep ts) (rbStep ts (T1, T2) (LL.getD j [])) by rw [hT, hd]; rfl)
          have HSt := Lib.hid (show rbStep ts (T1, T2) (LL.getD j []) = if tasksE ts (LL.getD j []) ≠ 0 then (T1, T2) else if T2 < busyV ts (LL.getD j []) then (LL.getD j [], busyV ts (LL.getD j [])) else (T1, T2) from rfl)
          have j0 : (0 : Int) ≤ (j : Int) := by omega
          have j1 : (j : Int) < (LL.length : Int) := by omega
          clear hcl hil hd hT
          generalize LL.getD j [] = l at *
          have HEr := Lib.hid fun W (hW : Below wr.heap.size wr W) => HErr.out W A4 c4 l (pt HQw.out hW) ((HIl.out.below hW).more hW.size) (by omega)
          have HBu := Lib.hid fun W (hW : Below wr.heap.size wr W) (hE : tasksE ts l = 0) => HBusy.out W A4 c4 l (pt HQw.out hW) ((HIl.out.below hW).more hW.size) (tasksE_ok (by omega) hE)
          subst hAl
          generalize tasksE ts l = E at *
          generalize busyV ts l = nb at *
          by_cases hE : E = 0
          · have HE := Lib.hid hE
            have hE1 : (E != 0) = false := by simp [hE]
            have HBu2 := Lib.hid fun W hW => HBu.out W hW hE
            clear hE
            go_wp2
            refine region_below 6 follows_mixed (by kernel_rfl) ?_
            intro C hC
            simp only [List.take_succ_cons, List.take_zero, List.drop_succ_cons, List.drop_zero]
            repeat (first
              | ((with_reducible refine quiet_plain rfl (fun K hK => ?_)); (focus (apply quiet_val; (focus (intro w' hw; obtain ⟨hcq, hfq⟩ := bcell ((hC.out _).1 hw); go_simp; (first | done | rfl | (with_reducible exact call_below hC hw (HEr.out _ ((hC.out _).1 hw)))))); (simp only [Act.put, List.setIfInBounds_toArray, List.set_cons_succ, List.set_cons_zero]); (with_reducible refine hK _ ?_); clear hK K)))
              | ((with_reducible refine quiet_skip ?_ ?_); (focus (simp [Region.wanted, yielded]; done)); simp only [Act.put, List.setIfInBounds_toArray, List.set_cons_succ, List.set_cons_zero])
              | ((with_reducible refine quiet_go ?_ (fun K hK => ?_)); (focus (simp [Region.wanted, yielded]; done)); (focus (apply quiet_val; (focus (intro w' hw; obtain ⟨hcq, hfq⟩ := bcell ((hC.out _).1 hw); go_simp; (first | done | rfl | (with_reducible exact call_below hC hw (HEr.out _ ((hC.out _).1 hw)))))); (simp only [Act.put, List.setIfInBounds_toArray, List.set_cons_succ, List.set_cons_zero]); (with_reducible refine hK _ ?_); clear hK K))))
            refine wpQuiet_nil ?_
            intro w1 hb1
            replace hb1 := (hC.out _).1 hb1
            clear hC C
            obtain ⟨hc1, hf1⟩ := bcell hb1
            clear hc1 hf1
            generalize w1 = wa at *
            have HbA := Lib.hid (show Below wr.heap.size wr wa from hb1)
            have hcl3 := (HbA.out.cell hbw).trans hcl2
            have y0 := (RA.out.past (pt (pt HQ1.out HQ2.out) hb1)).cellAt 0 rfl
            have y1 := (RA.out.past (pt (pt HQ1.out HQ2.out) hb1)).cellAt 1 rfl
            have y2 := (RA.out.past (pt (pt HQ1.out HQ2.out) hb1)).lt
            have y3 : b < wa.heap.size := Nat.lt_of_lt_of_le hbw hb1.size
            clear hb1 a0 a1 x0 hcl2
            go_wp2
            by_cases hc : T2 < nb
            · have HT2 := Lib.hid (show rbUpto ts (k + 1 - 1) = (LL.drop (j + 1)).foldl (rbStep ts) (l, nb) by rw [HT.out, HSt.out, if_neg (by rw [HE.out]; simp), if_pos hc])
              have hcd : decide (T2 < nb) = true := decide_eq_true hc
              clear HT HSt
              refine region_below 6 follows_mixed (by kernel_rfl) ?_
              intro C hC
              simp only [List.take_succ_cons, List.take_zero, List.drop_succ_cons, List.drop_zero]
              repeat (first
                | ((with_reducible refine quiet_plain rfl (fun K hK => ?_)); (focus (apply quiet_val; (focus (intro w' hw; obtain ⟨hcq, hfq⟩ := bcell ((hC.out _).1 hw); go_simp; (first | done | rfl | (with_reducible exact call_below hC hw (HBu2.out _ (pt HbA.out ((hC.out _).1 hw))))))); (simp only [Act.put, List.setIfInBounds_toArray, List.set_cons_succ, List.set_cons_zero]); (with_reducible refine hK _ ?_); clear hK K)))
                | ((with_reducible refine quiet_skip ?_ ?_); (focus (simp [Region.wanted, yielded]; done)); simp only [Act.put, List.setIfInBounds_toArray, List.set_cons_succ, List.set_cons_zero])
                | ((with_reducible refine quiet_go ?_ (fun K hK => ?_)); (focus (simp [Region.wanted, yielded]; done)); (focus (apply quiet_val; (focus (intro w' hw; obtain ⟨hcq, hfq⟩ := bcell ((hC.out _).1 hw); go_simp; (first | done | rfl | (with_reducible exact call_below hC hw (HBu2.out _ (pt HbA.out ((hC.out _).1 hw))))))); (simp only [Act.put, List.setIfInBounds_toArray, List.set_cons_succ, List.set_cons_zero]); (with_reducible refine hK _ ?_); clear hK K))))
              refine wpQuiet_nil ?_
              intro w1 hb1
              replace hb1 := (hC.out _).1 hb1
              clear hC C
              obtain ⟨hc1, hf1⟩ := bcell hb1
              have hcl4 := (hb1.cell y3).trans hcl3
              have z3 : b < w1.heap.size := Nat.lt_of_lt_of_le y3 hb1.size
              clear hc1 hf1
              go_wp2
              go_roundw
              case rel => exact ⟨j + 1, (l, nb), A4, c4, by go_num, by omega, rfl, rfl, HT2.out, (HIl.out.below (pt HbA.out hb1)).more (pt HbA.out hb1).size, pt HQ2.out (pt HbA.out hb1)⟩
              case measure => simp [intOf]; omega
            · have HT2 := Lib.hid (show rbUpto ts (k + 1 - 1) = (LL.drop (j + 1)).foldl (rbStep ts) (T1, T2) by rw [HT.out, HSt.out, if_neg (by rw [HE.out]; simp), if_neg hc])
              have hcd : decide (T2 < nb) = false := decide_eq_false hc
              clear HT HSt
              refine region_below 6 follows_mixed (by kernel_rfl) ?_
              intro C hC
              simp only [List.take_succ_cons, List.take_zero, List.drop_succ_cons, List.drop_zero]
              repeat (first
                | ((with_reducible refine quiet_plain rfl (fun K hK => ?_)); (focus (apply quiet_val; (focus (intro w' hw; obtain ⟨hcq, hfq⟩ := bcell ((hC.out _).1 hw); go_simp; (first | done | rfl | (with_reducible exact call_below hC hw (HBu2.out _ (pt HbA.out ((hC.out _).1 hw))))))); (simp only [Act.put, List.setIfInBounds_toArray, List.set_cons_succ, List.set_cons_zero]); (with_reducible refine hK _ ?_); clear hK K)))
                | ((with_reducible refine quiet_skip ?_ ?_); (focus (simp [Region.wanted, yielded]; done)); simp only [Act.put, List.setIfInBounds_toArray, List.set_cons_succ, List.set_cons_zero])
                | ((with_reducible refine quiet_go ?_ (fun K hK => ?_)); (focus (simp [Region.wanted, yielded]; done)); (focus (apply quiet_val; (focus (intro w' hw; obtain ⟨hcq, hfq⟩ := bcell ((hC.out _).1 hw); go_simp; (first | done | rfl | (with_reducible exact call_below hC hw (HBu2.out _ (pt HbA.out ((hC.out _).1 hw))))))); (simp only [Act.put, List.setIfInBounds_toArray, List.set_cons_succ, List.set_cons_zero]); (with_reducible refine hK _ ?_); clear hK K))))
              refine wpQuiet_nil ?_
              intro w1 hb1
              replace hb1 := (hC.out _).1 hb1
              clear hC C
              obtain ⟨hc1, hf1⟩ := bcell hb1
              clear hc1 hf1
              go_wp2
              go_roundw
              case rel => exact ⟨j + 1, (T1, T2), A3, c3, by go_num, by omega, rfl, rfl, HT2.out, (HI3.out.below (pt HbA.out hb1)).more (pt HbA.out hb1).size, pt HQ2.out (pt HbA.out hb1)⟩
              case measure => simp [intOf]; omega
          · have hE1 : (E != 0) = true := by simpa using hE
            have HT2 := Lib.hid (show rbUpto ts (k + 1 - 1) = (LL.drop (j + 1)).foldl (rbStep ts) (T1, T2) by rw [HT.out, HSt.out, if_pos hE])
            clear hE HT HSt
            go_wp2
            refine region_below 6 follows_mixed (by kernel_rfl) ?_
            intro C hC
            simp only [List.take_succ_cons, List.take_zero, List.drop_succ_cons, List.drop_zero]
            repeat (first
              | ((with_reducible refine quiet_plain rfl (fun K hK => ?_)); (focus (apply quiet_val; (focus (intro w' hw; obtain ⟨hcq, hfq⟩ := bcell ((hC.out _).1 hw); go_simp; (first | done | rfl | (with_reducible exact call_below hC hw (HEr.out _ ((hC.out _).1 hw)))))); (simp only [Act.put, List.setIfInBounds_toArray, List.set_cons_succ, List.set_cons_zero]); (with_reducible refine hK _ ?_); clear hK K)))
              | ((with_reducible refine quiet_skip ?_ ?_); (focus (simp [Region.wanted, yielded]; done)); simp only [Act.put, List.setIfInBounds_toArray, List.set_cons_succ, List.set_cons_zero])
              | ((with_reducible refine quiet_go ?_ (fun K hK => ?_)); (focus (simp [Region.wanted, yielded]; done)); (focus (apply quiet_val; (focus (intro w' hw; obtain ⟨hcq, hfq⟩ := bcell ((hC.out _).1 hw); go_simp; (first | done | rfl | (with_reducible exact call_below hC hw (HEr.out _ ((hC.out _).1 hw)))))); (simp only [Act.put, List.setIfInBounds_toArray, List.set_cons_succ, List.set_cons_zero]); (with_reducible refine hK _ ?_); clear hK K))))
            refine wpQuiet_nil ?_
            intro w1 hb1
            replace hb1 := (hC.out _).1 hb1
            clear hC C
            obtain ⟨hc1, hf1⟩ := bcell hb1
            clear hc1 hf1
            go_wp2
            go_roundw
            case rel => exact ⟨j + 1, (T1, T2), A3, c3, by go_num, by omega, rfl, rfl, HT2.out, (HI3.out.below hb1).more hb1.size, pt HQ2.out hb1⟩
            case measure => simp [intOf]; omega
        · have HT2 := Lib.hid (show rbUpto ts (k + 1 - 1) = (T1, T2) by rw [hT, List.drop_eq_nil_of_le (by omega)]; rfl)
          clear hT
          go_wp2
          go_roundw
          case rel => exact ⟨k + 1, A3, c3, by go_num, ⟨by omega, by omega⟩, by rw [HT2.out], by rw [HT2.out], by rw [HT2.out]; exact HI3.out, pt HQ1.out HQ2.out⟩
          case measure => simp [intOf]; omega
    · have hle : ¬ (k : Int) ≤ (ts.length : Int) := by omega
      have hk1 : k - 1 = ts.length := by omega
      rw [hk1] at HI2 ⊢
      clear hk1
      go_wp2
      go_ret2
      exact ⟨A2, ⟨c2, rfl⟩, HI2.out, HQ.out⟩

end Go.Proofs.Ytlgioldmjohhlaa
