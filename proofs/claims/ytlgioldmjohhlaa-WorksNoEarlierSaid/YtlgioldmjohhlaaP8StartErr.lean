/- Contract: the error of the start of a task. Valid plans, starts in range. -/
import Derived.Test.YtlgioldmjohhlaaP7Start
import Derived.Test.YtlgioldmjohhlaaM8
import Derived.Deep.QuietTactic
import Derived.BigQuiet
namespace Go.Proofs.Ytlgioldmjohhlaa
open Go.RowKit

set_option maxHeartbeats 4000000 in
set_option maxRecDepth 100000 in
theorem startErr_any (B : Nat) (ts : List Task) (ss : List Int) (A A2 : Option Addr) (c c2 : Nat) (m : Int) (i : Nat) (w : World) (hr : TasksIn B w A ts) (hr2 : IntsIn B w A2 ss) (hB : B ≤ w.heap.size) (hl : LenOk ts) (hp : PlanOk ts) (hso : StartsOk ts ss) (hi : i < ts.length) :
    Calls Try.prog 146 #[.agg #[.int .i64 m, .slice A ts.length c], .slice A2 ss.length c2, .int .i64 (i : Int)] w fun e w' => e = .returned (.int .i64 (startE ts ss i)) ∧ Below w.heap.size w w' := by
  obtain ⟨hsn, hsr⟩ := hso
  have h7 := hp.1
  obtain ⟨b, off, hA, hbB, hct⟩ := hr.at_ hi
  subst hA
  obtain ⟨b2, off2, hA2, hbB2, hc2⟩ := hr2.at_ (k := i) (by omega)
  subst hA2
  have HCt := Lib.hid hct
  have HC2 := Lib.hid hc2
  obtain ⟨t0w, _, t2w, A3, c3, t3w, tr, _⟩ := hct i hi
  have HE := Lib.hid (show firstV [unlessV (decide ((ts.getD i default).release ≤ ss.getD i 0)) 22, unlessV (!anyB (earlyB ts ss i) (afterOf ts i)) 9, unlessV (!anyBusy ts ss i i) 17] = startE ts ss i from rfl)
  have hw0 : w.heap.size + 1 + 1 + 1 = (((w.alloc (.cells #[.int .i64 m, .slice (some ⟨b, off, none⟩) ts.length c] 107)).alloc (.cells #[.slice (some ⟨b2, off2, none⟩) ss.length c2] 28)).alloc (.cells #[.int .i64 (i : Int)] 3)).heap.size := by simp
  have HBelow0 := Lib.hid (show Below w.heap.size w (((w.alloc (.cells #[.int .i64 m, .slice (some ⟨b, off, none⟩) ts.length c] 107)).alloc (.cells #[.slice (some ⟨b2, off2, none⟩) ss.length c2] 28)).alloc (.cells #[.int .i64 (i : Int)] 3)) from pa (pa (pa pr)))
  obtain ⟨W0, hW0⟩ : ∃ W0 : World, W0 = (((w.alloc (.cells #[.int .i64 m, .slice (some ⟨b, off, none⟩) ts.length c] 107)).alloc (.cells #[.slice (some ⟨b2, off2, none⟩) ss.length c2] 28)).alloc (.cells #[.int .i64 (i : Int)] 3)) := ⟨_, rfl⟩
  have p0 : Blk W0 w.heap.size 107 #[.int .i64 m, .slice (some ⟨b, off, none⟩) ts.length c] := by rw [hW0]; exact ((Blk.newAt rfl).alloc).alloc
  have p1 : Blk W0 (w.heap.size + 1) 28 #[.slice (some ⟨b2, off2, none⟩) ss.length c2] := by rw [hW0]; exact (Blk.newAt (by simp)).alloc
  have p2 : Blk W0 (w.heap.size + 1 + 1) 3 #[.int .i64 (i : Int)] := by rw [hW0]; exact Blk.newAt (by simp)
  rw [← hW0] at hw0 HBelow0
  have P0 := Lib.hid p0
  have P1 := Lib.hid p1
  have P2 := Lib.hid p2
  have hcf := containsFunc_start B A3 (afterOf ts i).length c3 (afterOf ts i) (earlyB ts ss i) (.pointer (some ⟨w.heap.size, 0, none⟩)) (.pointer (some ⟨w.heap.size + 1, 0, none⟩)) (.pointer (some ⟨w.heap.size + 1 + 1, 0, none⟩)) W0 ((show IntsIn B w A3 (afterOf ts i) from tr).below (HBelow0.out.mono hB)) (Nat.le_trans hB HBelow0.out.size) rfl (by have : (afterOf ts i).length ≤ 7 := (hp.2 i hi).1; omega)
    (fun j hj W hW => by
      have hx := after_in hp hi ((afterOf ts i).getD j 0) (getD_mem hj)
      obtain ⟨n, hn⟩ : ∃ n : Nat, (afterOf ts i).getD j 0 = (n : Int) := ⟨((afterOf ts i).getD j 0).toNat, by omega⟩
      rw [hn]
      exact startErr1_any B w.heap.size (w.heap.size + 1) (w.heap.size + 1 + 1) ts ss _ _ c c2 m i n W (hr.below ((HBelow0.out.trans (hW.mono HBelow0.out.size)).mono hB)) (hr2.below ((HBelow0.out.trans (hW.mono HBelow0.out.size)).mono hB)) (Nat.le_trans hB (HBelow0.out.trans (hW.mono HBelow0.out.size)).size) hl ⟨hsn, hsr⟩ hi (by omega) ((p0.past hW).cellAt 0 rfl) ((p0.past hW).cellAt 1 rfl) ((p1.past hW).cellAt 0 rfl) ((p2.past hW).cellAt 0 rfl) (p0.past hW).lt (p1.past hW).lt (p2.past hW).lt)
  have HCF := Lib.hid hcf
  have n0 : (0 : Int) ≤ (i : Int) := by omega
  have n1 : (i : Int) < (ts.length : Int) := by omega
  have n2 : (i : Int) < (ss.length : Int) := by omega
  have n2nat : i < ss.length := by omega
  have t3 : w.cell? ⟨b, off + i * 4 + 3, none⟩ = some (.slice A3 (afterOf ts i).length c3) := t3w
  have hbw : b < w.heap.size := by omega
  have hbw2 : b2 < w.heap.size := by omega
  have hbx1 : b < w.heap.size + 1 := by omega
  have hbx2 : b < w.heap.size + 1 + 1 := by omega
  have HEnd := Lib.hid fun (q : Nat) (hq : q < ts.length) W (hW : Below w.heap.size w W) => end_any B ts (some ⟨b, off, none⟩) c m q (ss.getD q 0) W (hr.below (hW.mono hB)) (Nat.le_trans hB hW.size) hq (by
    have h1 := hsr q (by omega)
    have h2 := hl q hq
    exact IntWalk.i64_in _ (by omega))
  have HW0 := Lib.hid hW0
  have HSN := Lib.hid hsn
  have hu := And.intro hw0 hl
  clear hcf hr hr2 hc2 hct t0w t2w t3w tr p0 p1 p2 hw0 hW0 hsn hsr hu
  go_enter Try.func146, Try.ntmps146
  go_wp2_with (go_at_call 123; go_loud (rw [← HW0.out]; (refine HCF.out.mono ?_); rintro e w1 ⟨rfl, hb1⟩; have HB1 := Lib.hid hb1; clear hb1; have y0 : w1.cell? ⟨w.heap.size + 1 + 1, 0, none⟩ = some (.int .i64 (i : Int)) := (P2.out.past HB1.out).cellAt 0 rfl; have y1 := (P2.out.past HB1.out).lt))
  clear hbx1 hbx2
  have HFa := Lib.hid (show ∀ W, Below w1.heap.size w1 W → W.cell? ⟨w.heap.size, 0, none⟩ = some (.int .i64 m) ∧ W.cell? ⟨w.heap.size, 1, none⟩ = some (.slice (some ⟨b, off, none⟩) ts.length c) ∧ W.cell? ⟨w.heap.size + 1, 0, none⟩ = some (.slice (some ⟨b2, off2, none⟩) ss.length c2) ∧ W.cell? ⟨w.heap.size + 1 + 1, 0, none⟩ = some (.int .i64 (i : Int)) ∧ w.heap.size < W.heap.size ∧ w.heap.size + 1 < W.heap.size ∧ w.heap.size + 1 + 1 < W.heap.size ∧ Below w.heap.size w W ∧ b < W.heap.size ∧ b2 < W.heap.size from fun W hW => by
    have q0 := (P0.out.past HB1.out).past hW
    have q1 := (P1.out.past HB1.out).past hW
    have q2 := (P2.out.past HB1.out).past hW
    have hb : Below w.heap.size w W := pt (pt HBelow0.out HB1.out) hW
    have hsz := hb.size
    exact ⟨q0.cellAt 0 rfl, q0.cellAt 1 rfl, q1.cellAt 0 rfl, q2.cellAt 0 rfl, q0.lt, q1.lt, q2.lt, hb, by omega, by omega⟩)
  clear t3 y0 y1
  go_loopw [8, 21] (fun sv kv wr => ∃ k : Nat, sv = .bool (anyBusy ts ss i k) ∧ kv = .int .i64 (k : Int) ∧ k ≤ i ∧ Below w1.heap.size w1 wr) (fun _ kv _ => i - (intOf kv).toNat)
  case atStart => exact ⟨0, rfl, rfl, Nat.zero_le _, pr⟩
  case round =>
    obtain ⟨k, rfl, rfl, hk, hq⟩ := hrel
    obtain ⟨u0, u1, u2, u3, z0, z1, z2, hbW, z3, z4⟩ := HFa.out wr hq
    have HQ := Lib.hid hq
    have HBW := Lib.hid hbW
    clear hq hbW
    by_cases hlt : k < i
    · have hkt : k < ts.length := by omega
      have hks : k < ss.length := by omega
      obtain ⟨mkw, _, _, _, _, _, _, _⟩ := HCt.out k hkt
      obtain ⟨miw, _, _, _, _, _, _, _⟩ := HCt.out i hi
      have skw := HC2.out k hks
      have siw := HC2.out i n2nat
      have HEi := Lib.hid (show ∀ W, Below w.heap.size w W → Calls Try.prog 131 #[.agg #[.int .i64 m, .slice (some ⟨b, off, none⟩) ts.length c], .int .i64 (i : Int), .int .i64 (ss.getD i 0)] W fun e w' => e = .returned (.int .i64 (endAt ts ss i)) ∧ Below W.heap.size W w' from fun W hW => HEnd.out i hi W hW)
      have HEk := Lib.hid (show ∀ W, Below w.heap.size w W → Calls Try.prog 131 #[.agg #[.int .i64 m, .slice (some ⟨b, off, none⟩) ts.length c], .int .i64 (k : Int), .int .i64 (ss.getD k 0)] W fun e w' => e = .returned (.int .i64 (endAt ts ss k)) ∧ Below W.heap.size W w' from fun W hW => HEnd.out k hkt W hW)
      have HSt := Lib.hid (anyBusy_succ ts ss i k)
      have HBy := Lib.hid (show busyB ts ss i k = (decide ((ts.getD k default).machine = (ts.getD i default).machine) && (decide (ss.getD k 0 < endAt ts ss i) && decide (ss.getD i 0 < endAt ts ss k))) from rfl)
      have k0 : (0 : Int) ≤ (k : Int) := by omega
      have k1 : (k : Int) < (ts.length : Int) := by omega
      have k2 : (k : Int) < (ss.length : Int) := by omega
      generalize (ts.getD k default).machine = mk at *
      generalize (ts.getD i default).machine = mi at *
      generalize ss.getD k 0 = sk at *
      generalize ss.getD i 0 = si at *
      generalize endAt ts ss k = ek at *
      generalize endAt ts ss i = ei at *
      have HFb := Lib.hid (show ∀ W, Below w1.heap.size w1 W → W.cell? ⟨b, off + k * 4, none⟩ = some (.int .i64 mk) ∧ W.cell? ⟨b, off + i * 4, none⟩ = some (.int .i64 mi) ∧ W.cell? ⟨b2, off2 + k, none⟩ = some (.int .i64 sk) ∧ W.cell? ⟨b2, off2 + i, none⟩ = some (.int .i64 si) from fun W hW => by
        obtain ⟨_, _, _, _, _, _, _, hbW, _, _⟩ := HFa.out W hW
        exact ⟨((bcell (hbW.mono hB)).1 _ _ hbB).trans mkw, ((bcell (hbW.mono hB)).1 _ _ hbB).trans miw, ((bcell (hbW.mono hB)).1 _ _ hbB2).trans skw, ((bcell (hbW.mono hB)).1 _ _ hbB2).trans siw⟩)
      clear mkw miw skw siw HBW
      obtain ⟨v0, v1, v2, v3⟩ := HFb.out wr HQ.out
      have hcase : (anyBusy ts ss i k = true ∧ anyBusy ts ss i (k + 1) = true) ∨ (anyBusy ts ss i k = false ∧ anyBusy ts ss i (k + 1) = busyB ts ss i k) := by
        cases hb : anyBusy ts ss i k with
        | true => exact .inl ⟨rfl, by rw [HSt.out, hb]; rfl⟩
        | false => exact .inr ⟨rfl, by rw [HSt.out, hb]; rfl⟩
      clear HSt
      generalize anyBusy ts ss i k = bk at *
      rcases hcase with ⟨rfl, hs⟩ | ⟨rfl, hs⟩
      · have HS := Lib.hid hs
        clear hs
        go_wp2
        go_quiet (fail)
        have HQ2 := Lib.hid (show Below w1.heap.size w1 (wr.drewN nq) from below_drewN' HQ.out nq); clear u0 u1 u2 u3 z0 z1 z2 z3 z4 v0 v1 v2 v3; generalize wr.drewN nq = wr at *; obtain ⟨u0, u1, u2, u3, z0, z1, z2, hbW, z3, z4⟩ := HFa.out wr HQ2.out; have HBW := Lib.hid hbW; clear hbW; obtain ⟨v0, v1, v2, v3⟩ := HFb.out wr HQ2.out
        go_wp2
        go_quiet (fail)
        have HQ3 := Lib.hid (show Below w1.heap.size w1 (wr.drewN nq) from below_drewN' HQ2.out nq)
        go_wp2
        go_roundw
        case rel => exact ⟨k + 1, by rw [HS.out], by go_num, by omega, HQ3.out⟩
        case measure => simp [intOf]; omega
      · by_cases hmm : mk = mi
        · subst hmm
          by_cases h1 : sk < ei
          · have HS := Lib.hid (show anyBusy ts ss i (k + 1) = decide (si < ek) by rw [hs, HBy.out, decide_eq_true h1]; simp)
            have hd1 : decide (sk < ei) = true := decide_eq_true h1
            clear hs
            go_wp2
            go_quiet (fail)
            have HQ2 := Lib.hid (show Below w1.heap.size w1 (wr.drewN nq) from below_drewN' HQ.out nq); clear u0 u1 u2 u3 z0 z1 z2 z3 z4 v0 v1 v2 v3; generalize wr.drewN nq = wr at *; obtain ⟨u0, u1, u2, u3, z0, z1, z2, hbW, z3, z4⟩ := HFa.out wr HQ2.out; have HBW := Lib.hid hbW; clear hbW; obtain ⟨v0, v1, v2, v3⟩ := HFb.out wr HQ2.out
            go_wp2
            refine region_below 31 follows_mixed (by kernel_rfl) ?_
            intro C hC
            simp only [List.take_succ_cons, List.take_zero, List.drop_succ_cons, List.drop_zero]
            repeat (first
              | ((with_reducible refine quiet_plain rfl (fun K hK => ?_)); (focus (apply quiet_val; (focus (intro w' hw; obtain ⟨hcq, hfq⟩ := bcell ((hC.out _).1 hw); go_simp; (first | done | rfl | (with_reducible exact call_below hC hw (HEi.out _ (pt HBW.out ((hC.out _).1 hw)))) | (with_reducible exact call_below hC hw (HEk.out _ (pt HBW.out ((hC.out _).1 hw))))))); (simp only [Act.put, List.setIfInBounds_toArray, List.set_cons_succ, List.set_cons_zero]); (with_reducible refine hK _ ?_); clear hK K)))
              | ((with_reducible refine quiet_skip ?_ ?_); (focus (simp [Region.wanted, yielded]; done)); simp only [Act.put, List.setIfInBounds_toArray, List.set_cons_succ, List.set_cons_zero])
              | ((with_reducible refine quiet_go ?_ (fun K hK => ?_)); (focus (simp [Region.wanted, yielded]; done)); (focus (apply quiet_val; (focus (intro w' hw; obtain ⟨hcq, hfq⟩ := bcell ((hC.out _).1 hw); go_simp; (first | done | rfl | (with_reducible exact call_below hC hw (HEi.out _ (pt HBW.out ((hC.out _).1 hw)))) | (with_reducible exact call_below hC hw (HEk.out _ (pt HBW.out ((hC.out _).1 hw))))))); (simp only [Act.put, List.setIfInBounds_toArray, List.set_cons_succ, List.set_cons_zero]); (with_reducible refine hK _ ?_); clear hK K))))
            refine wpQuiet_nil ?_
            intro w1 hb1
            replace hb1 := (hC.out _).1 hb1
            clear hC C
            obtain ⟨hc1, hf1⟩ := bcell hb1
            clear hc1 hf1
            go_wp2
            go_roundw
            case rel => exact ⟨k + 1, by rw [HS.out], by go_num, by omega, pt HQ2.out hb1⟩
            case measure => simp [intOf]; omega
          · have HS := Lib.hid (show anyBusy ts ss i (k + 1) = false by rw [hs, HBy.out, decide_eq_false h1]; simp)
            have hd1 : decide (sk < ei) = false := decide_eq_false h1
            clear hs
            go_wp2
            go_quiet (fail)
            have HQ2 := Lib.hid (show Below w1.heap.size w1 (wr.drewN nq) from below_drewN' HQ.out nq); clear u0 u1 u2 u3 z0 z1 z2 z3 z4 v0 v1 v2 v3; generalize wr.drewN nq = wr at *; obtain ⟨u0, u1, u2, u3, z0, z1, z2, hbW, z3, z4⟩ := HFa.out wr HQ2.out; have HBW := Lib.hid hbW; clear hbW; obtain ⟨v0, v1, v2, v3⟩ := HFb.out wr HQ2.out
            go_wp2
            refine region_below 31 follows_mixed (by kernel_rfl) ?_
            intro C hC
            simp only [List.take_succ_cons, List.take_zero, List.drop_succ_cons, List.drop_zero]
            repeat (first
              | ((with_reducible refine quiet_plain rfl (fun K hK => ?_)); (focus (apply quiet_val; (focus (intro w' hw; obtain ⟨hcq, hfq⟩ := bcell ((hC.out _).1 hw); go_simp; (first | done | rfl | (with_reducible exact call_below hC hw (HEi.out _ (pt HBW.out ((hC.out _).1 hw))))))); (simp only [Act.put, List.setIfInBounds_toArray, List.set_cons_succ, List.set_cons_zero]); (with_reducible refine hK _ ?_); clear hK K)))
              | ((with_reducible refine quiet_skip ?_ ?_); (focus (simp [Region.wanted, yielded]; done)); simp only [Act.put, List.setIfInBounds_toArray, List.set_cons_succ, List.set_cons_zero])
              | ((with_reducible refine quiet_go ?_ (fun K hK => ?_)); (focus (simp [Region.wanted, yielded]; done)); (focus (apply quiet_val; (focus (intro w' hw; obtain ⟨hcq, hfq⟩ := bcell ((hC.out _).1 hw); go_simp; (first | done | rfl | (with_reducible exact call_below hC hw (HEi.out _ (pt HBW.out ((hC.out _).1 hw))))))); (simp only [Act.put, List.setIfInBounds_toArray, List.set_cons_succ, List.set_cons_zero]); (with_reducible refine hK _ ?_); clear hK K))))
            refine wpQuiet_nil ?_
            intro w1 hb1
            replace hb1 := (hC.out _).1 hb1
            clear hC C
            obtain ⟨hc1, hf1⟩ := bcell hb1
            clear hc1 hf1
            go_wp2
            go_roundw
            case rel => exact ⟨k + 1, by rw [HS.out], by go_num, by omega, pt HQ2.out hb1⟩
            case measure => simp [intOf]; omega
        · have HS := Lib.hid (show anyBusy ts ss i (k + 1) = false by rw [hs, HBy.out, decide_eq_false hmm]; simp)
          have hmb : (mk == mi) = false := by simpa using hmm
          clear hs
          go_wp2
          go_quiet (fail)
          have HQ2 := Lib.hid (show Below w1.heap.size w1 (wr.drewN nq) from below_drewN' HQ.out nq); clear u0 u1 u2 u3 z0 z1 z2 z3 z4 v0 v1 v2 v3; generalize wr.drewN nq = wr at *; obtain ⟨u0, u1, u2, u3, z0, z1, z2, hbW, z3, z4⟩ := HFa.out wr HQ2.out; have HBW := Lib.hid hbW; clear hbW; obtain ⟨v0, v1, v2, v3⟩ := HFb.out wr HQ2.out
          go_wp2
          go_quiet (fail)
          have HQ3 := Lib.hid (show Below w1.heap.size w1 (wr.drewN nq) from below_drewN' HQ2.out nq)
          go_wp2
          go_roundw
          case rel => exact ⟨k + 1, by rw [HS.out], by go_num, by omega, HQ3.out⟩
          case measure => simp [intOf]; omega
    · obtain rfl : k = i := by omega
      obtain ⟨t0w, _, t2w, _, _, _, _, _⟩ := HCt.out k hi
      have t2 := ((bcell (HBW.out.mono hB)).1 _ _ hbB).trans t2w
      have d1 := ((bcell (HBW.out.mono hB)).1 _ _ hbB2).trans (HC2.out k n2nat)
      clear t0w t2w
      generalize hba : anyBusy ts ss k k = BA at *
      generalize heb : anyB (earlyB ts ss k) (afterOf ts k) = EA at *
      generalize hre : (ts.getD k default).release = rel at *
      generalize hst : ss.getD k 0 = st at *
      go_wp2
      refine region_below 19 follows_mixed (by kernel_rfl) ?_
      intro C hC
      simp only [List.take_succ_cons, List.take_zero, List.drop_succ_cons, List.drop_zero]
      repeat (first
        | ((with_reducible refine quiet_plain rfl (fun K hK => ?_)); (focus (apply quiet_val; (focus (intro w' hw; obtain ⟨hcq, hfq⟩ := bcell ((hC.out _).1 hw); go_simp; (first | done | rfl | (with_reducible exact call_same hw (unless_any _ _ _))))); (simp only [Act.put, List.setIfInBounds_toArray, List.set_cons_succ, List.set_cons_zero]); (with_reducible refine hK _ ?_); clear hK K)))
        | ((with_reducible refine quiet_skip ?_ ?_); (focus (simp [Region.wanted, yielded]; done)); simp only [Act.put, List.setIfInBounds_toArray, List.set_cons_succ, List.set_cons_zero])
        | ((with_reducible refine quiet_go ?_ (fun K hK => ?_)); (focus (simp [Region.wanted, yielded]; done)); (focus (apply quiet_val; (focus (intro w' hw; obtain ⟨hcq, hfq⟩ := bcell ((hC.out _).1 hw); go_simp; (first | done | rfl | (with_reducible exact call_same hw (unless_any _ _ _))))); (simp only [Act.put, List.setIfInBounds_toArray, List.set_cons_succ, List.set_cons_zero]); (with_reducible refine hK _ ?_); clear hK K))))
      refine wpQuiet_nil ?_
      intro w1 hb1
      replace hb1 := (hC.out _).1 hb1
      clear hC C
      obtain ⟨hc1, hf1⟩ := bcell hb1
      clear hc1 hf1
      go_wp2_with (go_at_call 86; go_must (refine (first3' _ _ _ _ _ _ (by first | (go_simp; done) | (go_simp; rfl)) (by first | (go_simp; done) | (go_simp; rfl)) (by first | (go_simp; done) | (go_simp; rfl)) _ HE.out).mono ?_); rintro e w' ⟨rfl, rfl⟩)
      go_ret
      exact ⟨rfl, pa (pt HBW.out hb1)⟩

end Go.Proofs.Ytlgioldmjohhlaa
