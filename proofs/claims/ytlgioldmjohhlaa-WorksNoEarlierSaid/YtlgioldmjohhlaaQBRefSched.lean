/- Contracts: the specification's EndOf, CheckSchedule and ScheduleErr, over the same values as the program's. Valid plans. -/
import Derived.Test.YtlgioldmjohhlaaQACheck
import Derived.Test.YtlgioldmjohhlaaP3Few
import Derived.Test.YtlgioldmjohhlaaP6CheckPlan
namespace Go.Proofs.Ytlgioldmjohhlaa
open Go.RowKit

theorem mx_max (a b : Int) : max a b = mx a b := by
  unfold mx
  split <;> omega

set_option maxHeartbeats 2000000 in
set_option maxRecDepth 100000 in
theorem refEndOf_any (B : Nat) (ts : List Task) (ss : List Int) (A A2 : Option Addr) (c c2 : Nat) (m : Int) (w : World) (hr : TasksIn B w A ts) (hr2 : IntsIn B w A2 ss) (hB : B ≤ w.heap.size) (hl : LenOk ts) (h7 : ts.length ≤ 7) (hso : StartsOk ts ss) :
    Calls Try.prog 22 #[.agg #[.int .i64 m, .slice A ts.length c], .slice A2 ss.length c2] w fun e w' => e = .returned (.int .i64 (lastV ts ss)) ∧ Below w.heap.size w w' := by
  have HR := Lib.hid hr
  have HR2 := Lib.hid hr2
  have HV := Lib.hid (show lastV ts ss = lastR ts ss ss.length 0 0 from rfl)
  obtain ⟨hsn, hsr⟩ := hso
  have HSN := Lib.hid hsn
  have HSR := Lib.hid hsr
  have HL := Lib.hid hl
  have h7s : ss.length ≤ 7 := by omega
  clear hr hr2 hsn hsr hl
  go_enter Try.func22, Try.ntmps22
  go_wp2
  go_loopw [5, 6] (fun ov ix wr => ∃ (o : Int) (i : Nat), ov = .int .i64 o ∧ ix = .int .i64 (i : Int) ∧ i ≤ ss.length ∧ lastR ts ss (ss.length - i) i o = lastV ts ss ∧ Blk wr w.heap.size 24 #[.int .i64 m, .slice A ts.length c] ∧ Below w.heap.size w wr) (fun _ ix _ => ss.length - (intOf ix).toNat)
  case atStart => exact ⟨0, 0, rfl, rfl, Nat.zero_le _, HV.out.symm, Blk.newAt rfl, pa pr⟩
  case round =>
    obtain ⟨o, i, rfl, rfl, hi, hrun, q0, hq⟩ := hrel
    have HRun := Lib.hid hrun
    have e1 : wr.cell? ⟨w.heap.size, 1, none⟩ = some (.slice A ts.length c) := q0.cellAt 1 rfl
    have x0 := q0.lt
    have Q0 := Lib.hid q0
    have HQ := Lib.hid hq
    clear hrun q0 hq
    by_cases hlt : i < ss.length
    · have hit : i < ts.length := by have := HSN.out; omega
      obtain ⟨b, off, hA, hbB, hct⟩ := HR.out.at_ hit
      subst hA
      obtain ⟨b2, off2, hA2, hbB2, hc2⟩ := HR2.out.at_ hlt
      subst hA2
      have t1 := ((bcell (HQ.out.mono hB)).1 _ _ hbB).trans (hct i hit).2.1
      have d1 := ((bcell (HQ.out.mono hB)).1 _ _ hbB2).trans (hc2 i hlt)
      have hbi := HSR.out i hlt
      have hli := HL.out i hit
      have hw : IntKind.i64.wrap (ss.getD i 0 + (ts.getD i default).length) = ss.getD i 0 + (ts.getD i default).length := IntWalk.i64_in _ (by omega)
      have HStep := Lib.hid (show lastR ts ss (ss.length - (i + 1)) (i + 1) (mx o (ss.getD i 0 + (ts.getD i default).length)) = lastV ts ss by
        rw [← HRun.out, show ss.length - i = ss.length - (i + 1) + 1 by omega]
        rfl)
      have hbw : b < wr.heap.size := by have := HQ.out.size; omega
      have hbw2 : b2 < wr.heap.size := by have := HQ.out.size; omega
      have i0 : (0 : Int) ≤ (i : Int) := by omega
      have i1 : (i : Int) < (ss.length : Int) := by omega
      have i2 : (i : Int) < (ts.length : Int) := by omega
      clear hct hc2 hbi hli
      generalize ss.getD i 0 = s at *
      generalize (ts.getD i default).length = len at *
      go_wp2
      refine region_below 12 follows_mixed (by kernel_rfl) ?_
      intro C hC
      simp only [List.take_succ_cons, List.take_zero, List.drop_succ_cons, List.drop_zero]
      repeat (first
        | ((with_reducible refine quiet_plain rfl (fun K hK => ?_)); (focus (apply quiet_val; (focus (intro w' hw; obtain ⟨hcq, hfq⟩ := bcell ((hC.out _).1 hw); go_simp; (first | done | rfl))); (simp only [Act.put, List.setIfInBounds_toArray, List.set_cons_succ, List.set_cons_zero]); (with_reducible refine hK _ ?_); clear hK K)))
        | ((with_reducible refine quiet_skip ?_ ?_); (focus (simp [Region.wanted, yielded]; done)); simp only [Act.put, List.setIfInBounds_toArray, List.set_cons_succ, List.set_cons_zero])
        | ((with_reducible refine quiet_go ?_ (fun K hK => ?_)); (focus (simp [Region.wanted, yielded]; done)); (focus (apply quiet_val; (focus (intro w' hw; obtain ⟨hcq, hfq⟩ := bcell ((hC.out _).1 hw); go_simp; (first | done | rfl))); (simp only [Act.put, List.setIfInBounds_toArray, List.set_cons_succ, List.set_cons_zero]); (with_reducible refine hK _ ?_); clear hK K))))
      refine wpQuiet_nil ?_
      intro w1 hb1
      replace hb1 := (hC.out _).1 hb1
      clear hC C
      obtain ⟨hc1, hf1⟩ := bcell hb1
      clear hc1 hf1
      go_wp2
      go_roundw
      case rel => exact ⟨mx o (s + len), i + 1, by rw [mx_max], by go_num, by omega, HStep.out, Q0.out.past hb1, pt HQ.out hb1⟩
      case measure => simp [intOf]; omega
    · have HRes := Lib.hid (show lastV ts ss = o by rw [← HRun.out, show ss.length - i = 0 by omega]; rfl)
      clear HRun HV
      go_wp2
      go_ret
      exact ⟨ret_int HRes.out.symm, HQ.out⟩

end Go.Proofs.Ytlgioldmjohhlaa
