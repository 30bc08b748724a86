/- Contracts: the specification's ScheduleErr; the program's CheckSchedule and EndOf: over openV, schedV, lastV. -/
import Derived.Test.YtlgioldmjohhlaaQCRefCheck
import Derived.Test.YtlgioldmjohhlaaP6CheckPlan
import Derived.Test.YtlgioldmjohhlaaM6
namespace Go.Proofs.Ytlgioldmjohhlaa
open Go.RowKit

/-- What CheckSchedule says of a plan and starts. -/
def planSchedV (m : Int) (ts : List Task) (ss : List Int) : Nat × Int := if (openV m ts).2 = 0 then schedV ts ss else (0, (openV m ts).2)

theorem starts_ok {ts : List Task} {ss : List Int} (h : (schedV ts ss).2 = 0) : StartsOk ts ss := by
  unfold schedV at h
  by_cases hn : ss.length = ts.length
  · rw [if_neg (by simpa using hn)] at h
    by_cases h2 : (scan (rngE ss) ss.length 0).2 = 0
    · exact ⟨hn, rng_ok h2⟩
    · rw [if_pos h2] at h
      exact absurd h h2
  · rw [if_pos hn] at h
    exact absurd h (by decide)

theorem refScheduleErr_any (B : Nat) (ts : List Task) (ss : List Int) (A A2 : Option Addr) (c c2 : Nat) (m : Int) (w : World) (hr : TasksIn B w A ts) (hr2 : IntsIn B w A2 ss) (hB : B ≤ w.heap.size) (hl : LenOk ts) (hp : PlanOk ts) :
    Calls Try.prog 21 #[.agg #[.int .i64 m, .slice A ts.length c], .slice A2 ss.length c2] w fun e w' => e = .returned (.int .i64 (schedV ts ss).2) ∧ Below w.heap.size w w' := by
  have HC := Lib.hid (refSched_any B ts ss A A2 c c2 m (w.alloc (.cells #[.int .i64 m, .slice A ts.length c] 24)) (hr.below ((pa pr).mono hB)) (hr2.below ((pa pr).mono hB)) (Nat.le_trans hB (by simp)) hl hp)
  clear hr hr2 hl hp
  generalize (schedV ts ss).1 = I at *
  generalize (schedV ts ss).2 = E at *
  go_enter Try.func21, Try.ntmps21
  go_wp2_with (go_at_call 69; go_must (refine HC.out.mono ?_); rintro e w1 ⟨rfl, hb1⟩)
  go_ret
  exact ⟨rfl, pt (pa pr) hb1⟩

set_option maxHeartbeats 2000000 in
theorem worksSched_any (B : Nat) (ts : List Task) (ss : List Int) (A A2 : Option Addr) (c c2 : Nat) (m : Int) (w : World) (hr : TasksIn B w A ts) (hr2 : IntsIn B w A2 ss) (hB : B ≤ w.heap.size) (hs : SmallPlan ts) (hm : ss.length ≤ 1000) :
    Calls Try.prog 67 #[.agg #[.int .i64 m, .slice A ts.length c], .slice A2 ss.length c2] w fun e w' => e = .returned (.tuple #[.int .i64 ((planSchedV m ts ss).1 : Int), .int .i64 (planSchedV m ts ss).2]) ∧ Below w.heap.size w w' := by
  have HV := Lib.hid (show planSchedV m ts ss = if (openV m ts).2 = 0 then schedV ts ss else (0, (openV m ts).2) from rfl)
  generalize planSchedV m ts ss = V at *
  have HO := Lib.hid (opened_any B ts A c m (w.alloc (.cells #[.int .i64 m, .slice A ts.length c] 24)) (hr.below ((pa pr).mono hB)) (Nat.le_trans hB (by simp)) hs)
  by_cases h0 : (openV m ts).2 = 0
  · obtain ⟨ha, hl, _⟩ := open_ok h0
    have HC := Lib.hid fun W (hW : Below w.heap.size w W) => sched_any B ts ss A A2 c c2 m W (hr.below (hW.mono hB)) (hr2.below (hW.mono hB)) (Nat.le_trans hB hW.size) hl ha.1 hm
    have HV1 := Lib.hid (show V = schedV ts ss by rw [HV.out, if_pos h0])
    clear hr hr2 hs ha hl HV
    rw [h0] at HO
    generalize (schedV ts ss) = S at *
    go_enter Try.func67, Try.ntmps67
    go_wp2_with (first
      | (go_at_call 80; go_must (refine HO.out.mono ?_); rintro e w1 ⟨rfl, hb1⟩)
      | (go_at_call 119; go_must (refine (HC.out _ (pa (pt (pa pr) hb1))).mono ?_); rintro e w2 ⟨rfl, hb2⟩))
    go_ret2
    exact ⟨ret_ii (by rw [HV1.out]) (by rw [HV1.out]), pt (pa (pt (pa pr) hb1)) hb2⟩
  · have HV1 := Lib.hid (show V = (0, (openV m ts).2) by rw [HV.out, if_neg h0])
    clear hr hr2 hs HV
    generalize (openV m ts).2 = E at *
    have h1 : (E != 0) = true := by simpa using h0
    go_enter Try.func67, Try.ntmps67
    go_wp2_with (go_at_call 80; go_must (refine HO.out.mono ?_); rintro e w1 ⟨rfl, hb1⟩)
    go_ret2
    exact ⟨ret_ii (by rw [HV1.out]; rfl) (by rw [HV1.out]), pa (pt (pa pr) hb1)⟩

/-- What EndOf says of a plan and starts. -/
def planEndV (m : Int) (ts : List Task) (ss : List Int) : Int := if (planSchedV m ts ss).2 = 0 then lastV ts ss else 0

set_option maxHeartbeats 2000000 in
theorem worksEnd_any (B : Nat) (ts : List Task) (ss : List Int) (A A2 : Option Addr) (c c2 : Nat) (m : Int) (w : World) (hr : TasksIn B w A ts) (hr2 : IntsIn B w A2 ss) (hB : B ≤ w.heap.size) (hs : SmallPlan ts) (hm : ss.length ≤ 1000) :
    Calls Try.prog 68 #[.agg #[.int .i64 m, .slice A ts.length c], .slice A2 ss.length c2] w fun e w' => e = .returned (.tuple #[.int .i64 (planEndV m ts ss), .int .i64 (planSchedV m ts ss).2]) ∧ Below w.heap.size w w' := by
  have HV := Lib.hid (show planSchedV m ts ss = if (openV m ts).2 = 0 then schedV ts ss else (0, (openV m ts).2) from rfl)
  have HE := Lib.hid (show planEndV m ts ss = if (planSchedV m ts ss).2 = 0 then lastV ts ss else 0 from rfl)
  generalize planEndV m ts ss = U at *
  generalize planSchedV m ts ss = V at *
  have HO := Lib.hid (opened_any B ts A c m (w.alloc (.cells #[.int .i64 m, .slice A ts.length c] 24)) (hr.below ((pa pr).mono hB)) (Nat.le_trans hB (by simp)) hs)
  by_cases h0 : (openV m ts).2 = 0
  · obtain ⟨ha, hl, _⟩ := open_ok h0
    have HC := Lib.hid fun W (hW : Below w.heap.size w W) => sched_any B ts ss A A2 c c2 m W (hr.below (hW.mono hB)) (hr2.below (hW.mono hB)) (Nat.le_trans hB hW.size) hl ha.1 hm
    have HV1 := Lib.hid (show V = schedV ts ss by rw [HV.out, if_pos h0])
    clear HV
    rw [h0] at HO
    by_cases h1 : (schedV ts ss).2 = 0
    · have hso := starts_ok h1
      have hb : ∀ j, 0 ≤ ss.getD j 0 ∧ ss.getD j 0 ≤ 1000000000000 := fun j => by
        by_cases hj : j < ss.length
        · have := hso.2 j hj; omega
        · rw [List.getD_eq_getElem?_getD, List.getElem?_eq_none (by omega)]; decide
      have HLa := Lib.hid fun W (hW : Below w.heap.size w W) => last_any B B ts ss A A2 c c2 m W (hr.below (hW.mono hB)) (Nat.le_trans hB hW.size) (hr2.below (hW.mono hB)) (Nat.le_trans hB hW.size) hl (by rw [hso.1]; exact Nat.le_refl _) ha.1.1 hb
      have HU := Lib.hid (show U = lastV ts ss by rw [HE.out, HV1.out, if_pos h1])
      have HV2 := Lib.hid (show V.2 = 0 by rw [HV1.out, h1])
      rw [h1] at HC
      clear hr hr2 hs ha hl HE HV1 hso hb
      generalize (schedV ts ss).1 = S at *
      generalize lastV ts ss = L at *
      go_enter Try.func68, Try.ntmps68
      go_wp2_with (first
        | (go_at_call 80; go_must (refine HO.out.mono ?_); rintro e w1 ⟨rfl, hb1⟩)
        | (go_at_call 119; go_must (refine (HC.out _ (pa (pt (pa pr) hb1))).mono ?_); rintro e w2 ⟨rfl, hb2⟩; have r1 := (Blk.newAt (w := w1) (t := 107) (cs := #[.int .i64 m, .slice A ts.length c]) (n := w1.heap.size) rfl).past hb2; have e0 := r1.cellAt 0 rfl; have e1 := r1.cellAt 1 rfl; have x1 := r1.lt)
        | (go_at_call 120; go_must (refine (HLa.out _ (pt (pa (pt (pa pr) hb1)) hb2)).mono ?_); rintro e w3 ⟨rfl, hb3⟩))
      go_ret2
      exact ⟨ret_ii (by rw [HU.out]) (by rw [HV2.out]), pt (pt (pa (pt (pa pr) hb1)) hb2) hb3⟩
    · have HU := Lib.hid (show U = 0 by rw [HE.out, HV1.out, if_neg h1])
      have HV2 := Lib.hid (show V.2 = (schedV ts ss).2 by rw [HV1.out])
      clear hr hr2 hs ha hl HE HV1
      generalize (schedV ts ss).1 = S at *
      generalize (schedV ts ss).2 = E at *
      have h2 : (E != 0) = true := by simpa using h1
      have h3 : (E == 0) = false := by simpa using h1
      go_enter Try.func68, Try.ntmps68
      go_wp2_with (first
        | (go_at_call 80; go_must (refine HO.out.mono ?_); rintro e w1 ⟨rfl, hb1⟩)
        | (go_at_call 119; go_must (refine (HC.out _ (pa (pt (pa pr) hb1))).mono ?_); rintro e w2 ⟨rfl, hb2⟩))
      go_ret2
      exact ⟨ret_ii (by rw [HU.out]) (by rw [HV2.out]), pt (pa (pt (pa pr) hb1)) hb2⟩
  · have HV1 := Lib.hid (show V.2 = (openV m ts).2 by rw [HV.out, if_neg h0])
    have HU := Lib.hid (show U = 0 by rw [HE.out, HV1.out, if_neg h0])
    clear hr hr2 hs HV HE
    generalize (openV m ts).2 = E at *
    have h1 : (E != 0) = true := by simpa using h0
    have h3 : (E == 0) = false := by simpa using h0
    go_enter Try.func68, Try.ntmps68
    go_wp2_with (go_at_call 80; go_must (refine HO.out.mono ?_); rintro e w1 ⟨rfl, hb1⟩)
    go_ret2
    exact ⟨ret_ii (by rw [HU.out]) (by rw [HV1.out]), pa (pt (pa pr) hb1)⟩

end Go.Proofs.Ytlgioldmjohhlaa
