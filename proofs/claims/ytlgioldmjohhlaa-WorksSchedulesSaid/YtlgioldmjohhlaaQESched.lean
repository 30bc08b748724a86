/- WorksSchedules: the walk and the statement. For every input the law returns true, and each argument reads afterwards as it read before. No condition. -/
import Derived.Test.YtlgioldmjohhlaaQDWorks
import Derived.Test.YtlgioldmjohhlaaP2Copies
import Derived.Test.YtlgioldmjohhlaaP3Few
import Derived.Test.YtlgioldmjohhlaaPAOpen
import Derived.Test.YtlgioldmjohhlaaMB
import Derived.Test.YtlgioldmjohhlaaMA
import Derived.Test.YtlgioldmjohhlaaM9
namespace Go.Proofs.Ytlgioldmjohhlaa
open Go.ChangeShapes Go.WideShapes Go.ChangeAt Go.RowKit Go.Joins Go.Deep


set_option maxHeartbeats 2000000 in
set_option maxRecDepth 100000 in
theorem schedules_skip (A A2 : Option Addr) (c c2 : Nat) (m : Int) (ts : List Task) (ss : List Int) (w : World) (hr : TasksIn w.heap.size w A ts) (h : fewB ts = false ∨ (fewB ts = true ∧ 9 < ss.length)) :
    Calls Try.prog 12 #[.agg #[.int .i64 m, .slice A ts.length c], .slice A2 ss.length c2] w fun e w' => e = .returned (.bool true) ∧ Below w.heap.size w w' := by
  have hsm := fun W (hW : Below w.heap.size w W) => few_any w.heap.size ts A c m W (hr.below hW) hW.size
  have HBx := Lib.hid (show Below w.heap.size w (w.alloc (.cells #[.int .i64 m, .slice A ts.length c] 24)) from pa pr); have HBk := Lib.hid (show Blk (w.alloc (.cells #[.int .i64 m, .slice A ts.length c] 24)) w.heap.size 24 #[.int .i64 m, .slice A ts.length c] from Blk.newAt rfl)
  rcases h with h | ⟨h, hz⟩
  · rw [h] at hsm
    have HSm := Lib.hid hsm
    clear hr hsm h
    go_enter Try.func12, Try.ntmps12
    go_wp2_with (first
      | (go_at_call 15; refine (awake_any _).mono ?_; rintro e w1 ⟨rfl, hb⟩; replace HBk := Lib.hid (HBk.out.past hb); replace HBx := Lib.hid (pt HBx.out hb); clear hb; (try clear e0 e1 x1); have e0 := HBk.out.cellAt 0 rfl; have e1 := HBk.out.cellAt 1 rfl; have x1 := HBk.out.lt)
      | (go_at_call 16; go_must (refine (HSm.out _ HBx.out).mono ?_); rintro e w1 ⟨rfl, hb⟩; replace HBk := Lib.hid (HBk.out.past hb); replace HBx := Lib.hid (pt HBx.out hb); clear hb; (try clear e0 e1 x1); have e0 := HBk.out.cellAt 0 rfl; have e1 := HBk.out.cellAt 1 rfl; have x1 := HBk.out.lt))
    go_ret
    exact ⟨rfl, HBx.out⟩
  · rw [h] at hsm
    have HSm := Lib.hid hsm
    have hz2 : (9 : Int) < (ss.length : Int) := by omega
    clear hr hsm h
    go_enter Try.func12, Try.ntmps12
    go_wp2_with (first
      | (go_at_call 15; refine (awake_any _).mono ?_; rintro e w1 ⟨rfl, hb⟩; replace HBk := Lib.hid (HBk.out.past hb); replace HBx := Lib.hid (pt HBx.out hb); clear hb; (try clear e0 e1 x1); have e0 := HBk.out.cellAt 0 rfl; have e1 := HBk.out.cellAt 1 rfl; have x1 := HBk.out.lt)
      | (go_at_call 16; go_must (refine (HSm.out _ HBx.out).mono ?_); rintro e w1 ⟨rfl, hb⟩; replace HBk := Lib.hid (HBk.out.past hb); replace HBx := Lib.hid (pt HBx.out hb); clear hb; (try clear e0 e1 x1); have e0 := HBk.out.cellAt 0 rfl; have e1 := HBk.out.cellAt 1 rfl; have x1 := HBk.out.lt))
    go_ret
    exact ⟨rfl, HBx.out⟩

set_option maxHeartbeats 4000000 in
set_option maxRecDepth 100000 in
theorem schedules_go (A A2 : Option Addr) (c c2 : Nat) (m : Int) (ts : List Task) (ss : List Int) (w : World) (hr : TasksIn w.heap.size w A ts) (hr2 : IntsIn w.heap.size w A2 ss) (h : fewB ts = true) (hz : ss.length ≤ 9) :
    Calls Try.prog 12 #[.agg #[.int .i64 m, .slice A ts.length c], .slice A2 ss.length c2] w fun e w' => e = .returned (.bool true) ∧ Below w.heap.size w w' := by
  have hs := few_small h
  have hsm := fun W (hW : Below w.heap.size w W) => few_any w.heap.size ts A c m W (hr.below hW) hW.size
  rw [h] at hsm
  have hpe := fun W (hW : Below w.heap.size w W) => refPlanErr_any w.heap.size ts A c m W (hr.below hW) hW.size hs
  have hsc := fun W A1 A4 c1 c4 (h1 : TasksIn W.heap.size W A1 ts) (h2 : IntsIn W.heap.size W A4 ss) => worksSched_any W.heap.size ts ss A1 A4 c1 c4 m W h1 h2 (Nat.le_refl _) hs (by omega)
  have hen := fun W A1 A4 c1 c4 (h1 : TasksIn W.heap.size W A1 ts) (h2 : IntsIn W.heap.size W A4 ss) => worksEnd_any W.heap.size ts ss A1 A4 c1 c4 m W h1 h2 (Nat.le_refl _) hs (by omega)
  have hz1 : decide ((9 : Int) < (ss.length : Int)) = false := decide_eq_false (by omega)
  have hz2 : ¬ 9 < ss.length := by omega
  have HS := Lib.hid hs
  have HSm := Lib.hid hsm
  have HR := Lib.hid hr
  have HR2 := Lib.hid hr2
  have HBx := Lib.hid (show Below w.heap.size w (w.alloc (.cells #[.int .i64 m, .slice A ts.length c] 24)) from pa pr); have HBk := Lib.hid (show Blk (w.alloc (.cells #[.int .i64 m, .slice A ts.length c] 24)) w.heap.size 24 #[.int .i64 m, .slice A ts.length c] from Blk.newAt rfl)
  by_cases h0 : (openV m ts).2 = 0
  · obtain ⟨ha, hl, _⟩ := open_ok h0
    have hp : planSchedV m ts ss = schedV ts ss := by unfold planSchedV; rw [if_pos h0]
    have hrs := fun W (hW : Below w.heap.size w W) => refSched_any w.heap.size ts ss A A2 c c2 m W (hr.below hW) (hr2.below hW) hW.size hl ha.1
    rw [hp] at hsc hen
    rw [h0] at hpe
    by_cases h1 : (schedV ts ss).2 = 0
    · have hre := fun W (hW : Below w.heap.size w W) => refEndOf_any w.heap.size ts ss A A2 c c2 m W (hr.below hW) (hr2.below hW) hW.size hl ha.1.1 (starts_ok h1)
      have he : planEndV m ts ss = lastV ts ss := by unfold planEndV; rw [hp, if_pos h1]
      rw [he] at hen
      rw [h1] at hsc hen hrs
      have HPe := Lib.hid hpe
      have HSc := Lib.hid hsc
      have HEn := Lib.hid hen
      have HRs := Lib.hid hrs
      have HRe := Lib.hid hre
      clear hr hr2 hs hsm hpe hsc hen h h0 ha hl hp h1 he hrs hre
      generalize (schedV ts ss).1 = K at *
      generalize lastV ts ss = L at *
      go_enter Try.func12, Try.ntmps12
      go_wp2_with (first
        | (go_at_call 15; refine (awake_any _).mono ?_; rintro e w1 ⟨rfl, hb⟩; replace HBk := Lib.hid (HBk.out.past hb); replace HBx := Lib.hid (pt HBx.out hb); clear hb; (try clear e0 e1 x1); have e0 := HBk.out.cellAt 0 rfl; have e1 := HBk.out.cellAt 1 rfl; have x1 := HBk.out.lt)
        | (go_at_call 16; go_must (refine (HSm.out _ HBx.out).mono ?_); rintro e w1 ⟨rfl, hb⟩; replace HBk := Lib.hid (HBk.out.past hb); replace HBx := Lib.hid (pt HBx.out hb); clear hb; (try clear e0 e1 x1); have e0 := HBk.out.cellAt 0 rfl; have e1 := HBk.out.cellAt 1 rfl; have x1 := HBk.out.lt)
        | (go_at_call 19; go_must (refine (copyPlan_any w.heap.size ts A ts.length c m _ (HR.out.below HBx.out) rfl HBx.out.size HS.out).mono ?_); rintro e w2 ⟨A1, c1, rfl, hl1, hc1, hb⟩; have HL1 := Lib.hid hl1; replace HBk := Lib.hid (HBk.out.past hb); replace HBx := Lib.hid (pt HBx.out hb); clear hb; (try clear e0 e1 x1); have e0 := HBk.out.cellAt 0 rfl; have e1 := HBk.out.cellAt 1 rfl; have x1 := HBk.out.lt; clear hl1 hc1)
        | (go_at_call 24; go_must (refine (copyInts_any w.heap.size A2 ss.length c2 ss _ (HR2.out.below HBx.out) rfl HBx.out.size (by omega)).mono ?_); rintro e w2 ⟨v1, rfl, hown1, hb⟩; obtain ⟨A4, c4, rfl, hc4, hm4⟩ := own_form hown1; have HI1 := Lib.hid (intsIn_of_own hown1); replace HL1 := Lib.hid ((HL1.out.below hb).more hb.size); replace HBk := Lib.hid (HBk.out.past hb); replace HBx := Lib.hid (pt HBx.out hb); clear hb; (try clear e0 e1 x1); have e0 := HBk.out.cellAt 0 rfl; have e1 := HBk.out.cellAt 1 rfl; have x1 := HBk.out.lt; clear hown1 hc4 hm4)
        | (go_at_call 67; go_must (refine (HSc.out _ A1 A4 c1 c4 HL1.out HI1.out).mono ?_); rintro e w3 ⟨rfl, hb⟩; replace HBk := Lib.hid (HBk.out.past hb); replace HBx := Lib.hid (pt HBx.out hb); clear hb; (try clear e0 e1 x1); have e0 := HBk.out.cellAt 0 rfl; have e1 := HBk.out.cellAt 1 rfl; have x1 := HBk.out.lt)
        | (go_at_call 68; go_must (refine (HEn.out _ A1 A4 c1 c4 HL1.out HI1.out).mono ?_); rintro e w3 ⟨rfl, hb⟩; replace HBk := Lib.hid (HBk.out.past hb); replace HBx := Lib.hid (pt HBx.out hb); clear hb; (try clear e0 e1 x1); have e0 := HBk.out.cellAt 0 rfl; have e1 := HBk.out.cellAt 1 rfl; have x1 := HBk.out.lt)
        | (go_at_call 17; go_must (refine (HPe.out _ HBx.out).mono ?_); rintro e w3 ⟨rfl, hb⟩; replace HBk := Lib.hid (HBk.out.past hb); replace HBx := Lib.hid (pt HBx.out hb); clear hb; (try clear e0 e1 x1); have e0 := HBk.out.cellAt 0 rfl; have e1 := HBk.out.cellAt 1 rfl; have x1 := HBk.out.lt)
        | (go_at_call 69; go_must (refine (HRs.out _ HBx.out).mono ?_); rintro e w3 ⟨rfl, hb⟩; replace HBk := Lib.hid (HBk.out.past hb); replace HBx := Lib.hid (pt HBx.out hb); clear hb; (try clear e0 e1 x1); have e0 := HBk.out.cellAt 0 rfl; have e1 := HBk.out.cellAt 1 rfl; have x1 := HBk.out.lt)
        | (go_at_call 22; go_must (refine (HRe.out _ HBx.out).mono ?_); rintro e w3 ⟨rfl, hb⟩; replace HBk := Lib.hid (HBk.out.past hb); replace HBx := Lib.hid (pt HBx.out hb); clear hb; (try clear e0 e1 x1); have e0 := HBk.out.cellAt 0 rfl; have e1 := HBk.out.cellAt 1 rfl; have x1 := HBk.out.lt))
      go_ret
      exact ⟨rfl, HBx.out⟩
    · have he : planEndV m ts ss = 0 := by unfold planEndV; rw [hp, if_neg h1]
      rw [he] at hen
      have HPe := Lib.hid hpe
      have HSc := Lib.hid hsc
      have HEn := Lib.hid hen
      have HRs := Lib.hid hrs
      clear hr hr2 hs hsm hpe hsc hen h h0 ha hl hp he hrs
      generalize (schedV ts ss).1 = K at *
      generalize (schedV ts ss).2 = D at *
      have h2 : (D != 0) = true := by simpa using h1
      go_enter Try.func12, Try.ntmps12
      go_wp2_with (first
        | (go_at_call 15; refine (awake_any _).mono ?_; rintro e w1 ⟨rfl, hb⟩; replace HBk := Lib.hid (HBk.out.past hb); replace HBx := Lib.hid (pt HBx.out hb); clear hb; (try clear e0 e1 x1); have e0 := HBk.out.cellAt 0 rfl; have e1 := HBk.out.cellAt 1 rfl; have x1 := HBk.out.lt)
        | (go_at_call 16; go_must (refine (HSm.out _ HBx.out).mono ?_); rintro e w1 ⟨rfl, hb⟩; replace HBk := Lib.hid (HBk.out.past hb); replace HBx := Lib.hid (pt HBx.out hb); clear hb; (try clear e0 e1 x1); have e0 := HBk.out.cellAt 0 rfl; have e1 := HBk.out.cellAt 1 rfl; have x1 := HBk.out.lt)
        | (go_at_call 19; go_must (refine (copyPlan_any w.heap.size ts A ts.length c m _ (HR.out.below HBx.out) rfl HBx.out.size HS.out).mono ?_); rintro e w2 ⟨A1, c1, rfl, hl1, hc1, hb⟩; have HL1 := Lib.hid hl1; replace HBk := Lib.hid (HBk.out.past hb); replace HBx := Lib.hid (pt HBx.out hb); clear hb; (try clear e0 e1 x1); have e0 := HBk.out.cellAt 0 rfl; have e1 := HBk.out.cellAt 1 rfl; have x1 := HBk.out.lt; clear hl1 hc1)
        | (go_at_call 24; go_must (refine (copyInts_any w.heap.size A2 ss.length c2 ss _ (HR2.out.below HBx.out) rfl HBx.out.size (by omega)).mono ?_); rintro e w2 ⟨v1, rfl, hown1, hb⟩; obtain ⟨A4, c4, rfl, hc4, hm4⟩ := own_form hown1; have HI1 := Lib.hid (intsIn_of_own hown1); replace HL1 := Lib.hid ((HL1.out.below hb).more hb.size); replace HBk := Lib.hid (HBk.out.past hb); replace HBx := Lib.hid (pt HBx.out hb); clear hb; (try clear e0 e1 x1); have e0 := HBk.out.cellAt 0 rfl; have e1 := HBk.out.cellAt 1 rfl; have x1 := HBk.out.lt; clear hown1 hc4 hm4)
        | (go_at_call 67; go_must (refine (HSc.out _ A1 A4 c1 c4 HL1.out HI1.out).mono ?_); rintro e w3 ⟨rfl, hb⟩; replace HBk := Lib.hid (HBk.out.past hb); replace HBx := Lib.hid (pt HBx.out hb); clear hb; (try clear e0 e1 x1); have e0 := HBk.out.cellAt 0 rfl; have e1 := HBk.out.cellAt 1 rfl; have x1 := HBk.out.lt)
        | (go_at_call 68; go_must (refine (HEn.out _ A1 A4 c1 c4 HL1.out HI1.out).mono ?_); rintro e w3 ⟨rfl, hb⟩; replace HBk := Lib.hid (HBk.out.past hb); replace HBx := Lib.hid (pt HBx.out hb); clear hb; (try clear e0 e1 x1); have e0 := HBk.out.cellAt 0 rfl; have e1 := HBk.out.cellAt 1 rfl; have x1 := HBk.out.lt)
        | (go_at_call 17; go_must (refine (HPe.out _ HBx.out).mono ?_); rintro e w3 ⟨rfl, hb⟩; replace HBk := Lib.hid (HBk.out.past hb); replace HBx := Lib.hid (pt HBx.out hb); clear hb; (try clear e0 e1 x1); have e0 := HBk.out.cellAt 0 rfl; have e1 := HBk.out.cellAt 1 rfl; have x1 := HBk.out.lt)
        | (go_at_call 69; go_must (refine (HRs.out _ HBx.out).mono ?_); rintro e w3 ⟨rfl, hb⟩; replace HBk := Lib.hid (HBk.out.past hb); replace HBx := Lib.hid (pt HBx.out hb); clear hb; (try clear e0 e1 x1); have e0 := HBk.out.cellAt 0 rfl; have e1 := HBk.out.cellAt 1 rfl; have x1 := HBk.out.lt))
      go_ret
      exact ⟨rfl, HBx.out⟩
  · have hp : planSchedV m ts ss = (0, (openV m ts).2) := by unfold planSchedV; rw [if_neg h0]
    have he : planEndV m ts ss = 0 := by unfold planEndV; rw [hp, if_neg h0]
    rw [hp] at hsc hen
    rw [he] at hen
    have HPe := Lib.hid hpe
    have HSc := Lib.hid hsc
    have HEn := Lib.hid hen
    clear hr hr2 hs hsm hpe hsc hen h hp he
    generalize (openV m ts).2 = E at *
    have h1 : (E != 0) = true := by simpa using h0
    have h2 : (E == 0) = false := by simpa using h0
    go_enter Try.func12, Try.ntmps12
    go_wp2_with (first
      | (go_at_call 15; refine (awake_any _).mono ?_; rintro e w1 ⟨rfl, hb⟩; replace HBk := Lib.hid (HBk.out.past hb); replace HBx := Lib.hid (pt HBx.out hb); clear hb; (try clear e0 e1 x1); have e0 := HBk.out.cellAt 0 rfl; have e1 := HBk.out.cellAt 1 rfl; have x1 := HBk.out.lt)
      | (go_at_call 16; go_must (refine (HSm.out _ HBx.out).mono ?_); rintro e w1 ⟨rfl, hb⟩; replace HBk := Lib.hid (HBk.out.past hb); replace HBx := Lib.hid (pt HBx.out hb); clear hb; (try clear e0 e1 x1); have e0 := HBk.out.cellAt 0 rfl; have e1 := HBk.out.cellAt 1 rfl; have x1 := HBk.out.lt)
      | (go_at_call 19; go_must (refine (copyPlan_any w.heap.size ts A ts.length c m _ (HR.out.below HBx.out) rfl HBx.out.size HS.out).mono ?_); rintro e w2 ⟨A1, c1, rfl, hl1, hc1, hb⟩; have HL1 := Lib.hid hl1; replace HBk := Lib.hid (HBk.out.past hb); replace HBx := Lib.hid (pt HBx.out hb); clear hb; (try clear e0 e1 x1); have e0 := HBk.out.cellAt 0 rfl; have e1 := HBk.out.cellAt 1 rfl; have x1 := HBk.out.lt; clear hl1 hc1)
      | (go_at_call 24; go_must (refine (copyInts_any w.heap.size A2 ss.length c2 ss _ (HR2.out.below HBx.out) rfl HBx.out.size (by omega)).mono ?_); rintro e w2 ⟨v1, rfl, hown1, hb⟩; obtain ⟨A4, c4, rfl, hc4, hm4⟩ := own_form hown1; have HI1 := Lib.hid (intsIn_of_own hown1); replace HL1 := Lib.hid ((HL1.out.below hb).more hb.size); replace HBk := Lib.hid (HBk.out.past hb); replace HBx := Lib.hid (pt HBx.out hb); clear hb; (try clear e0 e1 x1); have e0 := HBk.out.cellAt 0 rfl; have e1 := HBk.out.cellAt 1 rfl; have x1 := HBk.out.lt; clear hown1 hc4 hm4)
      | (go_at_call 67; go_must (refine (HSc.out _ A1 A4 c1 c4 HL1.out HI1.out).mono ?_); rintro e w3 ⟨rfl, hb⟩; replace HBk := Lib.hid (HBk.out.past hb); replace HBx := Lib.hid (pt HBx.out hb); clear hb; (try clear e0 e1 x1); have e0 := HBk.out.cellAt 0 rfl; have e1 := HBk.out.cellAt 1 rfl; have x1 := HBk.out.lt)
      | (go_at_call 68; go_must (refine (HEn.out _ A1 A4 c1 c4 HL1.out HI1.out).mono ?_); rintro e w3 ⟨rfl, hb⟩; replace HBk := Lib.hid (HBk.out.past hb); replace HBx := Lib.hid (pt HBx.out hb); clear hb; (try clear e0 e1 x1); have e0 := HBk.out.cellAt 0 rfl; have e1 := HBk.out.cellAt 1 rfl; have x1 := HBk.out.lt)
      | (go_at_call 17; go_must (refine (HPe.out _ HBx.out).mono ?_); rintro e w3 ⟨rfl, hb⟩; replace HBk := Lib.hid (HBk.out.past hb); replace HBx := Lib.hid (pt HBx.out hb); clear hb; (try clear e0 e1 x1); have e0 := HBk.out.cellAt 0 rfl; have e1 := HBk.out.cellAt 1 rfl; have x1 := HBk.out.lt))
    go_ret
    exact ⟨rfl, HBx.out⟩

theorem schedules_walk (A A2 : Option Addr) (c c2 : Nat) (m : Int) (ts : List Task) (ss : List Int) (w : World) (hr : TasksIn w.heap.size w A ts) (hr2 : IntsIn w.heap.size w A2 ss) :
    Calls Try.prog 12 #[.agg #[.int .i64 m, .slice A ts.length c], .slice A2 ss.length c2] w fun e w' => e = .returned (.bool true) ∧ Below w.heap.size w w' := by
  cases h : fewB ts with
  | false => exact schedules_skip A A2 c c2 m ts ss w hr (.inl h)
  | true =>
    by_cases hz : ss.length ≤ 9
    · exact schedules_go A A2 c c2 m ts ss w hr hr2 h hz
    · exact schedules_skip A A2 c c2 m ts ss w hr (.inr ⟨h, by omega⟩)

section
variable {H : Type} {enc : TypeId × Value → H} {P : Program} {w : World} {base b0 : Nat} {spare : Nat → Bool} {held : Bool} {r : Reach}
theorem open_ints_arg {t e : TypeId} {v : Value} {d : DataW H} {p : List MemPlace} (ht : P.underlying t = some (.slice e)) (he : P.underlying e = some (.int .i64)) (hc : P.cellsOf e = 1) (hv : Value.okWide P w r b0 t v) (h : DataW.Trod enc P w base spare held t v d p) :
    ∃ (A : Option Addr) (c : Nat) (xs : List Int), v = .slice A xs.length c ∧ IntsIn w.heap.size w A xs ∧ xs.length ≤ c ∧ xs.length ≤ maxLen := by
  obtain ⟨a, len, cap, rfl⟩ := okWide_slice ht hv
  obtain ⟨fuel, hf⟩ := h
  obtain ⟨A, c, xs, e1, hi, hl, hm, _⟩ := open_slice_ints ht he hc hf
  have e2 : Value.slice a len cap = .slice A xs.length c := by simpa [Value.cells] using e1
  exact ⟨A, c, xs, e2, hi, hl, by omega⟩
end

set_option maxRecDepth 100000 in
theorem schedules_lifted (os : Os) (started : os.Started) (H : Type) (enc : TypeId × Value → H) :
    ReturnsInHanded {} Try.checked os 12 .any (Rows.worksSchedulesSpec.pre6 enc Try.prog Try.f12 Rows.worksSchedulesRow.domain false) (Rows.worksSchedulesSpec.post enc Try.prog Try.f12 false true false false) := by
  refine returnsInHanded_of_change (C := Try.checked) own_knob started (by kernel_rfl) Try.func12
    (ChangeSpec.witness6 (enc := enc) (C := Try.checked) false ⟨#[], #[.agg #[.int .i64 0, .slice none 0 0], .slice none 0 0], []⟩ 8 (by kernel_rfl) (by kernel_rfl) (by kernel_rfl) (by kernel_rfl)) ?_
  intro W base args ds gs before hval0 hW _ _
  have hval : ∀ (j : Nat) t v, Try.f12.params[j]? = some t → args[j]? = some v → Value.okWide Try.prog W .any base t v := hval0
  have hW' := hW
  obtain ⟨p, q, hA0, hV, rfl, hfz, hnd⟩ := hW
  have hA : DataW.TrodAll enc Try.prog W 0 (fun _ => true) true Try.f12.params.toList args.toList ds p := hA0
  rw [Try.params12] at hA hval
  obtain ⟨v0, vs0, d0, ds0, p0, q0, hargs, rfl, rfl, h0, r0⟩ := trodAll_cons hA
  obtain ⟨v1, vs1, d1, ds1, p1, q1, rfl, rfl, rfl, h1, r1⟩ := trodAll_cons r0
  obtain ⟨rfl, rfl, rfl⟩ := trodAll_nil r1
  obtain rfl : args = #[v0, v1] := by cases args; simp_all
  obtain ⟨m, A, c, ts, rfl, hi_, _, _⟩ := open_plan_arg (hval 0 _ v0 rfl rfl) h0
  obtain ⟨A2, c2, ss, rfl, hi2, _, _⟩ := open_ints_arg Try.underlying28 Try.underlying3 cells_int (hval 1 _ v1 rfl rfl) h1
  clear hA0 hval0 hval hA h0 h1 r0 r1
  refine (schedules_walk A A2 c c2 m ts ss W hi_ hi2).mono fun e W' ⟨he, hb⟩ => ?_
  subst he
  exact law_end laid_out (fun t ht => (by decide +kernel : ∀ t ∈ Try.f12.params.toList, Try.prog.readableRec t = true ∧ t < Try.prog.types.size) t ht) rfl Try.underlying4 rfl rfl hW' hb

theorem schedules_over : Rows.worksSchedulesRow.holds Try.pinned (OpenSpec.ofChange Rows.worksSchedulesSpec) :=
  OpenClaim.holds_of_wide 12 Try.f12 rfl rfl rfl rfl rfl rfl rfl ⟨rfl, rfl, rfl, rfl, rfl⟩ rfl rfl rfl rfl rfl (by kernel_rfl) Try.func12 (by kernel_rfl)
    (of_decide_eq_true (by kernel_rfl)) (by unfold Func.isWrapper; first | (rw [if_pos (by decide +kernel)]; kernel_rfl) | (rw [if_neg (by decide +kernel)]; exact ⟨rfl, rfl⟩))
    (fun os started H enc _ => schedules_lifted os started H enc)

theorem schedules_holds : Rows.WorksSchedulesSaid := schedules_over
#print axioms schedules_holds

end Go.Proofs.Ytlgioldmjohhlaa
