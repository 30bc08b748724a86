/- WorksBest: the specification's BestEnd, the walk and the statement. For every input the law returns true, and each argument reads afterwards as it read before. No condition. -/
import Derived.Test.YtlgioldmjohhlaaS4RefEnd
import Derived.Test.YtlgioldmjohhlaaP2Copies
import Derived.Test.YtlgioldmjohhlaaP3Few
import Derived.Test.YtlgioldmjohhlaaP6CheckPlan
import Derived.Test.YtlgioldmjohhlaaPAOpen
import Derived.Test.YtlgioldmjohhlaaM9
import Derived.Test.YtlgioldmjohhlaaMA
namespace Go.Proofs.Ytlgioldmjohhlaa
open Go.ChangeShapes Go.WideShapes Go.ChangeAt Go.RowKit Go.Joins Go.Deep

theorem ints_of_blk2 {w : World} {g B : Nat} {xs : List Int} (h : Blk w g 3 (iarr xs)) (hB : g < B) : IntsIn B w (some ⟨g, 0, none⟩) xs :=
  .inr ⟨g, 0, rfl, hB, fun j hj => by rw [Nat.zero_add]; exact h.cellAt j (iarr_get xs j hj)⟩

set_option maxRecDepth 100000 in
set_option maxHeartbeats 400000 in
theorem refBestEnd_any (B : Nat) (ts : List Task) (A : Option Addr) (c : Nat) (m : Int) (w : World) (hr : TasksIn B w A ts) (hB : B ≤ w.heap.size) (hl : LenOk ts) (hp : PlanOk ts) :
    Calls Try.prog 20 #[.agg #[.int .i64 m, .slice A ts.length c]] w fun e w' => e = .returned (.int .i64 (refEndF ts 8 [] (List.replicate ts.length 0))) ∧ Below w.heap.size w w' := by
  have h7 := hp.1
  have hmk := fun w => run_make_row' (P := Try.prog) 28 3 (.int .i64 0) 8 rfl int_info rfl .i64 .i64 ts.length (by omega) (by omega) w
  rw [made_zero] at hmk
  have hok : EndOk ts [] (List.replicate ts.length 0) := ⟨by simp, fun j => by rw [getD_rep]; simp, fun x hx => by simp at hx⟩
  have hcall : ∀ W A2 c2, Below w.heap.size w W → IntsIn W.heap.size W A2 (List.replicate ts.length 0) →
      Calls Try.prog 84 #[.agg #[.int .i64 m, .slice A ts.length c], .slice none 0 0, .slice A2 ts.length c2] W fun e w' => e = .returned (.int .i64 (refEndF ts 8 [] (List.replicate ts.length 0))) ∧ Below W.heap.size W w' := fun W A2 c2 hW h2 => by
    have q := refEndF_any B ts A c m hl hp 8 [] (List.replicate ts.length 0) none A2 0 c2 W (hr.below (hW.mono hB)) (.inl rfl) h2 (Nat.le_trans hB hW.size) hok (by simp) (by simp; omega)
    rw [List.length_replicate] at q
    exact q
  have HC := Lib.hid hcall
  clear hcall hok hr hl hp
  generalize refEndF ts 8 [] (List.replicate ts.length 0) = V at *
  go_enter Try.func20, Try.ntmps20
  go_wp2_with (fail)
  have r0 : Blk (w.alloc (.cells #[.int .i64 m, .slice A ts.length c] 24)) w.heap.size 24 #[.int .i64 m, .slice A ts.length c] := Blk.newAt rfl
  have hb0 : Below w.heap.size w (w.alloc (.cells #[.int .i64 m, .slice A ts.length c] 24)) := pa pr
  generalize w.alloc (.cells #[.int .i64 m, .slice A ts.length c] 24) = W at *
  have e0 : W.cell? ⟨w.heap.size, 0, none⟩ = some (.int .i64 m) := r0.cellAt 0 rfl
  have e1 : W.cell? ⟨w.heap.size, 1, none⟩ = some (.slice A ts.length c) := r0.cellAt 1 rfl
  have x0 := r0.lt
  have HI := Lib.hid (ints_of_blk2 (w := (W.alloc (.cells (iarr (List.replicate ts.length 0)) 3)).drew) (B := (W.alloc (.cells (iarr (List.replicate ts.length 0)) 3)).drew.heap.size) (Blk.new W 3 (iarr (List.replicate ts.length 0))).drew (by simp))
  have HB0 := Lib.hid hb0
  clear r0 hb0
  go_region_held3 (fun w' => w'.cell? ⟨w.heap.size, 0, none⟩ = some (.int .i64 m) ∧ w'.cell? ⟨w.heap.size, 1, none⟩ = some (.slice A ts.length c)) ((first | go_keep | (refine ⟨?_, ?_⟩ <;> (rw [hc1 _ _ (by simp; omega)]; go_keep))))
    ((go_at_call 84; (with_reducible refine (HC.out _ _ _ (pd (pa HB0.out)) HI.out).mono ?_); rintro e w1 ⟨rfl, hb1⟩; have hc1 := (bcell hb1).1))
  go_wp2
  go_ret
  exact ⟨rfl, pt (pd (pa HB0.out)) hb1⟩


set_option maxHeartbeats 2000000 in
set_option maxRecDepth 100000 in
theorem best_skip (A : Option Addr) (c : Nat) (m : Int) (ts : List Task) (w : World) (hr : TasksIn w.heap.size w A ts) (h : fewB ts = false) :
    Calls Try.prog 3 #[.agg #[.int .i64 m, .slice A ts.length c]] w fun e w' => e = .returned (.bool true) ∧ Below w.heap.size w w' := by
  have hsm := fun W (hW : Below w.heap.size w W) => few_any w.heap.size ts A c m W (hr.below hW) hW.size
  have HBx := Lib.hid (show Below w.heap.size w (w.alloc (.cells #[.int .i64 m, .slice A ts.length c] 24)) from pa pr); have HBk := Lib.hid (show Blk (w.alloc (.cells #[.int .i64 m, .slice A ts.length c] 24)) w.heap.size 24 #[.int .i64 m, .slice A ts.length c] from Blk.newAt rfl)
  rw [h] at hsm
  have HSm := Lib.hid hsm
  clear hr hsm h
  go_enter Try.func3, Try.ntmps3
  go_wp2_with (first
    | (go_at_call 15; refine (awake_any _).mono ?_; rintro e w1 ⟨rfl, hb⟩; replace HBk := Lib.hid (HBk.out.past hb); replace HBx := Lib.hid (pt HBx.out hb); (try (replace HI := Lib.hid ((HI.out.below hb).more hb.size))); clear hb; (try clear e0 e1 x1); have e0 := HBk.out.cellAt 0 rfl; have e1 := HBk.out.cellAt 1 rfl; have x1 := HBk.out.lt)
    | (go_at_call 16; go_must (refine (HSm.out _ HBx.out).mono ?_); rintro e w1 ⟨rfl, hb⟩; replace HBk := Lib.hid (HBk.out.past hb); replace HBx := Lib.hid (pt HBx.out hb); (try (replace HI := Lib.hid ((HI.out.below hb).more hb.size))); clear hb; (try clear e0 e1 x1); have e0 := HBk.out.cellAt 0 rfl; have e1 := HBk.out.cellAt 1 rfl; have x1 := HBk.out.lt))
  go_ret
  exact ⟨rfl, HBx.out⟩

set_option maxHeartbeats 4000000 in
set_option maxRecDepth 100000 in
theorem best_go (A : Option Addr) (c : Nat) (m : Int) (ts : List Task) (w : World) (hr : TasksIn w.heap.size w A ts) (h : fewB ts = true) :
    Calls Try.prog 3 #[.agg #[.int .i64 m, .slice A ts.length c]] w fun e w' => e = .returned (.bool true) ∧ Below w.heap.size w w' := by
  have hs := few_small h
  have hsm := fun W (hW : Below w.heap.size w W) => few_any w.heap.size ts A c m W (hr.below hW) hW.size
  rw [h] at hsm
  have hpe := fun W (hW : Below w.heap.size w W) => refPlanErr_any w.heap.size ts A c m W (hr.below hW) hW.size hs
  have HS := Lib.hid hs
  have HSm := Lib.hid hsm
  have HR := Lib.hid hr
  have HBx := Lib.hid (show Below w.heap.size w (w.alloc (.cells #[.int .i64 m, .slice A ts.length c] 24)) from pa pr); have HBk := Lib.hid (show Blk (w.alloc (.cells #[.int .i64 m, .slice A ts.length c] 24)) w.heap.size 24 #[.int .i64 m, .slice A ts.length c] from Blk.newAt rfl)
  by_cases h0 : (openV m ts).2 = 0
  · obtain ⟨ha, hl, hm, _, _, hpos⟩ := open_ok h0
    have hp : PosOk ts := fun i hi => (hpos i hi).2
    obtain ⟨b, hb1, hb2, hb3, hb4, _⟩ := best_min ha hl hm hp
    rw [h0] at hpe
    have HPe := Lib.hid hpe
    by_cases hz : ts.length ≤ 6
    · have hsched : (schedV ts b).2 = 0 := by rw [sched_of_feas hb2 fun j _ => by have := hb4 j; omega]
      have hso := starts_ok hsched
      have hbest := fun W A1 c1 (h1 : TasksIn W.heap.size W A1 ts) => best_ok W.heap.size ts A1 c1 m W h1 (Nat.le_refl _) hs h0
      have hrs := fun W A2 c2 (hW : Below w.heap.size w W) (h2 : IntsIn W.heap.size W A2 b) => refScheduleErr_any W.heap.size ts b A A2 c c2 m W ((hr.below hW).more hW.size) h2 (Nat.le_refl _) hl ha.1
      have hre := fun W A2 c2 (hW : Below w.heap.size w W) (h2 : IntsIn W.heap.size W A2 b) => refEndOf_any W.heap.size ts b A A2 c c2 m W ((hr.below hW).more hW.size) h2 (Nat.le_refl _) hl ha.1.1 hso
      have hbe := fun W (hW : Below w.heap.size w W) => refBestEnd_any w.heap.size ts A c m W (hr.below hW) hW.size hl ha.1
      rw [hsched] at hrs
      rw [hb3] at hre
      rw [refEnd_same ha hl hm hp] at hbe
      have hz1 : decide ((6 : Int) < (ts.length : Int)) = false := decide_eq_false (by omega)
      have hz2 : ¬ 6 < ts.length := by omega
      unfold BestPost at hbest
      rw [hb1] at hbest
      have HBest := Lib.hid hbest
      have HRs := Lib.hid hrs
      have HRe := Lib.hid hre
      have HBe := Lib.hid hbe
      clear hr hs hsm hpe h h0 ha hl hm hpos hp hb1 hb2 hb3 hb4 hsched hso hbest hrs hre hbe
      generalize (bestV ts).last = L at *
      go_enter Try.func3, Try.ntmps3
      go_wp2_with (first
        | (go_at_call 15; refine (awake_any _).mono ?_; rintro e w1 ⟨rfl, hb⟩; replace HBk := Lib.hid (HBk.out.past hb); replace HBx := Lib.hid (pt HBx.out hb); (try (replace HI := Lib.hid ((HI.out.below hb).more hb.size))); clear hb; (try clear e0 e1 x1); have e0 := HBk.out.cellAt 0 rfl; have e1 := HBk.out.cellAt 1 rfl; have x1 := HBk.out.lt)
        | (go_at_call 16; go_must (refine (HSm.out _ HBx.out).mono ?_); rintro e w1 ⟨rfl, hb⟩; replace HBk := Lib.hid (HBk.out.past hb); replace HBx := Lib.hid (pt HBx.out hb); (try (replace HI := Lib.hid ((HI.out.below hb).more hb.size))); clear hb; (try clear e0 e1 x1); have e0 := HBk.out.cellAt 0 rfl; have e1 := HBk.out.cellAt 1 rfl; have x1 := HBk.out.lt)
        | (go_at_call 17; go_must (refine (HPe.out _ HBx.out).mono ?_); rintro e w3 ⟨rfl, hb⟩; replace HBk := Lib.hid (HBk.out.past hb); replace HBx := Lib.hid (pt HBx.out hb); (try (replace HI := Lib.hid ((HI.out.below hb).more hb.size))); clear hb; (try clear e0 e1 x1); have e0 := HBk.out.cellAt 0 rfl; have e1 := HBk.out.cellAt 1 rfl; have x1 := HBk.out.lt)
        | (go_at_call 19; go_must (refine (copyPlan_any w.heap.size ts A ts.length c m _ (HR.out.below HBx.out) rfl HBx.out.size HS.out).mono ?_); rintro e w2 ⟨A1, c1, rfl, hl1, hc1, hb⟩; have HL1 := Lib.hid hl1; replace HBk := Lib.hid (HBk.out.past hb); replace HBx := Lib.hid (pt HBx.out hb); (try (replace HI := Lib.hid ((HI.out.below hb).more hb.size))); clear hb; (try clear e0 e1 x1); have e0 := HBk.out.cellAt 0 rfl; have e1 := HBk.out.cellAt 1 rfl; have x1 := HBk.out.lt; clear hl1 hc1)
        | (go_at_call 18; go_must (refine (HBest.out _ A1 c1 HL1.out).mono ?_); rintro e w3 ⟨bv, rfl, ⟨A2, c2, rfl, hi2⟩, hb⟩; replace HBk := Lib.hid (HBk.out.past hb); replace HBx := Lib.hid (pt HBx.out hb); (try (replace HI := Lib.hid ((HI.out.below hb).more hb.size))); clear hb; (try clear e0 e1 x1); have e0 := HBk.out.cellAt 0 rfl; have e1 := HBk.out.cellAt 1 rfl; have x1 := HBk.out.lt; have HI := Lib.hid hi2; clear hi2)
        | (go_at_call 20; go_must (refine (HBe.out _ HBx.out).mono ?_); rintro e w3 ⟨rfl, hb⟩; replace HBk := Lib.hid (HBk.out.past hb); replace HBx := Lib.hid (pt HBx.out hb); (try (replace HI := Lib.hid ((HI.out.below hb).more hb.size))); clear hb; (try clear e0 e1 x1); have e0 := HBk.out.cellAt 0 rfl; have e1 := HBk.out.cellAt 1 rfl; have x1 := HBk.out.lt)
        | (go_at_call 21; go_must (refine (HRs.out _ A2 c2 HBx.out HI.out).mono ?_); rintro e w3 ⟨rfl, hb⟩; replace HBk := Lib.hid (HBk.out.past hb); replace HBx := Lib.hid (pt HBx.out hb); (try (replace HI := Lib.hid ((HI.out.below hb).more hb.size))); clear hb; (try clear e0 e1 x1); have e0 := HBk.out.cellAt 0 rfl; have e1 := HBk.out.cellAt 1 rfl; have x1 := HBk.out.lt)
        | (go_at_call 22; go_must (refine (HRe.out _ A2 c2 HBx.out HI.out).mono ?_); rintro e w3 ⟨rfl, hb⟩; replace HBk := Lib.hid (HBk.out.past hb); replace HBx := Lib.hid (pt HBx.out hb); (try (replace HI := Lib.hid ((HI.out.below hb).more hb.size))); clear hb; (try clear e0 e1 x1); have e0 := HBk.out.cellAt 0 rfl; have e1 := HBk.out.cellAt 1 rfl; have x1 := HBk.out.lt))
      go_ret
      exact ⟨rfl, HBx.out⟩
    · have hz1 : decide ((6 : Int) < (ts.length : Int)) = true := decide_eq_true (by omega)
      have hz2 : 6 < ts.length := by omega
      clear hr hs hsm hpe h h0 ha hl hm hpos hp hb1 hb2 hb3 hb4
      go_enter Try.func3, Try.ntmps3
      go_wp2_with (first
        | (go_at_call 15; refine (awake_any _).mono ?_; rintro e w1 ⟨rfl, hb⟩; replace HBk := Lib.hid (HBk.out.past hb); replace HBx := Lib.hid (pt HBx.out hb); (try (replace HI := Lib.hid ((HI.out.below hb).more hb.size))); clear hb; (try clear e0 e1 x1); have e0 := HBk.out.cellAt 0 rfl; have e1 := HBk.out.cellAt 1 rfl; have x1 := HBk.out.lt)
        | (go_at_call 16; go_must (refine (HSm.out _ HBx.out).mono ?_); rintro e w1 ⟨rfl, hb⟩; replace HBk := Lib.hid (HBk.out.past hb); replace HBx := Lib.hid (pt HBx.out hb); (try (replace HI := Lib.hid ((HI.out.below hb).more hb.size))); clear hb; (try clear e0 e1 x1); have e0 := HBk.out.cellAt 0 rfl; have e1 := HBk.out.cellAt 1 rfl; have x1 := HBk.out.lt)
        | (go_at_call 17; go_must (refine (HPe.out _ HBx.out).mono ?_); rintro e w3 ⟨rfl, hb⟩; replace HBk := Lib.hid (HBk.out.past hb); replace HBx := Lib.hid (pt HBx.out hb); (try (replace HI := Lib.hid ((HI.out.below hb).more hb.size))); clear hb; (try clear e0 e1 x1); have e0 := HBk.out.cellAt 0 rfl; have e1 := HBk.out.cellAt 1 rfl; have x1 := HBk.out.lt))
      go_ret
      exact ⟨rfl, HBx.out⟩
  · have HBe := Lib.hid fun W A1 c1 (h1 : TasksIn W.heap.size W A1 ts) => best_err W.heap.size ts A1 c1 m W h1 (Nat.le_refl _) hs h0
    have HPe := Lib.hid hpe
    clear hr hs hsm hpe h
    generalize (openV m ts).2 = E at *
    have h1 : (E != 0) = true := by simpa using h0
    have h2 : (E == 0) = false := by simpa using h0
    go_enter Try.func3, Try.ntmps3
    go_wp2_with (first
      | (go_at_call 15; refine (awake_any _).mono ?_; rintro e w1 ⟨rfl, hb⟩; replace HBk := Lib.hid (HBk.out.past hb); replace HBx := Lib.hid (pt HBx.out hb); (try (replace HI := Lib.hid ((HI.out.below hb).more hb.size))); clear hb; (try clear e0 e1 x1); have e0 := HBk.out.cellAt 0 rfl; have e1 := HBk.out.cellAt 1 rfl; have x1 := HBk.out.lt)
      | (go_at_call 16; go_must (refine (HSm.out _ HBx.out).mono ?_); rintro e w1 ⟨rfl, hb⟩; replace HBk := Lib.hid (HBk.out.past hb); replace HBx := Lib.hid (pt HBx.out hb); (try (replace HI := Lib.hid ((HI.out.below hb).more hb.size))); clear hb; (try clear e0 e1 x1); have e0 := HBk.out.cellAt 0 rfl; have e1 := HBk.out.cellAt 1 rfl; have x1 := HBk.out.lt)
      | (go_at_call 17; go_must (refine (HPe.out _ HBx.out).mono ?_); rintro e w3 ⟨rfl, hb⟩; replace HBk := Lib.hid (HBk.out.past hb); replace HBx := Lib.hid (pt HBx.out hb); (try (replace HI := Lib.hid ((HI.out.below hb).more hb.size))); clear hb; (try clear e0 e1 x1); have e0 := HBk.out.cellAt 0 rfl; have e1 := HBk.out.cellAt 1 rfl; have x1 := HBk.out.lt)
      | (go_at_call 19; go_must (refine (copyPlan_any w.heap.size ts A ts.length c m _ (HR.out.below HBx.out) rfl HBx.out.size HS.out).mono ?_); rintro e w2 ⟨A1, c1, rfl, hl1, hc1, hb⟩; have HL1 := Lib.hid hl1; replace HBk := Lib.hid (HBk.out.past hb); replace HBx := Lib.hid (pt HBx.out hb); (try (replace HI := Lib.hid ((HI.out.below hb).more hb.size))); clear hb; (try clear e0 e1 x1); have e0 := HBk.out.cellAt 0 rfl; have e1 := HBk.out.cellAt 1 rfl; have x1 := HBk.out.lt; clear hl1 hc1)
      | (go_at_call 18; go_must (refine (HBe.out _ A1 c1 HL1.out).mono ?_); rintro e w3 ⟨rfl, hb⟩; replace HBk := Lib.hid (HBk.out.past hb); replace HBx := Lib.hid (pt HBx.out hb); (try (replace HI := Lib.hid ((HI.out.below hb).more hb.size))); clear hb; (try clear e0 e1 x1); have e0 := HBk.out.cellAt 0 rfl; have e1 := HBk.out.cellAt 1 rfl; have x1 := HBk.out.lt))
    go_ret
    exact ⟨rfl, HBx.out⟩

theorem bestlaw_walk (A : Option Addr) (c : Nat) (m : Int) (ts : List Task) (w : World) (hr : TasksIn w.heap.size w A ts) :
    Calls Try.prog 3 #[.agg #[.int .i64 m, .slice A ts.length c]] w fun e w' => e = .returned (.bool true) ∧ Below w.heap.size w w' := by
  cases h : fewB ts with
  | false => exact best_skip A c m ts w hr h
  | true => exact best_go A c m ts w hr h

set_option maxRecDepth 100000 in
theorem bestlaw_lifted (os : Os) (started : os.Started) (H : Type) (enc : TypeId × Value → H) :
    ReturnsInHanded {} Try.checked os 3 .any (Rows.worksBestSpec.pre6 enc Try.prog Try.f3 Rows.worksBestRow.domain false) (Rows.worksBestSpec.post enc Try.prog Try.f3 false true false false) := by
  refine returnsInHanded_of_change (C := Try.checked) own_knob started (by kernel_rfl) Try.func3
    (ChangeSpec.witness6 (enc := enc) (C := Try.checked) false ⟨#[], #[.agg #[.int .i64 0, .slice none 0 0]], []⟩ 8 (by kernel_rfl) (by kernel_rfl) (by kernel_rfl) (by kernel_rfl)) ?_
  intro W base args ds gs before hval0 hW _ _
  have hval : ∀ (j : Nat) t v, Try.f3.params[j]? = some t → args[j]? = some v → Value.okWide Try.prog W .any base t v := hval0
  have hW' := hW
  obtain ⟨p, q, hA0, hV, rfl, hfz, hnd⟩ := hW
  have hA : DataW.TrodAll enc Try.prog W 0 (fun _ => true) true Try.f3.params.toList args.toList ds p := hA0
  rw [Try.params3] at hA hval
  obtain ⟨v0, vs0, d0, ds0, p0, q0, hargs, rfl, rfl, h0, r0⟩ := trodAll_cons hA
  obtain ⟨rfl, rfl, rfl⟩ := trodAll_nil r0
  obtain rfl : args = #[v0] := by cases args; simp_all
  obtain ⟨m, A, c, ts, rfl, hi_, _, _⟩ := open_plan_arg (hval 0 _ v0 rfl rfl) h0
  clear hA0 hval0 hval hA h0 r0
  refine (bestlaw_walk A c m ts W hi_).mono fun e W' ⟨he, hb⟩ => ?_
  subst he
  exact law_end laid_out (fun t ht => (by decide +kernel : ∀ t ∈ Try.f3.params.toList, Try.prog.readableRec t = true ∧ t < Try.prog.types.size) t ht) rfl Try.underlying4 rfl rfl hW' hb

theorem bestlaw_over : Rows.worksBestRow.holds Try.pinned (OpenSpec.ofChange Rows.worksBestSpec) :=
  OpenClaim.holds_of_wide 3 Try.f3 rfl rfl rfl rfl rfl rfl rfl ⟨rfl, rfl, rfl, rfl, rfl⟩ rfl rfl rfl rfl rfl (by kernel_rfl) Try.func3 (by kernel_rfl)
    (of_decide_eq_true (by kernel_rfl)) (by unfold Func.isWrapper; first | (rw [if_pos (by decide +kernel)]; kernel_rfl) | (rw [if_neg (by decide +kernel)]; exact ⟨rfl, rfl⟩))
    (fun os started H enc _ => bestlaw_lifted os started H enc)

theorem bestlaw_holds : Rows.WorksBestSaid := bestlaw_over
#print axioms bestlaw_holds

end Go.Proofs.Ytlgioldmjohhlaa
