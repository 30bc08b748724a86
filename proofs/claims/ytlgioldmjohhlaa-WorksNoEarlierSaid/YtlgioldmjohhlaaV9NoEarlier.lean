/- WorksNoEarlier: the statement. For every input the law returns true, and each argument reads afterwards as it read before. No condition. -/
import Derived.Test.YtlgioldmjohhlaaV5NoEarlier
import Derived.Test.YtlgioldmjohhlaaV6NoEarlier
import Derived.Test.YtlgioldmjohhlaaV7NoEarlier
import Derived.Test.YtlgioldmjohhlaaV8NoEarlier
namespace Go.Proofs.Ytlgioldmjohhlaa
open Go.ChangeShapes Go.WideShapes Go.ChangeAt Go.RowKit Go.Joins Go.Deep



set_option maxHeartbeats 2000000 in
set_option maxRecDepth 100000 in
theorem ne_skip (A A2 A3 : Option Addr) (c c2 c3 : Nat) (m : Int) (ts : List Task) (ss tk : List Int) (w : World) (hr : TasksIn w.heap.size w A ts) (h : fewB ts = false ∨ (fewB ts = true ∧ 7 < ss.length) ∨ (fewB ts = true ∧ ss.length ≤ 7 ∧ 7 < tk.length) ∨ (fewB ts = true ∧ ss.length ≤ 7 ∧ tk.length ≤ 7 ∧ (openV m ts).2 ≠ 0)) :
    Calls Try.prog 14 #[.agg #[.int .i64 m, .slice A ts.length c], .slice A2 ss.length c2, .slice A3 tk.length c3] w fun e w' => e = .returned (.bool true) ∧ Below w.heap.size w w' := by
  have hsm := fun W (hW : Below w.heap.size w W) => few_any w.heap.size ts A c m W (hr.below hW) hW.size
  have HBx := Lib.hid (show Below w.heap.size w (w.alloc (.cells #[.int .i64 m, .slice A ts.length c] 24)) from pa pr); have HBk := Lib.hid (show Blk (w.alloc (.cells #[.int .i64 m, .slice A ts.length c] 24)) w.heap.size 24 #[.int .i64 m, .slice A ts.length c] from Blk.newAt rfl)
  rcases h with h | ⟨h, hz⟩ | ⟨h, hz, hy⟩ | ⟨h, hz, hy, he⟩
  · rw [h] at hsm
    have HSm := Lib.hid hsm
    clear hr hsm h
    go_enter Try.func14, Try.ntmps14
    go_wp2_with (first | (go_at_call 15; refine (awake_any _).mono ?_; rintro e w1 ⟨rfl, hb⟩; replace HBk := Lib.hid (HBk.out.past hb); replace HBx := Lib.hid (pt HBx.out hb); (try (replace HI5 := Lib.hid ((HI5.out.below hb).more hb.size))); clear hb; (try clear e0 e1 x1); have e0 := HBk.out.cellAt 0 rfl; have e1 := HBk.out.cellAt 1 rfl; have x1 := HBk.out.lt) | (go_at_call 16; go_must (refine (HSm.out _ HBx.out).mono ?_); rintro e w1 ⟨rfl, hb⟩; replace HBk := Lib.hid (HBk.out.past hb); replace HBx := Lib.hid (pt HBx.out hb); (try (replace HI5 := Lib.hid ((HI5.out.below hb).more hb.size))); clear hb; (try clear e0 e1 x1); have e0 := HBk.out.cellAt 0 rfl; have e1 := HBk.out.cellAt 1 rfl; have x1 := HBk.out.lt))
    go_ret
    exact ⟨rfl, HBx.out⟩
  · rw [h] at hsm
    have HSm := Lib.hid hsm
    have hz1 : decide ((7 : Int) < (ss.length : Int)) = true := decide_eq_true (by omega)
    have hz2 : 7 < ss.length := hz
    clear hr hsm h
    go_enter Try.func14, Try.ntmps14
    go_wp2_with (first | (go_at_call 15; refine (awake_any _).mono ?_; rintro e w1 ⟨rfl, hb⟩; replace HBk := Lib.hid (HBk.out.past hb); replace HBx := Lib.hid (pt HBx.out hb); (try (replace HI5 := Lib.hid ((HI5.out.below hb).more hb.size))); clear hb; (try clear e0 e1 x1); have e0 := HBk.out.cellAt 0 rfl; have e1 := HBk.out.cellAt 1 rfl; have x1 := HBk.out.lt) | (go_at_call 16; go_must (refine (HSm.out _ HBx.out).mono ?_); rintro e w1 ⟨rfl, hb⟩; replace HBk := Lib.hid (HBk.out.past hb); replace HBx := Lib.hid (pt HBx.out hb); (try (replace HI5 := Lib.hid ((HI5.out.below hb).more hb.size))); clear hb; (try clear e0 e1 x1); have e0 := HBk.out.cellAt 0 rfl; have e1 := HBk.out.cellAt 1 rfl; have x1 := HBk.out.lt))
    go_ret
    exact ⟨rfl, HBx.out⟩
  · rw [h] at hsm
    have HSm := Lib.hid hsm
    have hz1 : decide ((7 : Int) < (ss.length : Int)) = false := decide_eq_false (by omega)
    have hz2 : ¬ 7 < ss.length := by omega
    have hz3 : decide ((7 : Int) < (tk.length : Int)) = true := decide_eq_true (by omega)
    have hz4 : 7 < tk.length := hy
    clear hr hsm h
    go_enter Try.func14, Try.ntmps14
    go_wp2_with (first | (go_at_call 15; refine (awake_any _).mono ?_; rintro e w1 ⟨rfl, hb⟩; replace HBk := Lib.hid (HBk.out.past hb); replace HBx := Lib.hid (pt HBx.out hb); (try (replace HI5 := Lib.hid ((HI5.out.below hb).more hb.size))); clear hb; (try clear e0 e1 x1); have e0 := HBk.out.cellAt 0 rfl; have e1 := HBk.out.cellAt 1 rfl; have x1 := HBk.out.lt) | (go_at_call 16; go_must (refine (HSm.out _ HBx.out).mono ?_); rintro e w1 ⟨rfl, hb⟩; replace HBk := Lib.hid (HBk.out.past hb); replace HBx := Lib.hid (pt HBx.out hb); (try (replace HI5 := Lib.hid ((HI5.out.below hb).more hb.size))); clear hb; (try clear e0 e1 x1); have e0 := HBk.out.cellAt 0 rfl; have e1 := HBk.out.cellAt 1 rfl; have x1 := HBk.out.lt))
    go_ret
    exact ⟨rfl, HBx.out⟩
  · have hpe := fun W (hW : Below w.heap.size w W) => refPlanErr_any w.heap.size ts A c m W (hr.below hW) hW.size (few_small h)
    rw [h] at hsm
    have HSm := Lib.hid hsm
    have HPe := Lib.hid hpe
    have hz1 : decide ((7 : Int) < (ss.length : Int)) = false := decide_eq_false (by omega)
    have hz2 : ¬ 7 < ss.length := by omega
    have hz3 : decide ((7 : Int) < (tk.length : Int)) = false := decide_eq_false (by omega)
    have hz4 : ¬ 7 < tk.length := by omega
    have he1 : ((openV m ts).2 != 0) = true := by simpa using he
    clear hr hsm h hpe he
    generalize (openV m ts).2 = E at *
    go_enter Try.func14, Try.ntmps14
    go_wp2_with (first | (go_at_call 15; refine (awake_any _).mono ?_; rintro e w1 ⟨rfl, hb⟩; replace HBk := Lib.hid (HBk.out.past hb); replace HBx := Lib.hid (pt HBx.out hb); (try (replace HI5 := Lib.hid ((HI5.out.below hb).more hb.size))); clear hb; (try clear e0 e1 x1); have e0 := HBk.out.cellAt 0 rfl; have e1 := HBk.out.cellAt 1 rfl; have x1 := HBk.out.lt) | (go_at_call 16; go_must (refine (HSm.out _ HBx.out).mono ?_); rintro e w1 ⟨rfl, hb⟩; replace HBk := Lib.hid (HBk.out.past hb); replace HBx := Lib.hid (pt HBx.out hb); (try (replace HI5 := Lib.hid ((HI5.out.below hb).more hb.size))); clear hb; (try clear e0 e1 x1); have e0 := HBk.out.cellAt 0 rfl; have e1 := HBk.out.cellAt 1 rfl; have x1 := HBk.out.lt) | (go_at_call 17; go_must (refine (HPe.out _ HBx.out).mono ?_); rintro e w3 ⟨rfl, hb⟩; replace HBk := Lib.hid (HBk.out.past hb); replace HBx := Lib.hid (pt HBx.out hb); (try (replace HI5 := Lib.hid ((HI5.out.below hb).more hb.size))); clear hb; (try clear e0 e1 x1); have e0 := HBk.out.cellAt 0 rfl; have e1 := HBk.out.cellAt 1 rfl; have x1 := HBk.out.lt))
    go_ret
    exact ⟨rfl, HBx.out⟩

theorem ne_walk (A A2 A3 : Option Addr) (c c2 c3 : Nat) (m : Int) (ts : List Task) (ss tk : List Int) (w : World) (hr : TasksIn w.heap.size w A ts) (hr2 : IntsIn w.heap.size w A2 ss) (hr3 : IntsIn w.heap.size w A3 tk) :
    Calls Try.prog 14 #[.agg #[.int .i64 m, .slice A ts.length c], .slice A2 ss.length c2, .slice A3 tk.length c3] w fun e w' => e = .returned (.bool true) ∧ Below w.heap.size w w' := by
  cases h : fewB ts with
  | false => exact ne_skip A A2 A3 c c2 c3 m ts ss tk w hr (.inl h)
  | true =>
    by_cases hz : ss.length ≤ 7
    · by_cases hy : tk.length ≤ 7
      · by_cases h0 : (openV m ts).2 = 0
        · by_cases hn : ts.length = 0
          · have hT : ¬ tasksE ts tk = 0 := fun e => by
              obtain ⟨e1, _, e3, _⟩ := tasksE_zero.1 e
              obtain ⟨x, hx⟩ := List.exists_mem_of_ne_nil tk e1
              have := e3 x hx
              omega
            by_cases hD : (schedV ts ss).2 = 0
            · exact ne_none1 A A2 A3 c c2 c3 m ts ss tk w hr hr2 hr3 h hz hy h0 hn hD hT
            · exact ne_none0 A A2 A3 c c2 c3 m ts ss tk w hr hr2 hr3 h hz hy h0 hn hD hT
          · by_cases hD : (schedV ts ss).2 = 0
            · by_cases hT : tasksE ts tk = 0
              · exact ne_go A A2 A3 c c2 c3 m ts ss tk w hr hr2 hr3 h hz hy h0 (by omega) hD hT
              · exact ne_go10 A A2 A3 c c2 c3 m ts ss tk w hr hr2 hr3 h hz hy h0 (by omega) hD hT
            · by_cases hT : tasksE ts tk = 0
              · exact ne_go01 A A2 A3 c c2 c3 m ts ss tk w hr hr2 hr3 h hz hy h0 (by omega) hD hT
              · exact ne_go00 A A2 A3 c c2 c3 m ts ss tk w hr hr2 hr3 h hz hy h0 (by omega) hD hT
        · exact ne_skip A A2 A3 c c2 c3 m ts ss tk w hr (.inr (.inr (.inr ⟨h, hz, hy, h0⟩)))
      · exact ne_skip A A2 A3 c c2 c3 m ts ss tk w hr (.inr (.inr (.inl ⟨h, hz, by omega⟩)))
    · exact ne_skip A A2 A3 c c2 c3 m ts ss tk w hr (.inr (.inl ⟨h, by omega⟩))

set_option maxRecDepth 100000 in
theorem ne_lifted (os : Os) (started : os.Started) (H : Type) (enc : TypeId × Value → H) :
    ReturnsInHanded {} Try.checked os 14 .any (Rows.worksNoEarlierSpec.pre6 enc Try.prog Try.f14 Rows.worksNoEarlierRow.domain false) (Rows.worksNoEarlierSpec.post enc Try.prog Try.f14 false true false false) := by
  refine returnsInHanded_of_change (C := Try.checked) own_knob started (by kernel_rfl) Try.func14
    (ChangeSpec.witness6 (enc := enc) (C := Try.checked) false ⟨#[], #[.agg #[.int .i64 0, .slice none 0 0], .slice none 0 0, .slice none 0 0], []⟩ 8 (by kernel_rfl) (by kernel_rfl) (by kernel_rfl) (by kernel_rfl)) ?_
  intro W base args ds gs before hval0 hW _ _
  have hval : ∀ (j : Nat) t v, Try.f14.params[j]? = some t → args[j]? = some v → Value.okWide Try.prog W .any base t v := hval0
  have hW' := hW
  obtain ⟨p, q, hA0, hV, rfl, hfz, hnd⟩ := hW
  have hA : DataW.TrodAll enc Try.prog W 0 (fun _ => true) true Try.f14.params.toList args.toList ds p := hA0
  rw [Try.params14] at hA hval
  obtain ⟨v0, vs0, d0, ds0, p0, q0, hargs, rfl, rfl, h0, r0⟩ := trodAll_cons hA
  obtain ⟨v1, vs1, d1, ds1, p1, q1, rfl, rfl, rfl, h1, r1⟩ := trodAll_cons r0
  obtain ⟨v2, vs2, d2, ds2, p2, q2, rfl, rfl, rfl, h2, r2⟩ := trodAll_cons r1
  obtain ⟨rfl, rfl, rfl⟩ := trodAll_nil r2
  obtain rfl : args = #[v0, v1, v2] := by cases args; simp_all
  obtain ⟨m, A, c, ts, rfl, hi_, _, _⟩ := open_plan_arg (hval 0 _ v0 rfl rfl) h0
  obtain ⟨A2, c2, ss, rfl, hi2, _, _⟩ := open_ints_arg Try.underlying28 Try.underlying3 cells_int (hval 1 _ v1 rfl rfl) h1
  obtain ⟨A3, c3, tk, rfl, hi3, _, _⟩ := open_ints_arg Try.underlying28 Try.underlying3 cells_int (hval 2 _ v2 rfl rfl) h2
  clear hA0 hval0 hval hA h0 h1 h2 r0 r1 r2
  refine (ne_walk A A2 A3 c c2 c3 m ts ss tk W hi_ hi2 hi3).mono fun e W' ⟨he, hb⟩ => ?_
  subst he
  exact law_end laid_out (fun t ht => (by decide +kernel : ∀ t ∈ Try.f14.params.toList, Try.prog.readableRec t = true ∧ t < Try.prog.types.size) t ht) rfl Try.underlying4 rfl rfl hW' hb

theorem ne_over : Rows.worksNoEarlierRow.holds Try.pinned (OpenSpec.ofChange Rows.worksNoEarlierSpec) :=
  OpenClaim.holds_of_wide 14 Try.f14 rfl rfl rfl rfl rfl rfl rfl ⟨rfl, rfl, rfl, rfl, rfl⟩ rfl rfl rfl rfl rfl (by kernel_rfl) Try.func14 (by kernel_rfl)
    (of_decide_eq_true (by kernel_rfl)) (by unfold Func.isWrapper; first | (rw [if_pos (by decide +kernel)]; kernel_rfl) | (rw [if_neg (by decide +kernel)]; exact ⟨rfl, rfl⟩))
    (fun os started H enc _ => ne_lifted os started H enc)

theorem ne_holds : Rows.WorksNoEarlierSaid := ne_over
#print axioms ne_holds

end Go.Proofs.Ytlgioldmjohhlaa
