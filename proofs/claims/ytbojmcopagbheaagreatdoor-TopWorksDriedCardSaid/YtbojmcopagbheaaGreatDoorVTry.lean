/- Contract: the search goes on from the tasks started so far (the walk). -/
import Derived.Test.YtbojmcopagbheaaGreatDoorQA
namespace Go.Proofs.YtbojmcopagbheaaGreatDoor
open Go.RowKit Go.Shelf

/-- The search's contract while fuel f is left. -/
def TryAt (B : Nat) (ts : List Task) (sb rb tb c : Nat) (m : Int) (A : Option Addr) (tails : List Int) (f : Nat) : Prop :=
  ∀ (d : Nat) (st : Srch) (bv : Value) (w : World), d < 2 ^ ts.length → unset ts.length d < f → SrchOk ts f d st → SrchIn ts sb rb tb c m A tails st bv w → TasksIn B w A ts → (1 ≤ ts.length ∨ st.best = none) →
    Calls Tryz.prog 59 #[.pointer (some ⟨sb, 0, none⟩), .int .i64 (d : Int)] w fun e w' =>
      (∃ v, e = .returned v) ∧ (∃ bv', SrchIn ts sb rb tb c m A tails (tryF ts tails f d st) bv' w') ∧ SKeep sb rb w w'

theorem iarr_ints {W : World} {rb : Nat} {xs : List Int} (h : Blk W rb 3 (iarr xs)) : IntsIn W.heap.size W (some ⟨rb, 0, none⟩) xs :=
  .inr ⟨rb, 0, rfl, h.lt, fun j hj => by rw [Nat.zero_add]; exact h.cellAt j (iarr_get xs j hj)⟩

theorem best_of_own {w : World} {base n c sb rb : Nat} {A : Option Addr} {xs : List Int} (h : w.ownsRow base 3 1 (.slice A n c) n (xs.map (Value.int .i64))) (hn : xs.length = n) (h1 : sb < base) (h2 : rb < base) : BestIs sb rb w (some xs) (.slice A n c) := by
  refine ⟨A, c, by rw [hn], ?_⟩
  rcases h.2 with ⟨h3, h4⟩ | ⟨g, cap, cur, hv, hb, hh, _⟩
  · exact .inl (List.eq_nil_of_length_eq_zero (by omega))
  · injection hv with hA _ _
    rcases intsIn_of_own h with h5 | ⟨b, off, hA2, hb2, hc⟩
    · exact .inl h5
    · have hA3 := hA2
      rw [hA] at hA2
      injection hA2 with hA2
      injection hA2 with e1 e2
      subst e1 e2
      exact .inr ⟨g, 0, hA3, by omega, by omega, hb2, hc⟩

theorem leaf_end {ts : List Task} {sb rb tb c c2 : Nat} {m L : Int} {A A2 : Option Addr} {tails : List Int} {st : Srch} {bv v : Value} {w w1 w2 : World} (hne : sb ≠ rb) (hts : tb ≠ sb) (htr : tb ≠ rb) (o1 : st.starts.length = ts.length)
    (q0 : Blk w sb 109 (srchCells m A ts.length c tb rb st bv)) (q1 : Blk w rb 3 (iarr st.starts)) (q2 : Blk w tb 3 (iarr tails)) (hb1 : Below w.heap.size w w1) (hb2 : Below w1.heap.size w1 w2)
    (hown : w2.ownsRow w1.heap.size 3 1 (.slice A2 ts.length c2) ts.length (st.starts.map (Value.int .i64))) :
    (∃ u, Ending.returned v = .returned u) ∧ (∃ bv', SrchIn ts sb rb tb c m A tails { st with best := some st.starts, last := L } bv' ((w2.setCell ⟨sb, 8, none⟩ (.slice A2 ts.length c2)).setCell ⟨sb, 9, none⟩ (.int .i64 L))) ∧ SKeep sb rb w ((w2.setCell ⟨sb, 8, none⟩ (.slice A2 ts.length c2)).setCell ⟨sb, 9, none⟩ (.int .i64 L)) := by
  have hk : SKeep sb rb w2 ((w2.setCell ⟨sb, 8, none⟩ (.slice A2 ts.length c2)).setCell ⟨sb, 9, none⟩ (.int .i64 L)) := (SKeep.set_ (p := ⟨sb, 8, none⟩) (.inl rfl)).trans (SKeep.set_ (p := ⟨sb, 9, none⟩) (.inl rfl))
  have k0 := (q0.past hb1).past hb2
  have k1 := (q1.past hb1).past hb2
  have k2 := (q2.past hb1).past hb2
  refine ⟨⟨_, rfl⟩, ⟨.slice A2 ts.length c2, ?_, ?_, k2.skeep hk hts htr, ?_⟩, ((SKeep.of_below hb1).trans (SKeep.of_below hb2)).trans hk⟩
  · have := (k0.set_ 8 (.slice A2 ts.length c2)).set_ 9 (.int .i64 L)
    simpa [srchCells] using this
  · exact (k1.far (by dsimp only; omega)).far (by dsimp only; omega)
  · exact (best_of_own hown o1 ((q0.past hb1).lt) ((q1.past hb1).lt)).skeep hk

set_option maxHeartbeats 2000000 in
set_option maxRecDepth 100000 in
/-- All tasks have been started. -/
theorem try_leaf (B : Nat) (ts : List Task) (sb rb tb c : Nat) (m : Int) (A : Option Addr) (tails : List Int) (f d : Nat) (hp : PlanOk ts) (hl : LenOk ts) (hsb : B ≤ sb) (hne : sb ≠ rb) (hts : tb ≠ sb) (htr : tb ≠ rb)
    (st : Srch) (bv : Value) (w : World) (hd : d = 2 ^ ts.length - 1) (hok : SrchOk ts f d st) (hS : SrchIn ts sb rb tb c m A tails st bv w) (hr : TasksIn B w A ts) (hn : 1 ≤ ts.length ∨ st.best = none) :
    Calls Tryz.prog 59 #[.pointer (some ⟨sb, 0, none⟩), .int .i64 (d : Int)] w fun e w' =>
      (∃ v, e = .returned v) ∧ (∃ bv', SrchIn ts sb rb tb c m A tails (leafV ts st) bv' w') ∧ SKeep sb rb w w' := by
  have h7 := hp.1
  obtain ⟨F, hF⟩ : ∃ F, F = 2 ^ ts.length - 1 := ⟨_, rfl⟩
  have hF1 : 2 ^ ts.length = F + 1 := by have := Nat.two_pow_pos ts.length; omega
  have hF2 : F + 1 ≤ 128 := by rw [← hF1]; exact Nat.pow_le_pow_right (by decide) h7
  have eF : IntKind.i64.wrap (2 ^ ts.length) = (F : Int) + 1 := by
    rw [wrap_bit (by omega)]
    unfold bitV
    rw [hF1]; simp
  have hdF : d = F := by omega
  subst hdF
  obtain ⟨q0, q1, q2, q3⟩ := hS
  obtain ⟨o1, _, _, o4, _, o6, _, _⟩ := hok
  have hlast := fun W (hW : Below w.heap.size w W) => last_any B W.heap.size ts st.starts A (some ⟨rb, 0, none⟩) c ts.length m W (hr.below (hW.mono (Nat.le_trans hsb (Nat.le_of_lt q0.lt)))) (Nat.le_trans (Nat.le_trans hsb (Nat.le_of_lt q0.lt)) hW.size) (iarr_ints (q1.past hW)) (Nat.le_refl _) hl (Nat.le_of_eq o1) h7 (fun j => by have := o4 j; omega)
  rw [o1] at hlast
  have hclone := fun W (hW : Below w.heap.size w W) => clone_any W.heap.size (some ⟨rb, 0, none⟩) ts.length ts.length st.starts W (iarr_ints (q1.past hW)) o1 (Nat.le_refl _) (by omega)
  have HLast := Lib.hid hlast
  have HClone := Lib.hid hclone
  have HLeaf := Lib.hid (show leafV ts st = if st.best.isNone || decide (lastV ts st.starts < st.last) then { st with best := some st.starts, last := lastV ts st.starts } else st from rfl)
  unfold srchCells at q0
  have d0 := q0.cellAt 0 rfl
  have d1 := q0.cellAt 1 rfl
  have d3 := q0.cellAt 3 rfl
  have d8 := q0.cellAt 8 rfl
  have d9 := q0.cellAt 9 rfl
  have x0 := q0.lt
  clear hlast hclone hd hF hF1
  go_enter Tryz.func59, Tryz.ntmps59
  go_wp2
  refine region_below 9 follows_mixed (by kernel_rfl) ?_
  intro C hC
  simp only [List.take_succ_cons, List.take_zero, List.drop_succ_cons, List.drop_zero]
  repeat (first
    | ((with_reducible refine quiet_plain rfl (fun K hK => ?_)); (focus (apply quiet_val; (focus (intro w' hw; obtain ⟨hcq, hfq⟩ := bcell ((hC.out _).1 hw); go_simp; (first | done | rfl | (with_reducible exact call_below hC hw (HLast.out _ ((hC.out _).1 hw)))))); (simp only [Act.put, List.setIfInBounds_toArray, List.set_cons_succ, List.set_cons_zero]); (with_reducible refine hK _ ?_); clear hK K)))
    | ((with_reducible refine quiet_skip ?_ ?_); (focus (first | (simp [Region.wanted, yielded]; done) | (simp [Region.wanted, yielded, undef]; done))); simp only [Act.put, List.setIfInBounds_toArray, List.set_cons_succ, List.set_cons_zero])
    | ((with_reducible refine quiet_go ?_ (fun K hK => ?_)); (focus (first | (simp [Region.wanted, yielded]; done) | (simp [Region.wanted, yielded, undef]; done))); (focus (apply quiet_val; (focus (intro w' hw; obtain ⟨hcq, hfq⟩ := bcell ((hC.out _).1 hw); go_simp; (first | done | rfl | (with_reducible exact call_below hC hw (HLast.out _ ((hC.out _).1 hw)))))); (simp only [Act.put, List.setIfInBounds_toArray, List.set_cons_succ, List.set_cons_zero]); (with_reducible refine hK _ ?_); clear hK K))))
  refine wpQuiet_nil ?_
  intro w1 hb1
  replace hb1 := (hC.out _).1 hb1
  clear hC C
  obtain ⟨hc1, hf1⟩ := bcell hb1
  have g0 := q0.past hb1
  have e8 := g0.cellAt 8 rfl
  have e9 := g0.cellAt 9 rfl
  have e3 := g0.cellAt 3 rfl
  have y0 := g0.lt
  have z0 := (q1.past hb1).lt
  clear hc1 hf1 d0 d1 d3 d8 d9
  have hcl := HClone.out w1 hb1
  have hnil := fun (w : World) (A : Option Addr) (c : Nat) => Lib.run_eql_slice_nil (P := Tryz.prog) w 32 3 A ts.length c 0 0 Tryz.underlying32
  cases hbest : st.best with
  | none =>
    rw [hbest] at q3
    have q3' : bv = .slice none 0 0 := q3
    subst q3'
    have hleaf : leafV ts st = { st with best := some st.starts, last := lastV ts st.starts } := by rw [HLeaf.out, hbest]; rfl
    have HLf := Lib.hid hleaf
    clear HLeaf hleaf HLast HClone hnil
    have hnil0 := fun (w : World) => Lib.run_eql_slice_nil (P := Tryz.prog) w 32 3 none 0 0 0 0 Tryz.underlying32
    generalize lastV ts st.starts = L at *
    go_wp2_with (go_at_call 98; refine hcl.mono ?_; rintro e w2 ⟨v2, rfl, hown, hb2⟩; obtain ⟨A2, c2, rfl, hcc2, hcm2⟩ := own_form hown; have k0 := g0.past hb2; have f8 := k0.frozen 8; have f9 := k0.frozen 9; have m8 := k0.cellAt 8 rfl; have m9 := k0.cellAt 9 rfl; have z2 := k0.lt)
    refine bodyPost_ret (results_none rfl _ _ _) rfl ?_
    rw [HLf.out]
    exact leaf_end hne hts htr o1 q0 q1 q2 hb1 hb2 (by rw [o1] at hown; exact hown)
  | some b =>
    rw [hbest] at q3
    obtain ⟨A1, c1, rfl, q3'⟩ := q3
    obtain ⟨hbl, hbb⟩ := o6 b hbest
    have hn' : 1 ≤ ts.length := by
      rcases hn with h | h
      · exact h
      · rw [hbest] at h; cases h
    obtain ⟨g, off, rfl, hg1, hg2, hg3, hg4⟩ : ∃ g off, A1 = some ⟨g, off, none⟩ ∧ g ≠ sb ∧ g ≠ rb ∧ g < w.heap.size ∧ ∀ j, j < b.length → w.cell? ⟨g, off + j, none⟩ = some (.int .i64 (b.getD j 0)) := by
      rcases q3' with h | h
      · subst h; simp at hbl; omega
      · exact h
    have hq3 : BestIs sb rb w st.best (.slice (some ⟨g, off, none⟩) b.length c1) := by rw [hbest]; exact ⟨_, c1, rfl, q3'⟩
    have hnil1 := fun (w : World) => Lib.run_eql_slice_nil (P := Tryz.prog) w 32 3 (some ⟨g, off, none⟩) ts.length c1 0 0 Tryz.underlying32
    clear hnil q3' hg4 hbb HLast HClone
    by_cases hlt : lastV ts st.starts < st.last
    · have hleaf : leafV ts st = { st with best := some st.starts, last := lastV ts st.starts } := by rw [HLeaf.out, hbest]; simp [hlt]
      have HLf := Lib.hid hleaf
      clear HLeaf hleaf
      generalize lastV ts st.starts = L at *
      have hd : decide (L < st.last) = true := by simpa using hlt
      go_wp2_with (go_at_call 98; refine hcl.mono ?_; rintro e w2 ⟨v2, rfl, hown, hb2⟩; obtain ⟨A2, c2, rfl, hcc2, hcm2⟩ := own_form hown; have k0 := g0.past hb2; have f8 := k0.frozen 8; have f9 := k0.frozen 9; have m8 := k0.cellAt 8 rfl; have m9 := k0.cellAt 9 rfl; have z2 := k0.lt)
      refine bodyPost_ret (results_none rfl _ _ _) rfl ?_
      rw [HLf.out]
      exact leaf_end hne hts htr o1 q0 q1 q2 hb1 hb2 (by rw [o1] at hown; exact hown)
    · have hleaf : leafV ts st = st := by rw [HLeaf.out, hbest]; simp [hlt]
      have HLf := Lib.hid hleaf
      clear HLeaf hleaf
      generalize lastV ts st.starts = L at *
      have hd : decide (L < st.last) = false := by simpa using hlt
      go_wp2
      refine bodyPost_ret (results_none rfl _ _ _) rfl ?_
      rw [HLf.out]
      exact ⟨⟨_, rfl⟩, ⟨_, SrchIn.past ⟨q0, q1, q2, hq3⟩ hb1⟩, SKeep.of_below hb1⟩

end Go.Proofs.YtbojmcopagbheaaGreatDoor
