/- Contracts: the specification's HeadsOf and TailsOf: as often as there are tasks, all are raised. Valid plans. -/
import Derived.Test.YtlgioldmjohhlaaR1Heads
import Derived.Lib.MinMax
namespace Go.Proofs.Ytlgioldmjohhlaa
open Go.RowKit Go.Shelf

def raiseH (ts : List Task) (o : List Int) (i : Nat) : List Int := (ts.getD i default).after.foldl (relaxH ts i) (o.set i (max (o.getD i 0) (ts.getD i default).release))
def iterF (g : List Int → List Int) : Nat → List Int → List Int
  | 0, o => o
  | k + 1, o => iterF g k (g o)
def roundF (f : List Int → Nat → List Int) (n : Nat) (o : List Int) : List Int := (List.range n).foldl f o
def refHeadsV (ts : List Task) : List Int := iterF (roundF (raiseH ts) ts.length) (ts.length + 1) (List.replicate ts.length 0)
def refTailsV (ts : List Task) : List Int := iterF (roundF (tailsTask ts) ts.length) (ts.length + 1) (List.replicate ts.length 0)
theorem range_drop {n i : Nat} (h : i < n) : (List.range n).drop i = i :: (List.range n).drop (i + 1) := by
  rw [List.drop_eq_getElem_cons (by simpa using h)]
  simp
theorem out_zero (ts : List Task) : OutOk ts 0 (List.replicate ts.length 0) := out_start ts

set_option maxRecDepth 100000 in
set_option maxHeartbeats 4000000 in
theorem refHeads_any (B : Nat) (ts : List Task) (A : Option Addr) (c : Nat) (m : Int) (w : World) (hr : TasksIn B w A ts) (hB : B ≤ w.heap.size) (hp : PlanOk ts) (hl : LenOk ts) :
    Calls Try.prog 65 #[.agg #[.int .i64 m, .slice A ts.length c]] w fun e w' =>
      ∃ g, e = .returned (.slice (some ⟨g, 0, none⟩) ts.length ts.length) ∧ Blk w' g 3 (iarr (refHeadsV ts)) ∧ w.heap.size ≤ g ∧ Below w.heap.size w w' := by
  have h7 := hp.1
  have hmk := fun w => run_make_row' (P := Try.prog) 28 3 (.int .i64 0) 8 rfl int_info rfl .i64 .i64 ts.length (by omega) (by omega) w
  rw [made_zero] at hmk
  have HV := Lib.hid (show refHeadsV ts = iterF (roundF (raiseH ts) ts.length) (ts.length + 1) (List.replicate ts.length 0) from rfl)
  generalize refHeadsV ts = V at *
  have HR := Lib.hid hr
  have HP := Lib.hid hp
  have HL := Lib.hid hl
  have HO := Lib.hid (out_zero ts)
  have hpw : Below w.heap.size w ((w.alloc (.cells #[.int .i64 m, .slice A ts.length c] 24)).alloc (.cells (iarr (List.replicate ts.length 0)) 3)) := pa (pa pr)
  have r0 : Blk ((w.alloc (.cells #[.int .i64 m, .slice A ts.length c] 24)).alloc (.cells (iarr (List.replicate ts.length 0)) 3)) w.heap.size 24 #[.int .i64 m, .slice A ts.length c] := (Blk.newAt rfl).alloc
  have r1 : Blk ((w.alloc (.cells #[.int .i64 m, .slice A ts.length c] 24)).alloc (.cells (iarr (List.replicate ts.length 0)) 3)) (w.heap.size + 1) 3 (iarr (List.replicate ts.length 0)) := Blk.newAt (by simp)
  have HH := Lib.hid (And.intro hpw (And.intro r0 r1))
  clear hr hp hl hpw r0 r1
  go_enter Try.func65, Try.ntmps65
  go_wp2
  clear hmk
  go_loopw [4] (fun rv wr => ∃ (r : Nat) (o : List Int), rv = .int .i64 (r : Int) ∧ r ≤ ts.length + 1 ∧ iterF (roundF (raiseH ts) ts.length) (ts.length + 1 - r) o = V ∧ OutOk ts (560000 * r) o ∧ Blk wr w.heap.size 24 #[.int .i64 m, .slice A ts.length c] ∧ Blk wr (w.heap.size + 1) 3 (iarr o) ∧ Below w.heap.size w wr) (fun rv _ => ts.length + 1 - (intOf rv).toNat)
  case atStart => exact ⟨0, _, rfl, Nat.zero_le _, HV.out.symm, HO.out, HH.out.2.1, HH.out.2.2, HH.out.1⟩
  case round =>
    obtain ⟨r, o, rfl, hr1, hit, hok, s0, s1, hb⟩ := hrel
    clear HH HO HV
    have d0 := s0.cellAt 1 rfl
    have x0 := s0.lt
    by_cases hlt : r ≤ ts.length
    · have HIt := Lib.hid (show iterF (roundF (raiseH ts) ts.length) (ts.length + 1 - (r + 1)) (roundF (raiseH ts) ts.length o) = V by
        rw [show ts.length + 1 - r = (ts.length + 1 - (r + 1)) + 1 by omega] at hit
        exact hit)
      clear hit
      obtain ⟨O1, hO1⟩ : ∃ O1, O1 = roundF (raiseH ts) ts.length o := ⟨_, rfl⟩
      rw [← hO1] at HIt
      have HO1 := Lib.hid hO1
      have hle : (r : Int) ≤ (ts.length : Int) := by omega
      clear hO1
      go_wp2
      clear hle hr1
      go_loopw [5] (fun iv wr => ∃ (i : Nat) (o : List Int), iv = .int .i64 (i : Int) ∧ i ≤ ts.length ∧ ((List.range ts.length).drop i).foldl (raiseH ts) o = O1 ∧ OutOk ts (560000 * r + 80000 * i) o ∧ Blk wr w.heap.size 24 #[.int .i64 m, .slice A ts.length c] ∧ Blk wr (w.heap.size + 1) 3 (iarr o) ∧ Below w.heap.size w wr) (fun iv _ => ts.length - (intOf iv).toNat)
      case atStart => exact ⟨0, o, rfl, Nat.zero_le _, HO1.out.symm, hok, s0, s1, hb⟩
      case round =>
        clear s0 s1 hb d0 x0 hok HO1
        obtain ⟨i, o, rfl, hi1, hfo, hok, s0, s1, hb⟩ := hrel
        have d0 := s0.cellAt 1 rfl
        have x0 := s0.lt
        have x1 := s1.lt
        by_cases hi : i < ts.length
        · have HFo := Lib.hid (show ((List.range ts.length).drop (i + 1)).foldl (raiseH ts) (raiseH ts o i) = O1 by
            rw [range_drop hi] at hfo
            exact hfo)
          clear hfo
          obtain ⟨b, off, hA, hbB, hct⟩ := HR.out.at_ hi
          subst hA
          have hbw : b < wr.heap.size := Nat.lt_of_lt_of_le hbB (Nat.le_trans hB hb.size)
          obtain ⟨_, _, t2w, A3, c3, t3w, t4, t5⟩ := hct i hi
          have t2 : wr.cell? ⟨b, off + i * 4 + 2, none⟩ = some (.int .i64 (ts.getD i default).release) := ((bcell (hb.mono hB)).1 b (off + i * 4 + 2) hbB).trans t2w
          have t3 : wr.cell? ⟨b, off + i * 4 + 3, none⟩ = some (.slice A3 (ts.getD i default).after.length c3) := ((bcell (hb.mono hB)).1 b (off + i * 4 + 3) hbB).trans t3w
          have HT3 := Lib.hid (show w.cell? ⟨b, off + i * 4 + 3, none⟩ = some (.slice A3 (ts.getD i default).after.length c3) from t3w)
          clear t2w t3w
          obtain ⟨haft1, haft2⟩ := HP.out.2 i hi
          obtain ⟨_, _, hl3, hl4⟩ := HL.out i hi
          have HRel := Lib.hid (show ∀ o n, relaxH ts i o n = o.set i (max (o.getD i 0) (o.getD n.toNat 0 + (ts.getD n.toNat default).length)) from fun _ _ => rfl)
          have htask : raiseH ts o i = (ts.getD i default).after.foldl (relaxH ts i) (o.set i (max (o.getD i 0) (ts.getD i default).release)) := rfl
          have HCt := Lib.hid hct
          have HAft := Lib.hid haft2
          have HT4 := Lib.hid t4
          clear haft2 hct t4
          generalize (ts.getD i default).after = aft at *
          generalize (ts.getD i default).release = rls at *
          generalize relaxH ts i = rel at *
          have HTask := Lib.hid htask
          obtain ⟨O2, hO2⟩ : ∃ O2, O2 = raiseH ts o i := ⟨_, rfl⟩
          rw [← hO2] at HFo HTask
          clear htask hO2
          have hoi := hok.2 i
          have ci := s1.cellAt i (iarr_get o i (by rw [hok.1]; exact hi))
          obtain ⟨oi, hoi'⟩ : ∃ oi, oi = o.getD i 0 := ⟨_, rfl⟩
          rw [← hoi'] at hoi ci HTask
          clear hoi'
          have k2 : (0 : Int) ≤ (i : Int) := by omega
          have k3 : (i : Int) < (ts.length : Int) := by omega
          obtain ⟨z, hz⟩ : ∃ z, max oi rls = z := ⟨_, rfl⟩
          have hz0 : 0 ≤ z ∧ z ≤ ((560000 * r + 80000 * i + 10000 : Nat) : Int) := by rw [← hz]; omega
          rw [hz] at HTask
          go_wp2
          refine region_below 14 follows_mixed (by kernel_rfl) ?_
          intro C hC
          simp only [List.take_succ_cons, List.take_zero, List.drop_succ_cons, List.drop_zero]
          repeat (first
            | ((with_reducible refine quiet_plain rfl (fun K hK => ?_)); (focus (apply quiet_val; (focus (intro w' hw; obtain ⟨hcq, hfq⟩ := bcell ((hC.out _).1 hw); go_simp; (first | done | rfl))); (simp only [Act.put, List.setIfInBounds_toArray, List.set_cons_succ, List.set_cons_zero]); (with_reducible refine hK _ ?_); clear hK K)))
            | ((with_reducible refine quiet_skip ?_ ?_); (focus (simp [Region.wanted, yielded]; done)); simp only [Act.put, List.setIfInBounds_toArray, List.set_cons_succ, List.set_cons_zero])
            | ((with_reducible refine quiet_go ?_ (fun K hK => ?_)); (focus (simp [Region.wanted, yielded]; done)); (focus (apply quiet_val; (focus (intro w' hw; obtain ⟨hcq, hfq⟩ := bcell ((hC.out _).1 hw); go_simp; (first | done | rfl))); (simp only [Act.put, List.setIfInBounds_toArray, List.set_cons_succ, List.set_cons_zero]); (with_reducible refine hK _ ?_); clear hK K))))
          refine wpQuiet_nil ?_
          intro w1 hb1
          replace hb1 := (hC.out _).1 hb1
          clear hC C
          obtain ⟨hc1, hf1⟩ := bcell hb1
          have g1 := s1.past hb1
          have f1 := g1.frozen i
          have l1 := g1.lt
          have m1 := g1.cellAt i (iarr_get o i (by rw [hok.1]; exact hi))
          have g0 := s0.past hb1
          have t3' := ((bcell (hb1.mono (Nat.le_trans hB hb.size))).1 b (off + i * 4 + 3) hbB).trans t3
          have e0 := g0.cellAt 1 rfl
          have y0 := g0.lt
          have hbw1 : b < w1.heap.size := by have := hb1.size; omega
          have hbn : b ≠ w.heap.size + 1 := by omega
          clear hc1 hf1
          go_wp2
          have hv0 : Below w.heap.size w (w1.setCell ⟨w.heap.size + 1, i, none⟩ (.int .i64 z)) := (hb.trans (hb1.mono (Nat.le_of_lt x0))).setCell (p := ⟨w.heap.size + 1, i, none⟩) (Nat.le_succ _) _
          have v0 : Blk (w1.setCell ⟨w.heap.size + 1, i, none⟩ (.int .i64 z)) w.heap.size 24 #[.int .i64 m, .slice (some ⟨b, off, none⟩) ts.length c] := g0.far (by simp)
          have v1 : Blk (w1.setCell ⟨w.heap.size + 1, i, none⟩ (.int .i64 z)) (w.heap.size + 1) 3 (iarr (o.set i z)) := by rw [← iarr_set]; exact g1.set_ i _
          have hok0 : OutOk ts (560000 * r + 80000 * i + 10000) (o.set i z) := hok.set_ hz0.1 hz0.2
          clear t3' t2 t3 e0 y0 f1 l1 m1 g0 g1 hbw1 hb1 hz hz0 ci hoi hok s0 s1 hb d0 x0 x1
          have hb := hv0
          clear hv0
          generalize (w1.setCell ⟨w.heap.size + 1, i, none⟩ (.int .i64 z)) = W2 at *
          go_loopw [6] (fun jv wr => ∃ (j : Nat) (o2 : List Int), jv = .int .i64 (j : Int) ∧ j ≤ aft.length ∧ (aft.drop j).foldl rel o2 = O2 ∧ OutOk ts (560000 * r + 80000 * i + 10000 + 10000 * j) o2 ∧ Blk wr w.heap.size 24 #[.int .i64 m, .slice (some ⟨b, off, none⟩) ts.length c] ∧ Blk wr (w.heap.size + 1) 3 (iarr o2) ∧ Below w.heap.size w wr) (fun jv _ => aft.length - (intOf jv).toNat)
          case atStart => exact ⟨0, o.set i z, rfl, Nat.zero_le _, HTask.out.symm, hok0, v0, v1, hb⟩
          case round =>
            clear v0 v1 hb hok0 HTask
            obtain ⟨j, o2, rfl, hj, hfold, hok2, s0, s1, hb⟩ := hrel
            have d0 := s0.cellAt 1 rfl
            have x0 := s0.lt
            have x1 := s1.lt
            have hbw : b < wr.heap.size := Nat.lt_of_lt_of_le hbB (Nat.le_trans hB hb.size)
            have t3 := ((bcell (hb.mono hB)).1 b (off + i * 4 + 3) hbB).trans HT3.out
            by_cases hlt2 : j < aft.length
            · obtain ⟨b3, off3, hA3, hb3, hc3⟩ := HT4.out.at_ hlt2
              subst hA3
              have hcell := ((bcell (hb.mono hB)).1 b3 (off3 + j) hb3).trans (hc3 j hlt2)
              have hbd := HAft.out j hlt2
              have hdrop : aft.drop j = aft.getD j 0 :: aft.drop (j + 1) := by
                rw [List.drop_eq_getElem_cons hlt2]
                simp [List.getD, hlt2]
              generalize aft.getD j 0 = xj at *
              obtain ⟨y, rfl⟩ : ∃ y : Nat, xj = (y : Int) := ⟨xj.toNat, by omega⟩
              have hy : y < ts.length := by omega
              obtain ⟨_, t1w, _, _, _, _, _, _⟩ := HCt.out y hy
              have t1 := ((bcell (hb.mono hB)).1 b (off + y * 4 + 1) hbB).trans t1w
              obtain ⟨hl1, hl2, _, _⟩ := HL.out y hy
              have hoy := hok2.2 y
              have hoi := hok2.2 i
              have cy := s1.cellAt y (iarr_get o2 y (by rw [hok2.1]; exact hy))
              have ci := s1.cellAt i (iarr_get o2 i (by rw [hok2.1]; exact hi))
              have hstep := HRel.out o2 (y : Int)
              rw [Int.toNat_natCast] at hstep
              have HFold := Lib.hid (show (aft.drop (j + 1)).foldl rel (rel o2 (y : Int)) = O2 by rw [hdrop] at hfold; exact hfold)
              have HStep := Lib.hid hstep
              have hbw3 : b3 < wr.heap.size := Nat.lt_of_lt_of_le hb3 (Nat.le_trans hB hb.size)
              clear hdrop hc3 hstep t1w hfold
              generalize (ts.getD y default).length = len at *
              obtain ⟨oy, hoy'⟩ : ∃ oy, oy = o2.getD y 0 := ⟨_, rfl⟩
              obtain ⟨oi, hoi'⟩ : ∃ oi, oi = o2.getD i 0 := ⟨_, rfl⟩
              rw [← hoy'] at hoy cy HStep
              rw [← hoi'] at hoi ci HStep
              clear hoy' hoi'
              have e1 : IntKind.i64.wrap (oy + len) = oy + len := IntWalk.i64_in _ (by omega)
              have y0 : (0 : Int) ≤ (y : Int) := by omega
              have y1 : (y : Int) < (ts.length : Int) := by omega
              have j0 : (0 : Int) ≤ (j : Int) := by omega
              have j1 : (j : Int) < (aft.length : Int) := by omega
              obtain ⟨z, hz⟩ : ∃ z, max oi (oy + len) = z := ⟨_, rfl⟩
              have hz0 : 0 ≤ z ∧ z ≤ ((560000 * r + 80000 * i + 10000 + 10000 * j + 10000 : Nat) : Int) := by rw [← hz]; omega
              rw [hz] at HStep
              go_wp2
              refine region_below 19 follows_mixed (by kernel_rfl) ?_
              intro C hC
              simp only [List.take_succ_cons, List.take_zero, List.drop_succ_cons, List.drop_zero]
              repeat (first
                | ((with_reducible refine quiet_plain rfl (fun K hK => ?_)); (focus (apply quiet_val; (focus (intro w' hw; obtain ⟨hcq, hfq⟩ := bcell ((hC.out _).1 hw); go_simp; (first | done | rfl))); (simp only [Act.put, List.setIfInBounds_toArray, List.set_cons_succ, List.set_cons_zero]); (with_reducible refine hK _ ?_); clear hK K)))
                | ((with_reducible refine quiet_skip ?_ ?_); (focus (simp [Region.wanted, yielded]; done)); simp only [Act.put, List.setIfInBounds_toArray, List.set_cons_succ, List.set_cons_zero])
                | ((with_reducible refine quiet_go ?_ (fun K hK => ?_)); (focus (simp [Region.wanted, yielded]; done)); (focus (apply quiet_val; (focus (intro w' hw; obtain ⟨hcq, hfq⟩ := bcell ((hC.out _).1 hw); go_simp; (first | done | rfl))); (simp only [Act.put, List.setIfInBounds_toArray, List.set_cons_succ, List.set_cons_zero]); (with_reducible refine hK _ ?_); clear hK K))))
              refine wpQuiet_nil ?_
              intro w1 hb1
              replace hb1 := (hC.out _).1 hb1
              clear hC C
              obtain ⟨hc1, hf1⟩ := bcell hb1
              have g1 := s1.past hb1
              have f1 := g1.frozen i
              have l1 := g1.lt
              have m1 := g1.cellAt i (iarr_get o2 i (by rw [hok2.1]; exact hi))
              have g0 := s0.past hb1
              clear hc1 hf1
              go_wp2
              have hrow : Blk (w1.setCell ⟨w.heap.size + 1, i, none⟩ (.int .i64 z)) (w.heap.size + 1) 3 (iarr (o2.set i z)) := by rw [← iarr_set]; exact g1.set_ i _
              go_roundw
              case rel => exact ⟨j + 1, o2.set i z, by go_num, by omega, by rw [← HStep.out]; exact HFold.out, (hok2.set_ hz0.1 hz0.2).more (by omega), g0.far (by simp), hrow, (hb.trans (hb1.mono (Nat.le_of_lt x0))).setCell (p := ⟨w.heap.size + 1, i, none⟩) (Nat.le_succ _) _⟩
              case measure => simp [intOf]; omega
            · have hje : j = aft.length := by omega
              have hres : o2 = O2 := by rw [← hfold, hje]; simp
              go_wp2
              go_roundw
              case rel => exact ⟨i + 1, O2, by go_num, by omega, HFo.out, by rw [← hres]; exact hok2.more (by omega), s0, by rw [← hres]; exact s1, hb⟩
              case measure => simp [intOf]; omega
        · have hres : o = O1 := by rw [← hfo, List.drop_eq_nil_of_le (by simp; omega)]; rfl
          go_wp2
          go_roundw
          case rel => exact ⟨r + 1, O1, by go_num, by omega, HIt.out, by rw [← hres]; exact hok.more (by omega), s0, by rw [← hres]; exact s1, hb⟩
          case measure => simp [intOf]; omega
    · have hres : o = V := by rw [← hit, show ts.length + 1 - r = 0 by omega]; rfl
      have hle : ¬ (r : Int) ≤ (ts.length : Int) := by omega
      subst hres
      go_wp2
      go_ret
      exact ⟨w.heap.size + 1, rfl, s1, by omega, hb⟩

set_option maxRecDepth 100000 in
set_option maxHeartbeats 4000000 in
theorem refTails_any (B : Nat) (ts : List Task) (A : Option Addr) (c : Nat) (m : Int) (w : World) (hr : TasksIn B w A ts) (hB : B ≤ w.heap.size) (hp : PlanOk ts) (hl : LenOk ts) :
    Calls Try.prog 66 #[.agg #[.int .i64 m, .slice A ts.length c]] w fun e w' =>
      ∃ g, e = .returned (.slice (some ⟨g, 0, none⟩) ts.length ts.length) ∧ Blk w' g 3 (iarr (refTailsV ts)) ∧ w.heap.size ≤ g ∧ Below w.heap.size w w' := by
  have h7 := hp.1
  have hmk := fun w => run_make_row' (P := Try.prog) 28 3 (.int .i64 0) 8 rfl int_info rfl .i64 .i64 ts.length (by omega) (by omega) w
  rw [made_zero] at hmk
  have HV := Lib.hid (show refTailsV ts = iterF (roundF (tailsTask ts) ts.length) (ts.length + 1) (List.replicate ts.length 0) from rfl)
  generalize refTailsV ts = V at *
  have HR := Lib.hid hr
  have HP := Lib.hid hp
  have HL := Lib.hid hl
  have HO := Lib.hid (out_zero ts)
  have hpw : Below w.heap.size w ((w.alloc (.cells #[.int .i64 m, .slice A ts.length c] 24)).alloc (.cells (iarr (List.replicate ts.length 0)) 3)) := pa (pa pr)
  have r0 : Blk ((w.alloc (.cells #[.int .i64 m, .slice A ts.length c] 24)).alloc (.cells (iarr (List.replicate ts.length 0)) 3)) w.heap.size 24 #[.int .i64 m, .slice A ts.length c] := (Blk.newAt rfl).alloc
  have r1 : Blk ((w.alloc (.cells #[.int .i64 m, .slice A ts.length c] 24)).alloc (.cells (iarr (List.replicate ts.length 0)) 3)) (w.heap.size + 1) 3 (iarr (List.replicate ts.length 0)) := Blk.newAt (by simp)
  have HH := Lib.hid (And.intro hpw (And.intro r0 r1))
  clear hr hp hl hpw r0 r1
  go_enter Try.func66, Try.ntmps66
  go_wp2
  clear hmk
  go_loopw [4] (fun rv wr => ∃ (r : Nat) (o : List Int), rv = .int .i64 (r : Int) ∧ r ≤ ts.length + 1 ∧ iterF (roundF (tailsTask ts) ts.length) (ts.length + 1 - r) o = V ∧ OutOk ts (560000 * r) o ∧ Blk wr w.heap.size 24 #[.int .i64 m, .slice A ts.length c] ∧ Blk wr (w.heap.size + 1) 3 (iarr o) ∧ Below w.heap.size w wr) (fun rv _ => ts.length + 1 - (intOf rv).toNat)
  case atStart => exact ⟨0, _, rfl, Nat.zero_le _, HV.out.symm, HO.out, HH.out.2.1, HH.out.2.2, HH.out.1⟩
  case round =>
    obtain ⟨r, o, rfl, hr1, hit, hok, s0, s1, hb⟩ := hrel
    clear HH HO HV
    have d0 := s0.cellAt 1 rfl
    have x0 := s0.lt
    by_cases hlt : r ≤ ts.length
    · have HIt := Lib.hid (show iterF (roundF (tailsTask ts) ts.length) (ts.length + 1 - (r + 1)) (roundF (tailsTask ts) ts.length o) = V by
        rw [show ts.length + 1 - r = (ts.length + 1 - (r + 1)) + 1 by omega] at hit
        exact hit)
      clear hit
      obtain ⟨O1, hO1⟩ : ∃ O1, O1 = roundF (tailsTask ts) ts.length o := ⟨_, rfl⟩
      rw [← hO1] at HIt
      have HO1 := Lib.hid hO1
      have hle : (r : Int) ≤ (ts.length : Int) := by omega
      clear hO1
      go_wp2
      clear hle hr1
      go_loopw [5] (fun iv wr => ∃ (i : Nat) (o : List Int), iv = .int .i64 (i : Int) ∧ i ≤ ts.length ∧ ((List.range ts.length).drop i).foldl (tailsTask ts) o = O1 ∧ OutOk ts (560000 * r + 80000 * i) o ∧ Blk wr w.heap.size 24 #[.int .i64 m, .slice A ts.length c] ∧ Blk wr (w.heap.size + 1) 3 (iarr o) ∧ Below w.heap.size w wr) (fun iv _ => ts.length - (intOf iv).toNat)
      case atStart => exact ⟨0, o, rfl, Nat.zero_le _, HO1.out.symm, hok, s0, s1, hb⟩
      case round =>
        clear s0 s1 hb d0 x0 hok HO1
        obtain ⟨i, o, rfl, hi1, hfo, hok, s0, s1, hb⟩ := hrel
        have d0 := s0.cellAt 1 rfl
        have x0 := s0.lt
        have x1 := s1.lt
        by_cases hi : i < ts.length
        · have HFo := Lib.hid (show ((List.range ts.length).drop (i + 1)).foldl (tailsTask ts) (tailsTask ts o i) = O1 by
            rw [range_drop hi] at hfo
            exact hfo)
          clear hfo
          obtain ⟨b, off, hA, hbB, hct⟩ := HR.out.at_ hi
          subst hA
          have hbw : b < wr.heap.size := Nat.lt_of_lt_of_le hbB (Nat.le_trans hB hb.size)
          obtain ⟨_, t1w, _, A3, c3, t3w, t4, t5⟩ := hct i hi
          have HT1 := Lib.hid (show w.cell? ⟨b, off + i * 4 + 1, none⟩ = some (.int .i64 (ts.getD i default).length) from t1w)
          have HT3 := Lib.hid (show w.cell? ⟨b, off + i * 4 + 3, none⟩ = some (.slice A3 (ts.getD i default).after.length c3) from t3w)
          clear t1w t3w
          obtain ⟨haft1, haft2⟩ := HP.out.2 i hi
          obtain ⟨hl1, hl2, _, _⟩ := HL.out i hi
          have HRel := Lib.hid (show ∀ o n, relaxT ts i o n = o.set n.toNat (max (o.getD n.toNat 0) ((ts.getD i default).length + o.getD i 0)) from fun _ _ => rfl)
          have htask : tailsTask ts o i = (ts.getD i default).after.foldl (relaxT ts i) o := rfl
          have HAft := Lib.hid haft2
          have HT4 := Lib.hid t4
          clear haft2 hct t4
          generalize (ts.getD i default).after = aft at *
          generalize (ts.getD i default).length = len at *
          generalize relaxT ts i = rel at *
          have HTask := Lib.hid htask
          obtain ⟨O2, hO2⟩ : ∃ O2, O2 = tailsTask ts o i := ⟨_, rfl⟩
          rw [← hO2] at HFo HTask
          clear htask hO2
          have k2 : (0 : Int) ≤ (i : Int) := by omega
          have k3 : (i : Int) < (ts.length : Int) := by omega
          go_wp2
          go_loopw [6] (fun jv wr => ∃ (j : Nat) (o2 : List Int), jv = .int .i64 (j : Int) ∧ j ≤ aft.length ∧ (aft.drop j).foldl rel o2 = O2 ∧ OutOk ts (560000 * r + 80000 * i + 10000 * j) o2 ∧ Blk wr w.heap.size 24 #[.int .i64 m, .slice (some ⟨b, off, none⟩) ts.length c] ∧ Blk wr (w.heap.size + 1) 3 (iarr o2) ∧ Below w.heap.size w wr) (fun jv _ => aft.length - (intOf jv).toNat)
          case atStart => exact ⟨0, o, rfl, Nat.zero_le _, HTask.out.symm, hok, s0, s1, hb⟩
          case round =>
            clear s0 s1 hb hok HTask d0 x0 x1 hbw
            obtain ⟨j, o2, rfl, hj, hfold, hok2, s0, s1, hb⟩ := hrel
            have d0 := s0.cellAt 1 rfl
            have x0 := s0.lt
            have x1 := s1.lt
            have hbw : b < wr.heap.size := Nat.lt_of_lt_of_le hbB (Nat.le_trans hB hb.size)
            have t3 := ((bcell (hb.mono hB)).1 b (off + i * 4 + 3) hbB).trans HT3.out
            by_cases hlt2 : j < aft.length
            · obtain ⟨b3, off3, hA3, hb3, hc3⟩ := HT4.out.at_ hlt2
              subst hA3
              have hcell := ((bcell (hb.mono hB)).1 b3 (off3 + j) hb3).trans (hc3 j hlt2)
              have hbd := HAft.out j hlt2
              have hdrop : aft.drop j = aft.getD j 0 :: aft.drop (j + 1) := by
                rw [List.drop_eq_getElem_cons hlt2]
                simp [List.getD, hlt2]
              generalize aft.getD j 0 = xj at *
              obtain ⟨y, rfl⟩ : ∃ y : Nat, xj = (y : Int) := ⟨xj.toNat, by omega⟩
              have hy : y < ts.length := by omega
              have t1 := ((bcell (hb.mono hB)).1 b (off + i * 4 + 1) hbB).trans HT1.out
              have hoy := hok2.2 y
              have hoi := hok2.2 i
              have cy := s1.cellAt y (iarr_get o2 y (by rw [hok2.1]; exact hy))
              have ci := s1.cellAt i (iarr_get o2 i (by rw [hok2.1]; exact hi))
              have hstep := HRel.out o2 (y : Int)
              rw [Int.toNat_natCast] at hstep
              have HFold := Lib.hid (show (aft.drop (j + 1)).foldl rel (rel o2 (y : Int)) = O2 by rw [hdrop] at hfold; exact hfold)
              have HStep := Lib.hid hstep
              have hbw3 : b3 < wr.heap.size := Nat.lt_of_lt_of_le hb3 (Nat.le_trans hB hb.size)
              clear hdrop hc3 hstep hfold
              obtain ⟨oy, hoy'⟩ : ∃ oy, oy = o2.getD y 0 := ⟨_, rfl⟩
              obtain ⟨oi, hoi'⟩ : ∃ oi, oi = o2.getD i 0 := ⟨_, rfl⟩
              rw [← hoy'] at hoy cy HStep
              rw [← hoi'] at hoi ci HStep
              clear hoy' hoi'
              have e1 : IntKind.i64.wrap (len + oi) = len + oi := IntWalk.i64_in _ (by omega)
              have y0 : (0 : Int) ≤ (y : Int) := by omega
              have y1 : (y : Int) < (ts.length : Int) := by omega
              have j0 : (0 : Int) ≤ (j : Int) := by omega
              have j1 : (j : Int) < (aft.length : Int) := by omega
              obtain ⟨z, hz⟩ : ∃ z, max oy (len + oi) = z := ⟨_, rfl⟩
              have hz0 : 0 ≤ z ∧ z ≤ ((560000 * r + 80000 * i + 10000 * j + 10000 : Nat) : Int) := by rw [← hz]; omega
              rw [hz] at HStep
              go_wp2
              refine region_below 19 follows_mixed (by kernel_rfl) ?_
              intro C hC
              simp only [List.take_succ_cons, List.take_zero, List.drop_succ_cons, List.drop_zero]
              repeat (first
                | ((with_reducible refine quiet_plain rfl (fun K hK => ?_)); (focus (apply quiet_val; (focus (intro w' hw; obtain ⟨hcq, hfq⟩ := bcell ((hC.out _).1 hw); go_simp; (first | done | rfl))); (simp only [Act.put, List.setIfInBounds_toArray, List.set_cons_succ, List.set_cons_zero]); (with_reducible refine hK _ ?_); clear hK K)))
                | ((with_reducible refine quiet_skip ?_ ?_); (focus (simp [Region.wanted, yielded]; done)); simp only [Act.put, List.setIfInBounds_toArray, List.set_cons_succ, List.set_cons_zero])
                | ((with_reducible refine quiet_go ?_ (fun K hK => ?_)); (focus (simp [Region.wanted, yielded]; done)); (focus (apply quiet_val; (focus (intro w' hw; obtain ⟨hcq, hfq⟩ := bcell ((hC.out _).1 hw); go_simp; (first | done | rfl))); (simp only [Act.put, List.setIfInBounds_toArray, List.set_cons_succ, List.set_cons_zero]); (with_reducible refine hK _ ?_); clear hK K))))
              refine wpQuiet_nil ?_
              intro w1 hb1
              replace hb1 := (hC.out _).1 hb1
              clear hC C
              obtain ⟨hc1, hf1⟩ := bcell hb1
              have g1 := s1.past hb1
              have f1 := g1.frozen y
              have l1 := g1.lt
              have m1 := g1.cellAt y (iarr_get o2 y (by rw [hok2.1]; exact hy))
              have g0 := s0.past hb1
              clear hc1 hf1
              go_wp2
              have hrow : Blk (w1.setCell ⟨w.heap.size + 1, y, none⟩ (.int .i64 z)) (w.heap.size + 1) 3 (iarr (o2.set y z)) := by rw [← iarr_set]; exact g1.set_ y _
              go_roundw
              case rel => exact ⟨j + 1, o2.set y z, by go_num, by omega, by rw [← HStep.out]; exact HFold.out, (hok2.set_ hz0.1 hz0.2).more (by omega), g0.far (by simp), hrow, (hb.trans (hb1.mono (Nat.le_of_lt x0))).setCell (p := ⟨w.heap.size + 1, y, none⟩) (Nat.le_succ _) _⟩
              case measure => simp [intOf]; omega
            · have hje : j = aft.length := by omega
              have hres : o2 = O2 := by rw [← hfold, hje]; simp
              go_wp2
              go_roundw
              case rel => exact ⟨i + 1, O2, by go_num, by omega, HFo.out, by rw [← hres]; exact hok2.more (by omega), s0, by rw [← hres]; exact s1, hb⟩
              case measure => simp [intOf]; omega
        · have hres : o = O1 := by rw [← hfo, List.drop_eq_nil_of_le (by simp; omega)]; rfl
          go_wp2
          go_roundw
          case rel => exact ⟨r + 1, O1, by go_num, by omega, HIt.out, by rw [← hres]; exact hok.more (by omega), s0, by rw [← hres]; exact s1, hb⟩
          case measure => simp [intOf]; omega
    · have hres : o = V := by rw [← hit, show ts.length + 1 - r = 0 by omega]; rfl
      have hle : ¬ (r : Int) ≤ (ts.length : Int) := by omega
      subst hres
      go_wp2
      go_ret
      exact ⟨w.heap.size + 1, rfl, s1, by omega, hb⟩

end Go.Proofs.Ytlgioldmjohhlaa
