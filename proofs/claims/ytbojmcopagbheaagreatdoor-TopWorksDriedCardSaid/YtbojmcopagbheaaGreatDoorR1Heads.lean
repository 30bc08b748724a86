/- Contract: the heads of all tasks of a valid plan. -/
import Derived.Test.YtbojmcopagbheaaGreatDoorQA
import Derived.Test.YtbojmcopagbheaaGreatDoorR0Order
namespace Go.Proofs.YtbojmcopagbheaaGreatDoor
open Go.RowKit Go.Shelf
attribute [local go_sem] Oper.semAt_some

/-- One step: the head of i, from task n on which it depends. -/
def relaxH (ts : List Task) (i : Nat) (out : List Int) (n : Int) : List Int := out.set i (max (out.getD i 0) (out.getD n.toNat 0 + (ts.getD n.toNat default).length))
def headsTask (ts : List Task) (out : List Int) (i : Nat) : List Int := (ts.getD i default).after.foldl (relaxH ts i) (out.set i (ts.getD i default).release)
def headsV (ts : List Task) : List Int := (orderV ts).foldl (headsTask ts) (List.replicate ts.length 0)
def outHV (ts : List Task) (pre : List Nat) : List Int := pre.foldl (headsTask ts) (List.replicate ts.length 0)
theorem outH_start (ts : List Task) : OutOk ts (80000 * ([] : List Nat).length) (outHV ts []) := out_start ts

set_option maxRecDepth 100000 in
set_option maxHeartbeats 2000000 in
theorem heads_in (B n : Nat) (ts : List Task) (A : Option Addr) (c : Nat) (m : Int) (w : World) (h1 : 2 ≤ n) (hr : TasksIn B w A ts) (hB : B ≤ w.heap.size) (ha : AcyOk ts) (hl : LenOk ts) :
    CallsIn Fence.wide n Tryz.prog 101 #[.agg #[.int .i64 m, .slice A ts.length c]] w fun e w' =>
      ∃ g, e = .returned (.slice (some ⟨g, 0, none⟩) ts.length ts.length) ∧ Blk w' g 3 (iarr (headsV ts)) ∧ w.heap.size ≤ g ∧ Below w.heap.size w w' := by
  have h7 := ha.1.1
  have hlen := Nat.le_trans (order_len ts) h7
  have h1' : 1 ≤ n := by omega
  have hmk := fun w => run_make_row' (P := Tryz.prog) 32 3 (.int .i64 0) 8 rfl int_info rfl .i64 .i64 ts.length (by omega) (by omega) w
  rw [made_zero] at hmk
  refine callsIn_of_wp_marks Tryz.func101 rfl trivial ?_ rfl
  simp only [Tryz.ntmps101, List.size_toArray, List.length_cons, List.length_nil, Nat.reduceAdd, Nat.reduceSub, Array.replicate_succ, Array.replicate_zero, List.push_toArray, List.append_toArray, List.nil_append, List.cons_append]
  gi_wp2
  have hp : Below w.heap.size w (((w.alloc (.cells #[.int .i64 m, .slice A ts.length c] 102)).alloc (.cells (iarr (List.replicate ts.length 0)) 3)).alloc (.cells #[.slice (some ⟨w.heap.size + 1, 0, none⟩) ts.length ts.length] 32)) := pa (pa (pa pr))
  have r0 : Blk (((w.alloc (.cells #[.int .i64 m, .slice A ts.length c] 102)).alloc (.cells (iarr (List.replicate ts.length 0)) 3)).alloc (.cells #[.slice (some ⟨w.heap.size + 1, 0, none⟩) ts.length ts.length] 32)) w.heap.size 102 #[.int .i64 m, .slice A ts.length c] := ((Blk.newAt rfl).alloc).alloc
  have r1 : Blk (((w.alloc (.cells #[.int .i64 m, .slice A ts.length c] 102)).alloc (.cells (iarr (List.replicate ts.length 0)) 3)).alloc (.cells #[.slice (some ⟨w.heap.size + 1, 0, none⟩) ts.length ts.length] 32)) (w.heap.size + 1) 3 (iarr (List.replicate ts.length 0)) := (Blk.newAt (by simp)).alloc
  have r2 : Blk (((w.alloc (.cells #[.int .i64 m, .slice A ts.length c] 102)).alloc (.cells (iarr (List.replicate ts.length 0)) 3)).alloc (.cells #[.slice (some ⟨w.heap.size + 1, 0, none⟩) ts.length ts.length] 32)) (w.heap.size + 1 + 1) 32 #[.slice (some ⟨w.heap.size + 1, 0, none⟩) ts.length ts.length] := Blk.newAt (by simp)
  have hs0 : (((w.alloc (.cells #[.int .i64 m, .slice A ts.length c] 102)).alloc (.cells (iarr (List.replicate ts.length 0)) 3)).alloc (.cells #[.slice (some ⟨w.heap.size + 1, 0, none⟩) ts.length ts.length] 32)).heap.size = w.heap.size + 1 + 1 + 1 := by simp
  generalize (((w.alloc (.cells #[.int .i64 m, .slice A ts.length c] 102)).alloc (.cells (iarr (List.replicate ts.length 0)) 3)).alloc (.cells #[.slice (some ⟨w.heap.size + 1, 0, none⟩) ts.length ts.length] 32)) = W at *
  have hTW : TasksIn B W A ts := hr.below (hp.mono hB)
  have hnb : w.heap.size + 1 ≠ w.heap.size := by omega
  refine rangeFunc_law h1' (gf := 96) (fb := #[.agg #[.int .i64 m, .slice A ts.length c]]) (lb := #[]) rfl (enters_of Tryz.func96 (by kernel_rfl) rfl)
    (order_seq2 B (n - 1) ts A c m W hTW (by omega) ha) (Below.refl _ _)
    (fun h k => ⟨h.1.trans k.1, fun i cs q => k.2 i cs (h.2 i cs q)⟩)
    (fun W A l o o' hl hl2 ho hc => ⟨⟨rfl, rfl, rfl, by simp, fun k hk => World.putObj_heap_other (by omega)⟩, fun k cs q => by
      by_cases e : k = l
      · subst e
        rw [show A.heap[k]? = _ from q] at ho
        cases ho
        cases hc
      · exact (World.putObj_heap_other e).trans q⟩)
    (fun x A l o o' ho hc hp => hp) (fun x => rfl)
    (fun pre V => OutOk ts (80000 * pre.length) (outHV ts pre) ∧ Blk V w.heap.size 102 #[.int .i64 m, .slice A ts.length c] ∧ Blk V (w.heap.size + 1) 3 (iarr (outHV ts pre)) ∧ Blk V (w.heap.size + 1 + 1) 32 #[.slice (some ⟨w.heap.size + 1, 0, none⟩) ts.length ts.length] ∧ Below w.heap.size w V)
    (fun _ _ _ => False)
    (fun s V V' row hs hg hrr => ⟨hs.1, own_blk _ _ _ _ s V V' row hs.2.1 hg hrr, own_blk _ _ _ _ s V V' row hs.2.2.1 hg hrr, own_blk _ _ _ _ s V V' row hs.2.2.2.1 hg hrr, ownFrom_below (Nat.le_refl _) hp.size s V V' row hs.2.2.2.2 hg hrr⟩)
    (fun _ _ _ _ _ hs _ _ => hs)
    ⟨outH_start ts, r0, r1, r2, hp⟩
    (fun x => { tmps := #[.agg #[.int .i64 m, .slice A ts.length c], .pointer (some ⟨w.heap.size, 0, none⟩), .slice none 0 0, .pointer (some ⟨w.heap.size + 1 + 1, 0, none⟩), .int .i64 (x : Int), undef, undef, .pointer (some ⟨w.heap.size, 0, none⟩), .pointer (some ⟨w.heap.size, 1, none⟩), .slice A ts.length c, .int .i64 (ts.length : Int), .slice (some ⟨w.heap.size + 1, 0, none⟩) ts.length ts.length,
      .agg #[.int .i64 m, .slice A ts.length c], .func (.func 96) #[.agg #[.int .i64 m, .slice A ts.length c]] #[], .int .i64 (x : Int), undef, undef, undef, undef, undef, undef, undef, undef, undef, undef, undef, undef, undef, undef, undef, undef, undef, undef, undef, undef, undef, undef, undef, undef, undef, undef, undef, undef, undef, undef, undef, undef, undef, undef, undef, undef, undef, undef, undef, undef, undef, undef, undef, undef], defers := [] }) ?assign ?body ?done ?stop
  case assign =>
    intro l x V K hK
    unfold ordEnc
    gi_wp2
    exact hK
  case body =>
    rintro l pre i Wb V hWb ⟨hok, p0, p1, p2, hp⟩ hmem hlt
    have hi : i < ts.length := hmem
    have hnew : outHV ts (pre ++ [i]) = headsTask ts (outHV ts pre) i := by simp [outHV]
    have HNew := Lib.hid hnew
    have HW := Lib.hid hWb
    generalize outHV ts pre = out at *
    obtain ⟨b, off, hA, hbB, hct⟩ := (hr.below (hp.mono hB)).at_ hi
    subst hA
    have hbw := Nat.lt_of_lt_of_le hbB (Nat.le_trans hB hp.size)
    obtain ⟨_, _, t2, A3, c3, t3, t4, t5⟩ := hct i hi
    obtain ⟨haft1, haft2⟩ := ha.1.2 i hi
    obtain ⟨_, _, hl3, hl4⟩ := hl i hi
    have hrel : ∀ o n, relaxH ts i o n = o.set i (max (o.getD i 0) (o.getD n.toNat 0 + (ts.getD n.toNat default).length)) := fun _ _ => rfl
    have htask : headsTask ts out i = (ts.getD i default).after.foldl (relaxH ts i) (out.set i (ts.getD i default).release) := rfl
    have HCt := Lib.hid hct
    generalize (ts.getD i default).after = aft at *
    generalize (ts.getD i default).release = rls at *
    rw [htask] at HNew
    generalize relaxH ts i = rel at *
    have k2 : (0 : Int) ≤ (i : Int) := by omega
    have k3 : (i : Int) < (ts.length : Int) := by omega
    have c1' := p0.cellAt 1 rfl
    have c2' := p2.cellAt 0 rfl
    have z0 := p0.lt
    have z1 := p1.lt
    have z2 := p2.lt
    have HAft := Lib.hid haft2
    have HRel := Lib.hid hrel
    have HT := Lib.hid hr
    have HT4 := Lib.hid t4
    have HLen := Lib.hid hl
    clear haft2 hrel htask hnew hct hr t4 hl hmk r0 r1 r2 hTW hWb hmem
    dsimp only
    gi_wp2
    refine region_belowIn (fun _ => trivial) rfl (fun _ _ _ _ h => callsIn_wide.2 h) 10 follows_mixed (by kernel_rfl) (by kernel_rfl) ?_
    intro C hC
    simp only [List.take_succ_cons, List.take_zero, List.drop_succ_cons, List.drop_zero]
    repeat (first
      | ((with_reducible refine quiet_plain rfl (fun K hK => ?_)); (focus (apply quiet_val; (focus (intro w' hw; obtain ⟨hcq, hfq⟩ := bcell ((hC.out _).1 hw); go_simp; (first | done | rfl))); (simp only [Act.put, List.setIfInBounds_toArray, List.set_cons_succ, List.set_cons_zero]); (with_reducible refine hK _ ?_); clear hK K)))
      | ((with_reducible refine quiet_skip ?_ ?_); (focus (first | (simp [Region.wanted, yielded]; done) | (simp [Region.wanted, yielded, undef]; done))); simp only [Act.put, List.setIfInBounds_toArray, List.set_cons_succ, List.set_cons_zero])
      | ((with_reducible refine quiet_go ?_ (fun K hK => ?_)); (focus (first | (simp [Region.wanted, yielded]; done) | (simp [Region.wanted, yielded, undef]; done))); (focus (apply quiet_val; (focus (intro w' hw; obtain ⟨hcq, hfq⟩ := bcell ((hC.out _).1 hw); go_simp; (first | done | rfl))); (simp only [Act.put, List.setIfInBounds_toArray, List.set_cons_succ, List.set_cons_zero]); (with_reducible refine hK _ ?_); clear hK K))))
    refine wpQuiet_nil ?_
    intro w1 hb1
    replace hb1 := (hC.out _).1 hb1
    clear hC C
    obtain ⟨hc1, hf1⟩ := bcell hb1
    have g1 := p1.past hb1
    have f1 := g1.frozen i
    have l1 := g1.lt
    have g0 := p0.past hb1
    have g2 := p2.past hb1
    have t2' := ((bcell (hb1.mono (Nat.le_trans (Nat.le_trans hB hp.size) (Nat.le_refl _)))).1 b (off + i * 4 + 2) hbB).trans t2
    have t3' := ((bcell (hb1.mono (Nat.le_trans (Nat.le_trans hB hp.size) (Nat.le_refl _)))).1 b (off + i * 4 + 3) hbB).trans t3
    have y1 := g1.cellAt i (iarr_get out i (by rw [hok.1]; exact hi))
    clear hc1 hf1
    have d0 := g0.cellAt 1 rfl
    have x0 := g0.lt
    have hb0w : b < w.heap.size := Nat.lt_of_lt_of_le hbB hB
    have hb1w : b < w1.heap.size := by omega
    gi_wp2
    have s0 : Blk (w1.setCell ⟨w.heap.size + 1, i, none⟩ (.int .i64 rls)) w.heap.size 102 #[.int .i64 m, .slice (some ⟨b, off, none⟩) ts.length c] := g0.far (by simp)
    have s1 : Blk (w1.setCell ⟨w.heap.size + 1, i, none⟩ (.int .i64 rls)) (w.heap.size + 1) 3 (iarr (out.set i rls)) := by rw [← iarr_set]; exact g1.set_ i _
    have s2 : Blk (w1.setCell ⟨w.heap.size + 1, i, none⟩ (.int .i64 rls)) (w.heap.size + 1 + 1) 32 #[.slice (some ⟨w.heap.size + 1, 0, none⟩) ts.length ts.length] := g2.far (by simp)
    have hv0 : Below w.heap.size V (w1.setCell ⟨w.heap.size + 1, i, none⟩ (.int .i64 rls)) := (hb1.mono (Nat.le_of_lt z0)).setCell (p := ⟨w.heap.size + 1, i, none⟩) (Nat.le_succ _) _
    have hk0 : KeepsOthers V (w1.setCell ⟨w.heap.size + 1, i, none⟩ (.int .i64 rls)) := (show KeepsOthers V w1 from ⟨hb1.size, fun k o h _ => (hb1.block k (Array.getElem?_eq_some_iff.1 h).1).trans h⟩).trans (KeepsOthers.setCell _ _ _)
    have hpb0 : ∀ k cs, Blk V k 102 cs → Blk (w1.setCell ⟨w.heap.size + 1, i, none⟩ (.int .i64 rls)) k 102 cs := fun k cs q => (q.past hb1).far (by
      intro e
      dsimp only at e
      subst e
      have := (show V.heap[w.heap.size + 1]? = _ from p1).symm.trans q
      simp at this)
    have hok0 : OutOk ts (80000 * pre.length + 10000) (out.set i rls) := hok.set_ hl3 (by omega)
    have HPB := Lib.hid hpb0
    clear t2' t3' y1 d0 x0 f1 l1 g0 g1 g2 c2' z1 z2 hpb0
    generalize (w1.setCell ⟨w.heap.size + 1, i, none⟩ (.int .i64 rls)) = W2 at *
    gi_loopw [33] (fun jx wr => ∃ (j : Nat) (o2 : List Int), j ≤ aft.length ∧ jx = .int .i64 (j : Int) ∧ (aft.drop j).foldl rel o2 = aft.foldl rel (out.set i rls) ∧ OutOk ts (80000 * pre.length + 10000 + 10000 * j) o2 ∧ Blk wr w.heap.size 102 #[.int .i64 m, .slice (some ⟨b, off, none⟩) ts.length c] ∧ Blk wr (w.heap.size + 1) 3 (iarr o2) ∧ Blk wr (w.heap.size + 1 + 1) 32 #[.slice (some ⟨w.heap.size + 1, 0, none⟩) ts.length ts.length] ∧ Below w.heap.size V wr ∧ KeepsOthers V wr ∧ (∀ k cs, Blk V k 102 cs → Blk wr k 102 cs)) (fun jx _ => aft.length - (intOf jx).toNat)
    case atStart => exact ⟨0, out.set i rls, Nat.zero_le _, rfl, rfl, hok0, s0, s1, s2, hv0, hk0, HPB.out⟩
    case round =>
      obtain ⟨j, o2, hj, rfl, hfold, hok2, s0, s1, s2, hv, hko, hpb⟩ := hrel
      have HFold := Lib.hid hfold
      have HPB2 := Lib.hid hpb
      clear hfold p0 p1 p2 c1' z0 hok hok0 hpb
      by_cases hlt2 : j < aft.length
      · obtain ⟨b3, off3, hA3, hb3, hc3⟩ := (HT4.out.below (hv.mono hB)).at_ hlt2
        subst hA3
        have hcell := hc3 j hlt2
        have hbd := HAft.out j hlt2
        have hdrop : aft.drop j = aft.getD j 0 :: aft.drop (j + 1) := by
          rw [List.drop_eq_getElem_cons hlt2]
          simp [List.getD, hlt2]
        generalize aft.getD j 0 = x2 at *
        obtain ⟨y, rfl⟩ : ∃ y : Nat, x2 = (y : Int) := ⟨x2.toNat, by omega⟩
        have hy : y < ts.length := by omega
        obtain ⟨_, t1, _, _, _, _, _, _⟩ := HCt.out y hy
        have t1' := ((bcell (hv.mono hB)).1 b (off + y * 4 + 1) hbB).trans t1
        obtain ⟨hl1, hl2, _, _⟩ := HLen.out y hy
        have hoy := hok2.2 y
        have hoi := hok2.2 i
        have cy := s1.cellAt y (iarr_get o2 y (by rw [hok2.1]; exact hy))
        have ci := s1.cellAt i (iarr_get o2 i (by rw [hok2.1]; exact hi))
        have hstep := HRel.out o2 (y : Int)
        rw [Int.toNat_natCast] at hstep
        have HDrop := Lib.hid hdrop
        have HStep := Lib.hid hstep
        clear hdrop hc3 hstep t1
        generalize (ts.getD y default).length = len at *
        obtain ⟨oy, hoy'⟩ : ∃ oy, oy = o2.getD y 0 := ⟨_, rfl⟩
        obtain ⟨oi, hoi'⟩ : ∃ oi, oi = o2.getD i 0 := ⟨_, rfl⟩
        rw [← hoy'] at hoy cy HStep
        rw [← hoi'] at hoi ci HStep
        clear hoy' hoi'
        have e1 : IntKind.i64.wrap (oy + len) = oy + len := IntWalk.i64_in _ (by omega)
        have d0 := s0.cellAt 1 rfl
        have d2 := s2.cellAt 0 rfl
        have x0 := s0.lt
        have x1 := s1.lt
        have x2 := s2.lt
        have y0 : (0 : Int) ≤ (y : Int) := by omega
        have y1 : (y : Int) < (ts.length : Int) := by omega
        have j0 : (0 : Int) ≤ (j : Int) := by omega
        have hbw2 : b < wr.heap.size := Nat.lt_of_lt_of_le hbw hv.size
        gi_wp2
        refine region_belowIn (fun _ => trivial) rfl (fun _ _ _ _ h => callsIn_wide.2 h) 20 follows_mixed (by kernel_rfl) (by kernel_rfl) ?_
        intro C hC
        simp only [List.take_succ_cons, List.take_zero, List.drop_succ_cons, List.drop_zero]
        repeat (first
          | ((with_reducible refine quiet_plain rfl (fun K hK => ?_)); (focus (apply quiet_val; (focus (intro w' hw; obtain ⟨hcq, hfq⟩ := bcell ((hC.out _).1 hw); go_simp; (first | done | rfl))); (simp only [Act.put, List.setIfInBounds_toArray, List.set_cons_succ, List.set_cons_zero]); (with_reducible refine hK _ ?_); clear hK K)))
          | ((with_reducible refine quiet_skip ?_ ?_); (focus (first | (simp [Region.wanted, yielded]; done) | (simp [Region.wanted, yielded, undef]; done))); simp only [Act.put, List.setIfInBounds_toArray, List.set_cons_succ, List.set_cons_zero])
          | ((with_reducible refine quiet_go ?_ (fun K hK => ?_)); (focus (first | (simp [Region.wanted, yielded]; done) | (simp [Region.wanted, yielded, undef]; done))); (focus (apply quiet_val; (focus (intro w' hw; obtain ⟨hcq, hfq⟩ := bcell ((hC.out _).1 hw); go_simp; (first | done | rfl))); (simp only [Act.put, List.setIfInBounds_toArray, List.set_cons_succ, List.set_cons_zero]); (with_reducible refine hK _ ?_); clear hK K))))
        refine wpQuiet_nil ?_
        intro w1 hb1
        replace hb1 := (hC.out _).1 hb1
        clear hC C
        obtain ⟨hc1, hf1⟩ := bcell hb1
        have g1 := s1.past hb1
        have f1 := g1.frozen i
        have l1 := g1.lt
        have m1 := g1.cellAt i (iarr_get o2 i (by rw [hok2.1]; exact hi))
        have g0 := s0.past hb1
        have g2 := s2.past hb1
        clear hc1 hf1
        gi_wp2
        have hmx : max oi (oy + len) = if oi < oy + len then oy + len else oi := by rw [Int.max_def]; split <;> split <;> omega
        have hv2 : Below w.heap.size V w1 := hv.trans (hb1.mono (Nat.le_of_lt x0))
        have hko2 : KeepsOthers wr w1 := ⟨hb1.size, fun k o h _ => (hb1.block k (Array.getElem?_eq_some_iff.1 h).1).trans h⟩
        have hfold2 : (aft.drop (j + 1)).foldl rel (o2.set i (if oi < oy + len then oy + len else oi)) = aft.foldl rel (out.set i rls) := by
          rw [← HFold.out, HDrop.out, List.foldl_cons, HStep.out, hmx]
        have hb0 : (0 : Int) ≤ if oi < oy + len then oy + len else oi := by split <;> omega
        have hb2 : (if oi < oy + len then oy + len else oi) ≤ ((80000 * pre.length + 10000 + 10000 * j + 10000 : Nat) : Int) := by split <;> omega
        generalize (if oi < oy + len then oy + len else oi) = z at *
        have hrow : Blk (w1.setCell ⟨w.heap.size + 1, i, none⟩ (.int .i64 z)) (w.heap.size + 1) 3 (iarr (o2.set i z)) := by rw [← iarr_set]; exact g1.set_ i _
        go_roundw
        case rel => exact ⟨j + 1, o2.set i z, by omega, by go_num, hfold2, (hok2.set_ hb0 hb2).more (by omega), g0.far (by simp), hrow, g2.far (by simp), hv2.setCell (p := ⟨w.heap.size + 1, i, none⟩) (Nat.le_succ _) _, (hko.trans hko2).trans (KeepsOthers.setCell _ _ _), fun k cs q => ((HPB2.out k cs q).past hb1).far (by
          intro e
          dsimp only at e
          subst e
          have := (show wr.heap[w.heap.size + 1]? = _ from s1).symm.trans (HPB2.out _ cs q)
          simp at this)⟩
        case measure => simp [intOf]; omega
      · have hje : j = aft.length := by omega
        have hres : o2 = outHV ts (pre ++ [i]) := by rw [HNew.out, ← HFold.out, hje]; simp
        gi_wp2
        refine ⟨hko.from _, ⟨hv.mono hB, HPB2.out⟩, ?_⟩
        dsimp only
        rw [← hres]
        exact ⟨hok2.more (by simp; omega), s0, s1, s2, hp.trans hv⟩
  case done =>
    rintro D xs V hD hS ⟨_, p0, p1, p2, hp⟩ hK
    have hout : outHV ts xs = headsV ts := by unfold outHV headsV; rw [hS]
    rw [hout] at p1
    have d2 := p2.cellAt 0 rfl
    have x2 := p2.lt
    gi_wp2
    refine ⟨by simp, .inl ⟨_, _, rfl, run_takeDeferred hK, ?_⟩⟩
    exact ⟨_, results_tmp rfl _ _ _, w.heap.size + 1, rfl, p1.putObj (by omega), by omega, hp.trans ⟨rfl, rfl, rfl, by simp, fun k hk => World.putObj_heap_other (by omega)⟩⟩
  case stop =>
    rintro D c pre V _ _ h _
    exact h.elim

end Go.Proofs.YtbojmcopagbheaaGreatDoor
