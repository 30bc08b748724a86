/- Contract: the tails of all tasks of a valid plan. -/
import Derived.Test.YtlgioldmjohhlaaQBack
import Derived.Test.YtlgioldmjohhlaaNOrdMore
import Derived.Test.YtlgioldmjohhlaaARegionIn
import Derived.BigRegionIn
import Derived.Deep.OwnRows
namespace Go.Proofs.Ytlgioldmjohhlaa
open Go.RowKit Go.Shelf
attribute [local go_sem] Oper.semAt_some

/-- One step: the tail of n, from task i that depends on it. -/
def relaxT (ts : List Task) (i : Nat) (out : List Int) (n : Int) : List Int := out.set n.toNat (max (out.getD n.toNat 0) ((ts.getD i default).length + out.getD i 0))
def tailsTask (ts : List Task) (out : List Int) (i : Nat) : List Int := (ts.getD i default).after.foldl (relaxT ts i) out
def tailsV (ts : List Task) : List Int := (orderV ts).reverse.foldl (tailsTask ts) (List.replicate ts.length 0)

def outV (ts : List Task) (pre : List (Nat × Nat)) : List Int := (pre.map (·.2)).foldl (tailsTask ts) (List.replicate ts.length 0)
/-- As long as the plan, and no number beyond b. -/
def OutOk (ts : List Task) (b : Nat) (out : List Int) : Prop := out.length = ts.length ∧ ∀ j, 0 ≤ out.getD j 0 ∧ out.getD j 0 ≤ b
theorem out_start (ts : List Task) : OutOk ts (70000 * ([] : List (Nat × Nat)).length) (outV ts []) := by
  refine ⟨by simp [outV], fun j => ?_⟩
  have : (List.replicate ts.length (0 : Int)).getD j 0 = 0 := by
    simp only [List.getD, List.getElem?_replicate]
    split <;> rfl
  simp only [outV, List.map_nil, List.foldl_nil]
  rw [this]
  omega
theorem OutOk.set_ {ts : List Task} {b : Nat} {out : List Int} (h : OutOk ts b out) {y : Nat} {x : Int} (h1 : 0 ≤ x) (h2 : x ≤ (b + 10000 : Nat)) : OutOk ts (b + 10000) (out.set y x) := by
  refine ⟨by simpa using h.1, fun j => ?_⟩
  have := h.2 j
  simp only [List.getD, List.getElem?_set] at *
  split
  · split <;> simp <;> omega
  · omega
theorem OutOk.more {ts : List Task} {b b' : Nat} {out : List Int} (h : OutOk ts b out) (hb : b ≤ b') : OutOk ts b' out := ⟨h.1, fun j => by have := h.2 j; omega⟩

/-- Lengths and releases in range. -/
def LenOk (ts : List Task) : Prop := ∀ i, i < ts.length → 0 ≤ (ts.getD i default).length ∧ (ts.getD i default).length ≤ 10000 ∧ 0 ≤ (ts.getD i default).release ∧ (ts.getD i default).release ≤ 10000

/-- A row of numbers as cells; closed to the walk. -/
def iarr (xs : List Int) : Array Value := (xs.map (Value.int .i64)).toArray
theorem iarr_get (xs : List Int) (j : Nat) (h : j < xs.length) : (iarr xs)[j]? = some (.int .i64 (xs.getD j 0)) := by
  simp [iarr, List.getD, h]
theorem iarr_set (xs : List Int) (j : Nat) (x : Int) : (iarr xs).setIfInBounds j (.int .i64 x) = iarr (xs.set j x) := by
  simp [iarr, List.map_set]
theorem made_zero (n : Nat) : madeCells #[.int .i64 0] n = iarr (List.replicate n 0) := by
  have h := toList_madeCells_one (.int .i64 0) n
  have e : madeCells #[.int .i64 0] n = (madeCells #[.int .i64 0] n).toList.toArray := by simp
  rw [e, h]
  simp [iarr]

theorem row_of_own {w : World} {base c d : Nat} {A : Option Addr} {L : List Nat} (h : w.ownsRow base 3 1 (.slice A L.length c) L.length (rowOf L)) (hd : d < w.heap.size) :
    ∃ kr, RowAt kr w A L ∧ kr < w.heap.size ∧ (kr = d ∨ base ≤ kr) := by
  rcases h.2 with ⟨h1, h2⟩ | ⟨g, cap, cur, hv, hb, hh, hn, hm, hs, ht⟩
  · injection h1 with _ h3 _
    exact ⟨d, .inl (List.eq_nil_of_length_eq_zero h3), hd, .inl rfl⟩
  · injection hv with hA _ _
    refine ⟨g, .inr ⟨hA, fun j hj => ?_⟩, (Array.getElem?_eq_some_iff.1 hh).1, .inr hb⟩
    have h1 := (cellsIn_of_own h)
    rcases h1 with h1 | ⟨b, off, hA2, _, hc⟩
    · simp [rowOf] at h1; subst h1; simp at hj
    · rw [hA] at hA2
      injection hA2 with hA2
      injection hA2 with e1 e2
      subst e1 e2
      have := hc j (by simpa [rowOf] using hj)
      rw [Nat.zero_add] at this
      rw [this]
      simp [rowOf, List.getD, hj]

set_option maxRecDepth 100000 in
set_option maxHeartbeats 2000000 in
theorem tails_in (B n : Nat) (ts : List Task) (A : Option Addr) (c : Nat) (m : Int) (w : World) (h1 : 3 ≤ n) (hr : TasksIn B w A ts) (hB : B ≤ w.heap.size) (ha : AcyOk ts) (hl : LenOk ts) :
    CallsIn Fence.wide n Try.prog 81 #[.agg #[.int .i64 m, .slice A ts.length c]] w fun e w' =>
      ∃ g, e = .returned (.slice (some ⟨g, 0, none⟩) ts.length ts.length) ∧ Blk w' g 3 (iarr (tailsV ts)) ∧ w.heap.size ≤ g ∧ Below w.heap.size w w' := by
  have h7 := ha.1.1
  have hlen := Nat.le_trans (order_len ts) h7
  have h1' : 1 ≤ n := by omega
  have hmk := fun w => run_make_row' (P := Try.prog) 28 3 (.int .i64 0) 8 rfl int_info rfl .i64 .i64 ts.length (by omega) (by omega) w
  rw [made_zero] at hmk
  have hcoll := fun w hr hB => collect_order B (n - 1) ts A c m w (by omega) hr hB ha hlen
  refine callsIn_of_wp_marks Try.func81 rfl trivial ?_ rfl
  simp only [Try.ntmps81, List.size_toArray, List.length_cons, List.length_nil, Nat.reduceAdd, Nat.reduceSub, Array.replicate_succ, Array.replicate_zero, List.push_toArray, List.append_toArray, List.nil_append, List.cons_append]
  gi_wp2_with (first | (refine ⟨trivial, ?_⟩; gi_at_call 127; go_must (refine (hcoll _ (hr.below ((pa (pa (pa pr))).mono hB)) (by simp; omega)).mono ?_); rintro e w1 ⟨v, rfl, hown, hb1⟩; obtain ⟨A1, c1, rfl, hcc1, hcm1⟩ := own_form hown) | (refine ⟨trivial, ?_⟩; gi_at_call 126; refine (callsIn_wide.2 (backward_any _ _ _ _)).mono ?_; rintro e w2 ⟨rfl, rfl⟩))
  simp only [World.size_alloc] at hown hb1
  have hp : Below w.heap.size w (((w.alloc (.cells #[.int .i64 m, .slice A ts.length c] 107)).alloc (.cells (iarr (List.replicate ts.length 0)) 3)).alloc (.cells #[.slice (some ⟨w.heap.size + 1, 0, none⟩) ts.length ts.length] 28)) := pa (pa (pa pr))
  have r0 : Blk (((w.alloc (.cells #[.int .i64 m, .slice A ts.length c] 107)).alloc (.cells (iarr (List.replicate ts.length 0)) 3)).alloc (.cells #[.slice (some ⟨w.heap.size + 1, 0, none⟩) ts.length ts.length] 28)) w.heap.size 107 #[.int .i64 m, .slice A ts.length c] := ((Blk.newAt rfl).alloc).alloc
  have r1 : Blk (((w.alloc (.cells #[.int .i64 m, .slice A ts.length c] 107)).alloc (.cells (iarr (List.replicate ts.length 0)) 3)).alloc (.cells #[.slice (some ⟨w.heap.size + 1, 0, none⟩) ts.length ts.length] 28)) (w.heap.size + 1) 3 (iarr (List.replicate ts.length 0)) := (Blk.newAt (by simp)).alloc
  have r2 : Blk (((w.alloc (.cells #[.int .i64 m, .slice A ts.length c] 107)).alloc (.cells (iarr (List.replicate ts.length 0)) 3)).alloc (.cells #[.slice (some ⟨w.heap.size + 1, 0, none⟩) ts.length ts.length] 28)) (w.heap.size + 1 + 1) 28 #[.slice (some ⟨w.heap.size + 1, 0, none⟩) ts.length ts.length] := Blk.newAt (by simp)
  have hs0 : (((w.alloc (.cells #[.int .i64 m, .slice A ts.length c] 107)).alloc (.cells (iarr (List.replicate ts.length 0)) 3)).alloc (.cells #[.slice (some ⟨w.heap.size + 1, 0, none⟩) ts.length ts.length] 28)).heap.size = w.heap.size + 1 + 1 + 1 := by simp
  generalize (((w.alloc (.cells #[.int .i64 m, .slice A ts.length c] 107)).alloc (.cells (iarr (List.replicate ts.length 0)) 3)).alloc (.cells #[.slice (some ⟨w.heap.size + 1, 0, none⟩) ts.length ts.length] 28)) = W0 at *
  have hb1' : Below W0.heap.size W0 w1 := by rw [hs0]; exact hb1
  have q0 := (r0.past hb1').alloc (o := .cells #[.slice A1 (orderV ts).length c1] 28)
  have q1 := (r1.past hb1').alloc (o := .cells #[.slice A1 (orderV ts).length c1] 28)
  have q2 := (r2.past hb1').alloc (o := .cells #[.slice A1 (orderV ts).length c1] 28)
  obtain ⟨kr, hrow, hkr1, hkr2⟩ := row_of_own hown (d := w.heap.size) (r0.past hb1').lt
  have hrow2 : RowAt kr (w1.alloc (.cells #[.slice A1 (orderV ts).length c1] 28)) A1 (orderV ts) := hrow.keep (Below.heap_alloc _ _ _ hkr1)
  have hbox : Blk (w1.alloc (.cells #[.slice A1 (orderV ts).length c1] 28)) w1.heap.size 28 #[.slice A1 (orderV ts).length c1] := Blk.new _ _ _
  have hkr3 : kr < (w1.alloc (.cells #[.slice A1 (orderV ts).length c1] 28)).heap.size := by simp; omega
  have hq : Below w.heap.size w (w1.alloc (.cells #[.slice A1 (orderV ts).length c1] 28)) := pa (hp.trans (hb1'.mono hp.size))
  have hw1 : w.heap.size + 1 + 1 + 1 ≤ w1.heap.size := by have := hb1'.size; omega
  have hsz : (w1.alloc (.cells #[.slice A1 (orderV ts).length c1] 28)).heap.size = w1.heap.size + 1 := by simp
  have hkb : w1.heap.size = w1.heap.size := rfl
  generalize w1.alloc (.cells #[.slice A1 (orderV ts).length c1] 28) = W at *
  generalize w1.heap.size = kb at *
  have hTW : TasksIn B W A ts := hr.below (hq.mono hB)
  refine rangeFunc_law h1' (gf := 148) (fb := #[]) (lb := #[.pointer (some ⟨kb, 0, none⟩)]) rfl (enters_of Try.func148 (by kernel_rfl) rfl)
    (backward_seq kb kr (n - 1) (orderV ts) A1 c1 W hbox hrow2 hkr3 hlen) (Below.refl _ _)
    (fun h k => ⟨k.1.trans h.1, k.2.trans h.2⟩)
    (fun Wa A l o o' hl hl2 ho hc => ⟨World.putObj_heap_other (by omega), World.putObj_heap_other (by omega)⟩)
    (fun x A l o o' ho hc hp => hp) (fun x => rfl)
    (fun pre V => OutOk ts (70000 * pre.length) (outV ts pre) ∧ Blk V w.heap.size 107 #[.int .i64 m, .slice A ts.length c] ∧ Blk V (w.heap.size + 1) 3 (iarr (outV ts pre)) ∧ Blk V (w.heap.size + 1 + 1) 28 #[.slice (some ⟨w.heap.size + 1, 0, none⟩) ts.length ts.length] ∧ Below w.heap.size w V ∧ kb < V.heap.size)
    (fun _ _ _ => False)
    (fun s V V' row hs hg hrr => ⟨hs.1, own_blk _ _ _ _ s V V' row hs.2.1 hg hrr, own_blk _ _ _ _ s V V' row hs.2.2.1 hg hrr, own_blk _ _ _ _ s V V' row hs.2.2.2.1 hg hrr, ownFrom_below (Nat.le_refl _) hq.size s V V' row hs.2.2.2.2.1 hg hrr, Nat.lt_of_lt_of_le hs.2.2.2.2.2 hg.size⟩)
    (fun _ _ _ _ _ hs _ _ => hs)
    ⟨out_start ts, q0, q1, q2, hq, by omega⟩
    (fun x => { tmps := #[.agg #[.int .i64 m, .slice A ts.length c], .pointer (some ⟨w.heap.size, 0, none⟩), .slice none 0 0, .pointer (some ⟨w.heap.size + 1 + 1, 0, none⟩), undef, .int .i64 (x.2 : Int), undef, undef, .pointer (some ⟨w.heap.size, 0, none⟩), .pointer (some ⟨w.heap.size, 1, none⟩), .slice A ts.length c, .int .i64 (ts.length : Int), .slice (some ⟨w.heap.size + 1, 0, none⟩) ts.length ts.length,
      .agg #[.int .i64 m, .slice A ts.length c], .func (.func 128) #[.agg #[.int .i64 m, .slice A ts.length c]] #[], .slice A1 (orderV ts).length c1, .func (.func 148) #[] #[.pointer (some ⟨kb, 0, none⟩)], .int .i64 (x.1 : Int), .int .i64 (x.2 : Int), undef, undef, undef, undef, undef, undef, undef, undef, undef, undef, undef, undef, undef, undef, undef, undef, undef, undef, undef, undef, undef, undef, undef, undef, undef, undef, undef, undef, undef, undef, undef, undef, undef, undef], defers := [] }) ?assign ?body ?done ?stop
  case assign =>
    intro l x V K hK
    unfold backEnc
    gi_wp2
    exact hK
  case body =>
    rintro l pre ⟨ix, i⟩ Wb V hWb ⟨hok, p0, p1, p2, hp, hkV⟩ hmem hlt
    have hi := order_mem hmem
    have hnew : outV ts (pre ++ [(ix, i)]) = tailsTask ts (outV ts pre) i := by simp [outV]
    have HNew := Lib.hid hnew
    generalize outV ts pre = out at *
    obtain ⟨b, off, hA, hbB, hct⟩ := (hr.below (hp.mono hB)).at_ hi
    subst hA
    have hbw := Nat.lt_of_lt_of_le hbB (Nat.le_trans hB hp.size)
    obtain ⟨_, t1, _, A3, c3, t3, t4, t5⟩ := hct i hi
    obtain ⟨haft1, haft2⟩ := ha.1.2 i hi
    obtain ⟨hl1, hl2, _, _⟩ := hl i hi
    have hrel : ∀ o n, relaxT ts i o n = o.set n.toNat (max (o.getD n.toNat 0) ((ts.getD i default).length + o.getD i 0)) := fun _ _ => rfl
    have htask : tailsTask ts out i = (ts.getD i default).after.foldl (relaxT ts i) out := rfl
    generalize (ts.getD i default).after = aft at *
    generalize (ts.getD i default).length = len at *
    rw [htask] at HNew
    generalize relaxT ts i = rel at *
    have k2 : (0 : Int) ≤ (i : Int) := by omega
    have k3 : (i : Int) < (ts.length : Int) := by omega
    have c1' := p0.cellAt 1 rfl
    have z0 := p0.lt
    have HAft := Lib.hid haft2
    have HRel := Lib.hid hrel
    have HT := Lib.hid hr
    have HT4 := Lib.hid t4
    clear haft2 hrel htask hnew hct hr t4 hl hmk hcoll q0 q1 q2 hown hrow hrow2 hbox hTW hb1 hb1' r0 r1 r2
    dsimp only
    gi_wp2
    gi_loopw [27] (fun jx wr => ∃ (j : Nat) (o2 : List Int), j ≤ aft.length ∧ jx = .int .i64 (j : Int) ∧ (aft.drop j).foldl rel o2 = aft.foldl rel out ∧ OutOk ts (70000 * pre.length + 10000 * j) o2 ∧ Blk wr w.heap.size 107 #[.int .i64 m, .slice (some ⟨b, off, none⟩) ts.length c] ∧ Blk wr (w.heap.size + 1) 3 (iarr o2) ∧ Blk wr (w.heap.size + 1 + 1) 28 #[.slice (some ⟨w.heap.size + 1, 0, none⟩) ts.length ts.length] ∧ Below w.heap.size V wr ∧ KeepsOthers V wr ∧ BackKp kb kr V V wr) (fun jx _ => aft.length - (intOf jx).toNat)
    case atStart => exact ⟨0, out, Nat.zero_le _, rfl, rfl, hok, p0, p1, p2, Below.refl _ _, KeepsOthers.refl _, rfl, rfl⟩
    case round =>
      obtain ⟨j, o2, hj, rfl, hfold, hok2, s0, s1, s2, hv, hko, hkp⟩ := hrel
      have HFold := Lib.hid hfold
      clear hfold p0 p1 p2 c1' z0 hok
      by_cases hlt2 : j < aft.length
      · obtain ⟨b3, off3, hA3, hb3, hc3⟩ := (HT4.out.below (hv.mono hB)).at_ hlt2
        subst hA3
        have hcell := hc3 j hlt2
        have hbd := HAft.out j hlt2
        have hdrop : aft.drop j = aft.getD j 0 :: aft.drop (j + 1) := by
          rw [List.drop_eq_getElem_cons hlt2]
          simp [List.getD, hlt2]
        generalize aft.getD j 0 = x2 at *
        obtain ⟨y, rfl⟩ : ∃ y : Nat, x2 = (y : Int) := ⟨x2.toNat, by omega⟩
        have hy : y < ts.length := by omega
        have t1' := ((bcell (hv.mono hB)).1 b (off + i * 4 + 1) hbB).trans t1
        have hoy := hok2.2 y
        have hoi := hok2.2 i
        have cy := s1.cellAt y (iarr_get o2 y (by rw [hok2.1]; exact hy))
        have ci := s1.cellAt i (iarr_get o2 i (by rw [hok2.1]; exact hi))
        have hstep := HRel.out o2 (y : Int)
        rw [Int.toNat_natCast] at hstep
        have HDrop := Lib.hid hdrop
        have HStep := Lib.hid hstep
        clear hdrop hc3 hstep t1
        obtain ⟨oy, hoy'⟩ : ∃ oy, oy = o2.getD y 0 := ⟨_, rfl⟩
        obtain ⟨oi, hoi'⟩ : ∃ oi, oi = o2.getD i 0 := ⟨_, rfl⟩
        rw [← hoy'] at hoy cy HStep
        rw [← hoi'] at hoi ci HStep
        clear hoy' hoi'
        have e1 : IntKind.i64.wrap (len + oi) = len + oi := IntWalk.i64_in _ (by omega)
        have d0 := s0.cellAt 1 rfl
        have d2 := s2.cellAt 0 rfl
        have x0 := s0.lt
        have x1 := s1.lt
        have x2 := s2.lt
        have y0 : (0 : Int) ≤ (y : Int) := by omega
        have y1 : (y : Int) < (ts.length : Int) := by omega
        have j0 : (0 : Int) ≤ (j : Int) := by omega
        have hbw2 : b < wr.heap.size := Nat.lt_of_lt_of_le hbw hv.size
        gi_wp2
        refine region_belowIn (fun _ => trivial) rfl (fun _ _ _ _ h => callsIn_wide.2 h) 20 follows_mixed (by kernel_rfl) (by kernel_rfl) ?_
        intro C hC
        simp only [List.take_succ_cons, List.take_zero, List.drop_succ_cons, List.drop_zero]
        repeat (first
          | ((with_reducible refine quiet_plain rfl (fun K hK => ?_)); (focus (apply quiet_val; (focus (intro w' hw; obtain ⟨hcq, hfq⟩ := bcell ((hC.out _).1 hw); go_simp; (first | done | rfl))); (simp only [Act.put, List.setIfInBounds_toArray, List.set_cons_succ, List.set_cons_zero]); (with_reducible refine hK _ ?_); clear hK K)))
          | ((with_reducible refine quiet_skip ?_ ?_); (focus (simp [Region.wanted, yielded]; done)); simp only [Act.put, List.setIfInBounds_toArray, List.set_cons_succ, List.set_cons_zero])
          | ((with_reducible refine quiet_go ?_ (fun K hK => ?_)); (focus (simp [Region.wanted, yielded]; done)); (focus (apply quiet_val; (focus (intro w' hw; obtain ⟨hcq, hfq⟩ := bcell ((hC.out _).1 hw); go_simp; (first | done | rfl))); (simp only [Act.put, List.setIfInBounds_toArray, List.set_cons_succ, List.set_cons_zero]); (with_reducible refine hK _ ?_); clear hK K))))
        refine wpQuiet_nil ?_
        intro w1 hb1
        replace hb1 := (hC.out _).1 hb1
        clear hC C
        obtain ⟨hc1, hf1⟩ := bcell hb1
        have g1 := s1.past hb1
        have f1 := g1.frozen y
        have l1 := g1.lt
        have m1 := g1.cellAt y (iarr_get o2 y (by rw [hok2.1]; exact hy))
        have g0 := s0.past hb1
        have g2 := s2.past hb1
        clear hc1 hf1
        gi_wp2
        have hmx : max oy (len + oi) = if oy < len + oi then len + oi else oy := by rw [Int.max_def]; split <;> split <;> omega
        have hv2 : Below w.heap.size V w1 := hv.trans (hb1.mono (Nat.le_of_lt x0))
        have hko2 : KeepsOthers wr w1 := ⟨hb1.size, fun k o h _ => (hb1.block k (Array.getElem?_eq_some_iff.1 h).1).trans h⟩
        have hfold2 : (aft.drop (j + 1)).foldl rel (o2.set y (if oy < len + oi then len + oi else oy)) = aft.foldl rel out := by
          rw [← HFold.out, HDrop.out, List.foldl_cons, HStep.out, hmx]
        have hb0 : (0 : Int) ≤ if oy < len + oi then len + oi else oy := by split <;> omega
        have hb2 : (if oy < len + oi then len + oi else oy) ≤ ((70000 * pre.length + 10000 * j + 10000 : Nat) : Int) := by split <;> omega
        generalize (if oy < len + oi then len + oi else oy) = z at *
        have hrow : Blk (w1.setCell ⟨w.heap.size + 1, y, none⟩ (.int .i64 z)) (w.heap.size + 1) 3 (iarr (o2.set y z)) := by rw [← iarr_set]; exact g1.set_ y _
        have hkb1 : kb < wr.heap.size := Nat.lt_of_lt_of_le hkV hv.size
        have hkr4 : kr < wr.heap.size := by omega
        go_roundw
        case rel => exact ⟨j + 1, o2.set y z, by omega, by go_num, hfold2, (hok2.set_ hb0 hb2).more (by omega), g0.far (by simp), hrow, g2.far (by simp), hv2.setCell (p := ⟨w.heap.size + 1, y, none⟩) (Nat.le_succ _) _, (hko.trans hko2).trans (KeepsOthers.setCell _ _ _), by
          exact ⟨(Below.heap_setCell w1 ⟨w.heap.size + 1, y, none⟩ _ kb (by dsimp only; omega)).trans ((hb1.block _ hkb1).trans hkp.1), (Below.heap_setCell w1 ⟨w.heap.size + 1, y, none⟩ _ kr (by dsimp only; omega)).trans ((hb1.block _ hkr4).trans hkp.2)⟩⟩
        case measure => simp [intOf]; omega
      · have hje : j = aft.length := by omega
        have hres : o2 = outV ts (pre ++ [(ix, i)]) := by rw [HNew.out, ← HFold.out, hje]; simp
        gi_wp2
        refine ⟨hko.from _, ⟨hkp.1, hkp.2⟩, ?_⟩
        dsimp only
        rw [← hres]
        exact ⟨hok2.more (by simp; omega), s0, s1, s2, hp.trans hv, Nat.lt_of_lt_of_le hkV hv.size⟩
  case done =>
    rintro D xs V hD hS ⟨_, p0, p1, p2, hp, _⟩ hK
    have hout : outV ts xs = tailsV ts := by unfold outV tailsV; rw [hS]
    rw [hout] at p1
    have d2 := p2.cellAt 0 rfl
    have x2 := p2.lt
    gi_wp2
    refine ⟨by simp, .inl ⟨_, _, rfl, run_takeDeferred hK, ?_⟩⟩
    exact ⟨_, results_tmp rfl _ _ _, w.heap.size + 1, rfl, p1.putObj (by omega), by omega, hp.trans ⟨rfl, rfl, rfl, by simp, fun k hk => World.putObj_heap_other (by omega)⟩⟩
  case stop =>
    rintro D c pre V _ _ h _
    exact h.elim

end Go.Proofs.Ytlgioldmjohhlaa
