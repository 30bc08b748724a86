/- The law for a region that draws its order (a quiet head, walked once in the order of the text, then its tail), inside the wide fence, in a round or not. No condition.
Contract: the tails of all tasks of a valid plan.
Contracts: a plan checked without the index of a task; the end of a task; the end of a schedule.
Plain facts: the search for the best schedule: what it computes, what it leaves as it was, how large its numbers become.
Contract: the search goes on from the tasks started so far. -/
import Derived.Test.YtbojmcopagbheaaGreatDoorQ3
import Derived.OrdersIn
import Derived.Test.YtbojmcopagbheaaGreatDoorQ9
import Derived.BigRegionIn
import Derived.Deep.OwnRows

section
namespace Go.Proofs.YtbojmcopagbheaaGreatDoor
open Go.RowKit
section
variable {P : Program} {ops : Array Oper} {md : Region.Mode} {C : World → Prop} {F : Fence} {m : Nat}

def noDefer (ops : Array Oper) : Bool := ops.all fun o => match o.op with | .defer _ => false | _ => true

theorem wpIn_of_quiet {o : Oper} {a : Act} {K : Act → Prop} {K' : Act → World → Prop} {Q' : Exit → Act → World → Prop} {w : World} (hF : ∀ f, F.fn f) (hd : F.depth = none)
    (hcall : ∀ f args w R, Calls P f args w R → CallsIn F (m - 1) P f args w R) (hnd : ∀ c, o.op ≠ .defer c) (hw : C w) (h : ∀ a w', C w' → K a → K' a w') (hh : o.quiet P a C K) : o.wpIn F m P a w K' Q' := by
  obtain ⟨v, h1, h2⟩ := hh
  have h3 := h1 w hw
  unfold Oper.quietAt at h3
  unfold Oper.wpIn
  refine ⟨fun f _ => hF f, ?_⟩
  rw [Oper.semAt_eq _ _ _ hnd]
  generalize (execOp a.eval o).run P w = r at *
  cases r with
  | ok n w' =>
    cases n <;> simp only [Oper.quietUpon] at h3 <;> simp only [Oper.uponIn]
    case value u =>
      obtain ⟨e1, e2⟩ := h3
      rw [e1, e2]
      exact h _ _ hw h2
    case skip =>
      obtain ⟨e1, e2⟩ := h3
      rw [e1, ← e2]
      exact h _ _ hw h2
    case enter f args =>
      obtain ⟨e1, hc⟩ := h3
      rw [e1]
      refine ⟨fun e => (by rw [hd] at e; cases e), ?_⟩
      exact (hcall _ _ _ _ hc).mono fun e w'' ⟨he, hw''⟩ => by subst he; exact h _ _ hw'' h2
  | halt x w' => simp only [Oper.quietUpon] at h3

theorem wpOpIn_of_qOp {i : Nat} {a : Act} {K : Act → Prop} {K' : Act → World → Prop} {Q' : Exit → Act → World → Prop} {w : World} (hF : ∀ f, F.fn f) (hd : F.depth = none)
    (hcall : ∀ f args w R, Calls P f args w R → CallsIn F (m - 1) P f args w R) (hnd : noDefer ops = true) (hC : C w) (h : ∀ a w', C w' → K a → K' a w') (hh : qOp P ops C i K a) : wpOpIn F m P ops Q' i K' a w := by
  unfold qOp at hh
  unfold wpOpIn
  split
  · rename_i ho; simp only [ho] at hh; exact h _ _ hC hh
  · rename_i o ho
    simp only [ho] at hh
    split
    · rename_i hw
      simp only [hw, if_true] at hh
      refine wpIn_of_quiet hF hd hcall (fun c hc => ?_) hC h hh
      have hi : i < ops.size := (Array.getElem?_eq_some_iff.1 ho).1
      have := (Array.all_eq_true.1 hnd) i hi
      rw [(Array.getElem?_eq_some_iff.1 ho).2, hc] at this
      cases this
    · rename_i hw; simp only [hw] at hh; exact ⟨fun f _ => hF f, h _ _ hC hh⟩

theorem anyIn_of_headQ {n g : Nat} {L : Array Bool → Act → Prop} {Q' : Exit → Act → World → Prop} (hF : ∀ f, F.fn f) (hd : F.depth = none)
    (hcall : ∀ f args w R, Calls P f args w R → CallsIn F (m - 1) P f args w R) (hnd : noDefer ops = true) (hL : ∀ listed a w, C w → L listed a → wpAnyIn F m P md ops Q' g listed a w) :
    ∀ (f : Nat) (listed : Array Bool) (a : Act) (w : World), C w → headQ P md ops C n L f listed a → wpAnyIn F m P md ops Q' (f + g) listed a w
  | 0, listed, a, w, hC, h => by rw [Nat.zero_add]; exact hL _ _ _ hC h
  | f + 1, listed, a, w, hC, h => by
    rw [show f + 1 + g = (f + g) + 1 by omega]
    exact ⟨fun h0 => absurd h0 h.1, fun i hi => wpOpIn_of_qOp hF hd hcall hnd hC (fun a' w' hC' h' => anyIn_of_headQ hF hd hcall hnd hL f _ a' w' hC' h') (h.2 i hi).2⟩

theorem wpOpIn_mono {i : Nat} {a : Act} {w : World} {K K' : Act → World → Prop} {Q : Exit → Act → World → Prop} (h : ∀ a w, K a w → K' a w) (hh : wpOpIn F m P ops Q i K a w) : wpOpIn F m P ops Q i K' a w := by
  unfold wpOpIn at *
  split
  · rename_i ho; simp only [ho] at hh; exact h _ _ hh
  · rename_i o ho
    simp only [ho] at hh
    split
    · rename_i hw; simp only [hw, if_true] at hh; exact Oper.wpIn_mono h hh
    · rename_i hw; simp only [hw] at hh; exact ⟨hh.1, h _ _ hh.2⟩

theorem wpAnyIn_of_seq {Q' : Exit → Act → World → Prop} : ∀ (l : List Oper) (k : Nat) (listed : Array Bool) (a : Act) (w : World), (∀ j, l[j]? = ops[k + j]?) →
    Region.seqB md ops l.length k listed = true → wpListIn F m P ops Q' l a w → wpAnyIn F m P md ops Q' l.length listed a w
  | [], _, _, _, _, _, hB, h => ⟨by simpa [Region.seqB] using hB, h⟩
  | o :: l, k, listed, a, w, hl, hB, h => by
    have h0 : ops[k]? = some o := by simpa using (hl 0).symm
    simp only [List.length_cons, Region.seqB, Bool.and_eq_true, decide_eq_true_eq] at hB
    refine ⟨fun h1 => (by rw [hB.1] at h1; cases h1), fun i hi => ?_⟩
    rw [hB.1] at hi
    have hik : i = k := by simpa using hi
    subst hik
    have hw : wpOpIn F m P ops Q' i (wpListIn F m P ops Q' l) a w := by unfold wpOpIn; simp only [h0]; exact h
    exact wpOpIn_mono (fun a' w' h' => wpAnyIn_of_seq l (i + 1) _ a' w' (fun j => by have := hl (j + 1); simpa [Nat.add_assoc, Nat.add_comm 1 j] using this) hB.2 h') hw

theorem region_classIn {id : Nat} {Q : Exit → Act → World → Prop} {a : Act} {w : World} {l : List Oper} (hF : ∀ f, F.fn f) (hd : F.depth = none)
    (hcall : ∀ f args w R, Calls P f args w R → CallsIn F (m - 1) P f args w R) (hnd : noDefer l.toArray = true) (C : World → Prop) (n : Nat) (hm : P.follows .mixedOrders = true) (hB : Region.lexTailB .any l.toArray n = true) (hC : C w.drew)
    (h : wpQuiet P l.toArray C (fun a' => ∀ w', C w' → wpListIn F m P l.toArray Q (l.drop n) a' w') (l.take n) a) : (Code.region id l.toArray true).wpIn F m P Q a w := by
  simp only [Region.lexTailB, Bool.and_eq_true, decide_eq_true_eq] at hB
  obtain ⟨⟨⟨⟨hsel, hn⟩, hs⟩, hc⟩, hlex⟩ := hB
  have hn' : n < l.length := by simpa using hn
  have htl : (l.take n).length = n := by simp; omega
  have hdl : (l.drop n).length = l.toArray.size - n := by simp
  have inv0 : HeadInv .any l.toArray n (Array.replicate l.toArray.size false) :=
    ⟨by simp, fun j oj _ hl => (by rw [getD_replicate_false] at hl; cases hl), fun t _ ht => getD_in (by simpa using ht) (getD_replicate_false _ _)⟩
  have H := headQ_lex (md := .any) (g := l.toArray.size - n) hsel hs hc hn (l.take n) 0 _ a (fun j hj => by
    have hj' : j < n := by rw [htl] at hj; exact hj
    simp [hj']) (by simpa using htl) inv0 (by rw [htl]; exact hlex) h
  refine wpIn_region_any hm ?_
  have H2 := anyIn_of_headQ (F := F) (m := m) (Q' := Q) (g := l.toArray.size - n) hF hd hcall hnd (fun listed a' w' hC' hL => by
    have := wpAnyIn_of_seq (F := F) (m := m) (md := .any) (Q' := Q) (l.drop n) n listed a' w' (fun j => by simp [List.getElem?_drop]) (by rw [hdl]; exact hL.1) (hL.2 w' hC')
    rwa [hdl] at this) _ _ _ w.drew hC H
  rw [htl, show n + (l.toArray.size - n) = l.toArray.size by omega] at H2
  exact H2

theorem region_belowIn {id : Nat} {Q : Exit → Act → World → Prop} {a : Act} {w : World} {l : List Oper} (hF : ∀ f, F.fn f) (hd : F.depth = none)
    (hcall : ∀ f args w R, Calls P f args w R → CallsIn F (m - 1) P f args w R) (n : Nat) (hm : P.follows .mixedOrders = true) (hnd : noDefer l.toArray = true) (hB : Region.lexTailB .any l.toArray n = true)
    (h : ∀ C : World → Prop, Hid (∀ w', C w' ↔ Below w.heap.size w w') → wpQuiet P l.toArray C (fun a' => ∀ w', C w' → wpListIn F m P l.toArray Q (l.drop n) a' w') (l.take n) a) : (Code.region id l.toArray true).wpIn F m P Q a w :=
  region_classIn hF hd hcall hnd _ n hm hB (Below.refl _ _).drew (h _ fun _ => Iff.rfl)
end

end Go.Proofs.YtbojmcopagbheaaGreatDoor
end

section
namespace Go.Proofs.YtbojmcopagbheaaGreatDoor
open Go.RowKit Go.Shelf
attribute [local go_sem] Oper.semAt_some

/-- One step: the tail of n, from task i that depends on it. -/
def relaxT (ts : List Task) (i : Nat) (out : List Int) (n : Int) : List Int := out.set n.toNat (max (out.getD n.toNat 0) ((ts.getD i default).length + out.getD i 0))
def tailsTask (ts : List Task) (out : List Int) (i : Nat) : List Int := (ts.getD i default).after.foldl (relaxT ts i) out
def tailsV (ts : List Task) : List Int := (orderV ts).reverse.foldl (tailsTask ts) (List.replicate ts.length 0)

def outV (ts : List Task) (pre : List (Nat × Nat)) : List Int := (pre.map (·.2)).foldl (tailsTask ts) (List.replicate ts.length 0)
/-- As long as the plan, and no number beyond b. -/
def OutOk (ts : List Task) (b : Nat) (out : List Int) : Prop := out.length = ts.length ∧ ∀ j, 0 ≤ out.getD j 0 ∧ out.getD j 0 ≤ b
theorem out_start (ts : List Task) : OutOk ts (70000 * ([] : List (Nat × Nat)).length) (outV ts []) := by
  refine ⟨by simp [outV], fun j => ?_⟩
  have : (List.replicate ts.length (0 : Int)).getD j 0 = 0 := by
    simp only [List.getD, List.getElem?_replicate]
    split <;> rfl
  simp only [outV, List.map_nil, List.foldl_nil]
  rw [this]
  omega
theorem OutOk.set_ {ts : List Task} {b : Nat} {out : List Int} (h : OutOk ts b out) {y : Nat} {x : Int} (h1 : 0 ≤ x) (h2 : x ≤ (b + 10000 : Nat)) : OutOk ts (b + 10000) (out.set y x) := by
  refine ⟨by simpa using h.1, fun j => ?_⟩
  have := h.2 j
  simp only [List.getD, List.getElem?_set] at *
  split
  · split <;> simp <;> omega
  · omega
theorem OutOk.more {ts : List Task} {b b' : Nat} {out : List Int} (h : OutOk ts b out) (hb : b ≤ b') : OutOk ts b' out := ⟨h.1, fun j => by have := h.2 j; omega⟩

/-- Lengths and releases in range. -/
def LenOk (ts : List Task) : Prop := ∀ i, i < ts.length → 0 ≤ (ts.getD i default).length ∧ (ts.getD i default).length ≤ 10000 ∧ 0 ≤ (ts.getD i default).release ∧ (ts.getD i default).release ≤ 10000

/-- A row of numbers as cells; closed to the walk. -/
def iarr (xs : List Int) : Array Value := (xs.map (Value.int .i64)).toArray
theorem iarr_get (xs : List Int) (j : Nat) (h : j < xs.length) : (iarr xs)[j]? = some (.int .i64 (xs.getD j 0)) := by
  simp [iarr, List.getD, h]
theorem iarr_set (xs : List Int) (j : Nat) (x : Int) : (iarr xs).setIfInBounds j (.int .i64 x) = iarr (xs.set j x) := by
  simp [iarr, List.map_set]
theorem made_zero (n : Nat) : madeCells #[.int .i64 0] n = iarr (List.replicate n 0) := by
  have h := toList_madeCells_one (.int .i64 0) n
  have e : madeCells #[.int .i64 0] n = (madeCells #[.int .i64 0] n).toList.toArray := by simp
  rw [e, h]
  simp [iarr]

theorem row_of_own {w : World} {base c d : Nat} {A : Option Addr} {L : List Nat} (h : w.ownsRow base 3 1 (.slice A L.length c) L.length (rowOf L)) (hd : d < w.heap.size) :
    ∃ kr, RowAt kr w A L ∧ kr < w.heap.size ∧ (kr = d ∨ base ≤ kr) := by
  rcases h.2 with ⟨h1, h2⟩ | ⟨g, cap, cur, hv, hb, hh, hn, hm, hs, ht⟩
  · injection h1 with _ h3 _
    exact ⟨d, .inl (List.eq_nil_of_length_eq_zero h3), hd, .inl rfl⟩
  · injection hv with hA _ _
    refine ⟨g, .inr ⟨hA, fun j hj => ?_⟩, (Array.getElem?_eq_some_iff.1 hh).1, .inr hb⟩
    have h1 := (cellsIn_of_own h)
    rcases h1 with h1 | ⟨b, off, hA2, _, hc⟩
    · simp [rowOf] at h1; subst h1; simp at hj
    · rw [hA] at hA2
      injection hA2 with hA2
      injection hA2 with e1 e2
      subst e1 e2
      have := hc j (by simpa [rowOf] using hj)
      rw [Nat.zero_add] at this
      rw [this]
      simp [rowOf, List.getD, hj]

set_option maxRecDepth 100000 in
set_option maxHeartbeats 2000000 in
theorem tails_in (B n : Nat) (ts : List Task) (A : Option Addr) (c : Nat) (m : Int) (w : World) (h1 : 3 ≤ n) (hr : TasksIn B w A ts) (hB : B ≤ w.heap.size) (ha : AcyOk ts) (hl : LenOk ts) :
    CallsIn Fence.wide n Tryz.prog 58 #[.agg #[.int .i64 m, .slice A ts.length c]] w fun e w' =>
      ∃ g, e = .returned (.slice (some ⟨g, 0, none⟩) ts.length ts.length) ∧ Blk w' g 3 (iarr (tailsV ts)) ∧ w.heap.size ≤ g ∧ Below w.heap.size w w' := by
  have h7 := ha.1.1
  have hlen := Nat.le_trans (order_len ts) h7
  have h1' : 1 ≤ n := by omega
  have hmk := fun w => run_make_row' (P := Tryz.prog) 32 3 (.int .i64 0) 8 rfl int_info rfl .i64 .i64 ts.length (by omega) (by omega) w
  rw [made_zero] at hmk
  have hcoll := fun w hr hB => collect_order B (n - 1) ts A c m w (by omega) hr hB ha hlen
  refine callsIn_of_wp_marks Tryz.func58 rfl trivial ?_ rfl
  simp only [Tryz.ntmps58, List.size_toArray, List.length_cons, List.length_nil, Nat.reduceAdd, Nat.reduceSub, Array.replicate_succ, Array.replicate_zero, List.push_toArray, List.append_toArray, List.nil_append, List.cons_append]
  gi_wp2_with (first | (refine ⟨trivial, ?_⟩; gi_at_call 95; go_must (refine (hcoll _ (hr.below ((pa (pa (pa pr))).mono hB)) (by simp; omega)).mono ?_); rintro e w1 ⟨v, rfl, hown, hb1⟩; obtain ⟨A1, c1, rfl, hcc1, hcm1⟩ := own_form hown) | (refine ⟨trivial, ?_⟩; gi_at_call 94; refine (callsIn_wide.2 (backward_any _ _ _ _)).mono ?_; rintro e w2 ⟨rfl, rfl⟩))
  simp only [World.size_alloc] at hown hb1
  have hp : Below w.heap.size w (((w.alloc (.cells #[.int .i64 m, .slice A ts.length c] 102)).alloc (.cells (iarr (List.replicate ts.length 0)) 3)).alloc (.cells #[.slice (some ⟨w.heap.size + 1, 0, none⟩) ts.length ts.length] 32)) := pa (pa (pa pr))
  have r0 : Blk (((w.alloc (.cells #[.int .i64 m, .slice A ts.length c] 102)).alloc (.cells (iarr (List.replicate ts.length 0)) 3)).alloc (.cells #[.slice (some ⟨w.heap.size + 1, 0, none⟩) ts.length ts.length] 32)) w.heap.size 102 #[.int .i64 m, .slice A ts.length c] := ((Blk.newAt rfl).alloc).alloc
  have r1 : Blk (((w.alloc (.cells #[.int .i64 m, .slice A ts.length c] 102)).alloc (.cells (iarr (List.replicate ts.length 0)) 3)).alloc (.cells #[.slice (some ⟨w.heap.size + 1, 0, none⟩) ts.length ts.length] 32)) (w.heap.size + 1) 3 (iarr (List.replicate ts.length 0)) := (Blk.newAt (by simp)).alloc
  have r2 : Blk (((w.alloc (.cells #[.int .i64 m, .slice A ts.length c] 102)).alloc (.cells (iarr (List.replicate ts.length 0)) 3)).alloc (.cells #[.slice (some ⟨w.heap.size + 1, 0, none⟩) ts.length ts.length] 32)) (w.heap.size + 1 + 1) 32 #[.slice (some ⟨w.heap.size + 1, 0, none⟩) ts.length ts.length] := Blk.newAt (by simp)
  have hs0 : (((w.alloc (.cells #[.int .i64 m, .slice A ts.length c] 102)).alloc (.cells (iarr (List.replicate ts.length 0)) 3)).alloc (.cells #[.slice (some ⟨w.heap.size + 1, 0, none⟩) ts.length ts.length] 32)).heap.size = w.heap.size + 1 + 1 + 1 := by simp
  generalize (((w.alloc (.cells #[.int .i64 m, .slice A ts.length c] 102)).alloc (.cells (iarr (List.replicate ts.length 0)) 3)).alloc (.cells #[.slice (some ⟨w.heap.size + 1, 0, none⟩) ts.length ts.length] 32)) = W0 at *
  have hb1' : Below W0.heap.size W0 w1 := by rw [hs0]; exact hb1
  have q0 := (r0.past hb1').alloc (o := .cells #[.slice A1 (orderV ts).length c1] 32)
  have q1 := (r1.past hb1').alloc (o := .cells #[.slice A1 (orderV ts).length c1] 32)
  have q2 := (r2.past hb1').alloc (o := .cells #[.slice A1 (orderV ts).length c1] 32)
  obtain ⟨kr, hrow, hkr1, hkr2⟩ := row_of_own hown (d := w.heap.size) (r0.past hb1').lt
  have hrow2 : RowAt kr (w1.alloc (.cells #[.slice A1 (orderV ts).length c1] 32)) A1 (orderV ts) := hrow.keep (Below.heap_alloc _ _ _ hkr1)
  have hbox : Blk (w1.alloc (.cells #[.slice A1 (orderV ts).length c1] 32)) w1.heap.size 32 #[.slice A1 (orderV ts).length c1] := Blk.new _ _ _
  have hkr3 : kr < (w1.alloc (.cells #[.slice A1 (orderV ts).length c1] 32)).heap.size := by simp; omega
  have hq : Below w.heap.size w (w1.alloc (.cells #[.slice A1 (orderV ts).length c1] 32)) := pa (hp.trans (hb1'.mono hp.size))
  have hw1 : w.heap.size + 1 + 1 + 1 ≤ w1.heap.size := by have := hb1'.size; omega
  have hsz : (w1.alloc (.cells #[.slice A1 (orderV ts).length c1] 32)).heap.size = w1.heap.size + 1 := by simp
  have hkb : w1.heap.size = w1.heap.size := rfl
  generalize w1.alloc (.cells #[.slice A1 (orderV ts).length c1] 32) = W at *
  generalize w1.heap.size = kb at *
  have hTW : TasksIn B W A ts := hr.below (hq.mono hB)
  refine rangeFunc_law h1' (gf := 124) (fb := #[]) (lb := #[.pointer (some ⟨kb, 0, none⟩)]) rfl (enters_of Tryz.func124 (by kernel_rfl) rfl)
    (backward_seq kb kr (n - 1) (orderV ts) A1 c1 W hbox hrow2 hkr3 hlen) (Below.refl _ _)
    (fun h k => ⟨k.1.trans h.1, k.2.trans h.2⟩)
    (fun Wa A l o o' hl hl2 ho hc => ⟨World.putObj_heap_other (by omega), World.putObj_heap_other (by omega)⟩)
    (fun x A l o o' ho hc hp => hp) (fun x => rfl)
    (fun pre V => OutOk ts (70000 * pre.length) (outV ts pre) ∧ Blk V w.heap.size 102 #[.int .i64 m, .slice A ts.length c] ∧ Blk V (w.heap.size + 1) 3 (iarr (outV ts pre)) ∧ Blk V (w.heap.size + 1 + 1) 32 #[.slice (some ⟨w.heap.size + 1, 0, none⟩) ts.length ts.length] ∧ Below w.heap.size w V ∧ kb < V.heap.size)
    (fun _ _ _ => False)
    (fun s V V' row hs hg hrr => ⟨hs.1, own_blk _ _ _ _ s V V' row hs.2.1 hg hrr, own_blk _ _ _ _ s V V' row hs.2.2.1 hg hrr, own_blk _ _ _ _ s V V' row hs.2.2.2.1 hg hrr, ownFrom_below (Nat.le_refl _) hq.size s V V' row hs.2.2.2.2.1 hg hrr, Nat.lt_of_lt_of_le hs.2.2.2.2.2 hg.size⟩)
    (fun _ _ _ _ _ hs _ _ => hs)
    ⟨out_start ts, q0, q1, q2, hq, by omega⟩
    (fun x => { tmps := #[.agg #[.int .i64 m, .slice A ts.length c], .pointer (some ⟨w.heap.size, 0, none⟩), .slice none 0 0, .pointer (some ⟨w.heap.size + 1 + 1, 0, none⟩), undef, .int .i64 (x.2 : Int), undef, undef, .pointer (some ⟨w.heap.size, 0, none⟩), .pointer (some ⟨w.heap.size, 1, none⟩), .slice A ts.length c, .int .i64 (ts.length : Int), .slice (some ⟨w.heap.size + 1, 0, none⟩) ts.length ts.length,
      .agg #[.int .i64 m, .slice A ts.length c], .func (.func 96) #[.agg #[.int .i64 m, .slice A ts.length c]] #[], .slice A1 (orderV ts).length c1, .func (.func 124) #[] #[.pointer (some ⟨kb, 0, none⟩)], .int .i64 (x.1 : Int), .int .i64 (x.2 : Int), undef, undef, undef, undef, undef, undef, undef, undef, undef, undef, undef, undef, undef, undef, undef, undef, undef, undef, undef, undef, undef, undef, undef, undef, undef, undef, undef, undef, undef, undef, undef, undef, undef, undef], defers := [] }) ?assign ?body ?done ?stop
  case assign =>
    intro l x V K hK
    unfold backEnc
    gi_wp2
    exact hK
  case body =>
    rintro l pre ⟨ix, i⟩ Wb V hWb ⟨hok, p0, p1, p2, hp, hkV⟩ hmem hlt
    have hi := order_mem hmem
    have hnew : outV ts (pre ++ [(ix, i)]) = tailsTask ts (outV ts pre) i := by simp [outV]
    have HNew := Lib.hid hnew
    generalize outV ts pre = out at *
    obtain ⟨b, off, hA, hbB, hct⟩ := (hr.below (hp.mono hB)).at_ hi
    subst hA
    have hbw := Nat.lt_of_lt_of_le hbB (Nat.le_trans hB hp.size)
    obtain ⟨_, t1, _, A3, c3, t3, t4, t5⟩ := hct i hi
    obtain ⟨haft1, haft2⟩ := ha.1.2 i hi
    obtain ⟨hl1, hl2, _, _⟩ := hl i hi
    have hrel : ∀ o n, relaxT ts i o n = o.set n.toNat (max (o.getD n.toNat 0) ((ts.getD i default).length + o.getD i 0)) := fun _ _ => rfl
    have htask : tailsTask ts out i = (ts.getD i default).after.foldl (relaxT ts i) out := rfl
    generalize (ts.getD i default).after = aft at *
    generalize (ts.getD i default).length = len at *
    rw [htask] at HNew
    generalize relaxT ts i = rel at *
    have k2 : (0 : Int) ≤ (i : Int) := by omega
    have k3 : (i : Int) < (ts.length : Int) := by omega
    have c1' := p0.cellAt 1 rfl
    have z0 := p0.lt
    have HAft := Lib.hid haft2
    have HRel := Lib.hid hrel
    have HT := Lib.hid hr
    have HT4 := Lib.hid t4
    clear haft2 hrel htask hnew hct hr t4 hl hmk hcoll q0 q1 q2 hown hrow hrow2 hbox hTW hb1 hb1' r0 r1 r2
    dsimp only
    gi_wp2
    gi_loopw [27] (fun jx wr => ∃ (j : Nat) (o2 : List Int), j ≤ aft.length ∧ jx = .int .i64 (j : Int) ∧ (aft.drop j).foldl rel o2 = aft.foldl rel out ∧ OutOk ts (70000 * pre.length + 10000 * j) o2 ∧ Blk wr w.heap.size 102 #[.int .i64 m, .slice (some ⟨b, off, none⟩) ts.length c] ∧ Blk wr (w.heap.size + 1) 3 (iarr o2) ∧ Blk wr (w.heap.size + 1 + 1) 32 #[.slice (some ⟨w.heap.size + 1, 0, none⟩) ts.length ts.length] ∧ Below w.heap.size V wr ∧ KeepsOthers V wr ∧ BackKp kb kr V V wr) (fun jx _ => aft.length - (intOf jx).toNat)
    case atStart => exact ⟨0, out, Nat.zero_le _, rfl, rfl, hok, p0, p1, p2, Below.refl _ _, KeepsOthers.refl _, rfl, rfl⟩
    case round =>
      obtain ⟨j, o2, hj, rfl, hfold, hok2, s0, s1, s2, hv, hko, hkp⟩ := hrel
      have HFold := Lib.hid hfold
      clear hfold p0 p1 p2 c1' z0 hok
      by_cases hlt2 : j < aft.length
      · obtain ⟨b3, off3, hA3, hb3, hc3⟩ := (HT4.out.below (hv.mono hB)).at_ hlt2
        subst hA3
        have hcell := hc3 j hlt2
        have hbd := HAft.out j hlt2
        have hdrop : aft.drop j = aft.getD j 0 :: aft.drop (j + 1) := by
          rw [List.drop_eq_getElem_cons hlt2]
          simp [List.getD, hlt2]
        generalize aft.getD j 0 = x2 at *
        obtain ⟨y, rfl⟩ : ∃ y : Nat, x2 = (y : Int) := ⟨x2.toNat, by omega⟩
        have hy : y < ts.length := by omega
        have t1' := ((bcell (hv.mono hB)).1 b (off + i * 4 + 1) hbB).trans t1
        have hoy := hok2.2 y
        have hoi := hok2.2 i
        have cy := s1.cellAt y (iarr_get o2 y (by rw [hok2.1]; exact hy))
        have ci := s1.cellAt i (iarr_get o2 i (by rw [hok2.1]; exact hi))
        have hstep := HRel.out o2 (y : Int)
        rw [Int.toNat_natCast] at hstep
        have HDrop := Lib.hid hdrop
        have HStep := Lib.hid hstep
        clear hdrop hc3 hstep t1
        obtain ⟨oy, hoy'⟩ : ∃ oy, oy = o2.getD y 0 := ⟨_, rfl⟩
        obtain ⟨oi, hoi'⟩ : ∃ oi, oi = o2.getD i 0 := ⟨_, rfl⟩
        rw [← hoy'] at hoy cy HStep
        rw [← hoi'] at hoi ci HStep
        clear hoy' hoi'
        have e1 : IntKind.i64.wrap (len + oi) = len + oi := IntWalk.i64_in _ (by omega)
        have d0 := s0.cellAt 1 rfl
        have d2 := s2.cellAt 0 rfl
        have x0 := s0.lt
        have x1 := s1.lt
        have x2 := s2.lt
        have y0 : (0 : Int) ≤ (y : Int) := by omega
        have y1 : (y : Int) < (ts.length : Int) := by omega
        have j0 : (0 : Int) ≤ (j : Int) := by omega
        have hbw2 : b < wr.heap.size := Nat.lt_of_lt_of_le hbw hv.size
        gi_wp2
        refine region_belowIn (fun _ => trivial) rfl (fun _ _ _ _ h => callsIn_wide.2 h) 20 follows_mixed (by kernel_rfl) (by kernel_rfl) ?_
        intro C hC
        simp only [List.take_succ_cons, List.take_zero, List.drop_succ_cons, List.drop_zero]
        repeat (first
          | ((with_reducible refine quiet_plain rfl (fun K hK => ?_)); (focus (apply quiet_val; (focus (intro w' hw; obtain ⟨hcq, hfq⟩ := bcell ((hC.out _).1 hw); go_simp; (first | done | rfl))); (simp only [Act.put, List.setIfInBounds_toArray, List.set_cons_succ, List.set_cons_zero]); (with_reducible refine hK _ ?_); clear hK K)))
          | ((with_reducible refine quiet_skip ?_ ?_); (focus (first | (simp [Region.wanted, yielded]; done) | (simp [Region.wanted, yielded, undef]; done))); simp only [Act.put, List.setIfInBounds_toArray, List.set_cons_succ, List.set_cons_zero])
          | ((with_reducible refine quiet_go ?_ (fun K hK => ?_)); (focus (first | (simp [Region.wanted, yielded]; done) | (simp [Region.wanted, yielded, undef]; done))); (focus (apply quiet_val; (focus (intro w' hw; obtain ⟨hcq, hfq⟩ := bcell ((hC.out _).1 hw); go_simp; (first | done | rfl))); (simp only [Act.put, List.setIfInBounds_toArray, List.set_cons_succ, List.set_cons_zero]); (with_reducible refine hK _ ?_); clear hK K))))
        refine wpQuiet_nil ?_
        intro w1 hb1
        replace hb1 := (hC.out _).1 hb1
        clear hC C
        obtain ⟨hc1, hf1⟩ := bcell hb1
        have g1 := s1.past hb1
        have f1 := g1.frozen y
        have l1 := g1.lt
        have m1 := g1.cellAt y (iarr_get o2 y (by rw [hok2.1]; exact hy))
        have g0 := s0.past hb1
        have g2 := s2.past hb1
        clear hc1 hf1
        gi_wp2
        have hmx : max oy (len + oi) = if oy < len + oi then len + oi else oy := by rw [Int.max_def]; split <;> split <;> omega
        have hv2 : Below w.heap.size V w1 := hv.trans (hb1.mono (Nat.le_of_lt x0))
        have hko2 : KeepsOthers wr w1 := ⟨hb1.size, fun k o h _ => (hb1.block k (Array.getElem?_eq_some_iff.1 h).1).trans h⟩
        have hfold2 : (aft.drop (j + 1)).foldl rel (o2.set y (if oy < len + oi then len + oi else oy)) = aft.foldl rel out := by
          rw [← HFold.out, HDrop.out, List.foldl_cons, HStep.out, hmx]
        have hb0 : (0 : Int) ≤ if oy < len + oi then len + oi else oy := by split <;> omega
        have hb2 : (if oy < len + oi then len + oi else oy) ≤ ((70000 * pre.length + 10000 * j + 10000 : Nat) : Int) := by split <;> omega
        generalize (if oy < len + oi then len + oi else oy) = z at *
        have hrow : Blk (w1.setCell ⟨w.heap.size + 1, y, none⟩ (.int .i64 z)) (w.heap.size + 1) 3 (iarr (o2.set y z)) := by rw [← iarr_set]; exact g1.set_ y _
        have hkb1 : kb < wr.heap.size := Nat.lt_of_lt_of_le hkV hv.size
        have hkr4 : kr < wr.heap.size := by omega
        go_roundw
        case rel => exact ⟨j + 1, o2.set y z, by omega, by go_num, hfold2, (hok2.set_ hb0 hb2).more (by omega), g0.far (by simp), hrow, g2.far (by simp), hv2.setCell (p := ⟨w.heap.size + 1, y, none⟩) (Nat.le_succ _) _, (hko.trans hko2).trans (KeepsOthers.setCell _ _ _), by
          exact ⟨(Below.heap_setCell w1 ⟨w.heap.size + 1, y, none⟩ _ kb (by dsimp only; omega)).trans ((hb1.block _ hkb1).trans hkp.1), (Below.heap_setCell w1 ⟨w.heap.size + 1, y, none⟩ _ kr (by dsimp only; omega)).trans ((hb1.block _ hkr4).trans hkp.2)⟩⟩
        case measure => simp [intOf]; omega
      · have hje : j = aft.length := by omega
        have hres : o2 = outV ts (pre ++ [(ix, i)]) := by rw [HNew.out, ← HFold.out, hje]; simp
        gi_wp2
        refine ⟨hko.from _, ⟨hkp.1, hkp.2⟩, ?_⟩
        dsimp only
        rw [← hres]
        exact ⟨hok2.more (by simp; omega), s0, s1, s2, hp.trans hv, Nat.lt_of_lt_of_le hkV hv.size⟩
  case done =>
    rintro D xs V hD hS ⟨_, p0, p1, p2, hp, _⟩ hK
    have hout : outV ts xs = tailsV ts := by unfold outV tailsV; rw [hS]
    rw [hout] at p1
    have d2 := p2.cellAt 0 rfl
    have x2 := p2.lt
    gi_wp2
    refine ⟨by simp, .inl ⟨_, _, rfl, run_takeDeferred hK, ?_⟩⟩
    exact ⟨_, results_tmp rfl _ _ _, w.heap.size + 1, rfl, p1.putObj (by omega), by omega, hp.trans ⟨rfl, rfl, rfl, by simp, fun k hk => World.putObj_heap_other (by omega)⟩⟩
  case stop =>
    rintro D c pre V _ _ h _
    exact h.elim

end Go.Proofs.YtbojmcopagbheaaGreatDoor
end

section
namespace Go.Proofs.YtbojmcopagbheaaGreatDoor
open Go.RowKit Go.Shelf

set_option maxHeartbeats 2000000 in
set_option maxRecDepth 100000 in
theorem opened_any (B : Nat) (ts : List Task) (A : Option Addr) (c : Nat) (m : Int) (w : World) (hr : TasksIn B w A ts) (hB : B ≤ w.heap.size) (hs : SmallPlan ts) :
    Calls Tryz.prog 57 #[.agg #[.int .i64 m, .slice A ts.length c]] w fun e w' =>
      e = .returned (.tuple #[.agg #[.int .i64 m, .slice A ts.length c], .int .i64 (openV m ts).2]) ∧ Below w.heap.size w w' := by
  have hopen := fun w (h : TasksIn B w A ts) hB => open_any B ts A c m w h hB hs
  clear hs
  go_enter Tryz.func57, Tryz.ntmps57
  go_wp2_with (go_at_call 93; go_must (refine (hopen _ (hr.below ((pa (pa pr)).mono hB)) (by simp; omega)).mono ?_); rintro e w1 ⟨rfl, hb1⟩; have r1 := ((Blk.newAt (t := 102) (cs := #[.int .i64 0, .slice none 0 0]) (w := w.alloc (.cells #[.int .i64 m, .slice A ts.length c] 27)) (n := w.heap.size + 1) (by simp)).past hb1).alloc (o := .cells #[.int .i64 m, .slice A ts.length c] 102); have f0 := r1.frozen 0; have f1 := r1.frozen 1; have e0 := r1.cellAt 0 rfl; have e1 := r1.cellAt 1 rfl; have x1 := r1.lt)
  refine bodyPost_ret (v := .tuple #[.agg #[.int .i64 m, .slice A ts.length c], .int .i64 (openV m ts).2]) (by simp [results, Tryz.results57, go_sem, e0, e1]) rfl ⟨rfl, ?_⟩
  exact ps (ps (pa (pt (pa (pa pr)) hb1)) (by dsimp only; omega)) (by dsimp only; omega)

set_option maxHeartbeats 2000000 in
set_option maxRecDepth 100000 in
theorem end_any (B : Nat) (ts : List Task) (A : Option Addr) (c : Nat) (m : Int) (i : Nat) (s : Int) (w : World) (hr : TasksIn B w A ts) (hB : B ≤ w.heap.size) (hi : i < ts.length) (hs : IntKind.i64.wrap (s + (ts.getD i default).length) = s + (ts.getD i default).length) :
    Calls Tryz.prog 100 #[.agg #[.int .i64 m, .slice A ts.length c], .int .i64 (i : Int), .int .i64 s] w fun e w' =>
      e = .returned (.int .i64 (s + (ts.getD i default).length)) ∧ Below w.heap.size w w' := by
  obtain ⟨b, off, hA, hbB, hct⟩ := hr.at_ hi
  subst hA
  obtain ⟨_, t1, _, _⟩ := hct i hi
  clear hct hr
  have hbw := Nat.lt_of_lt_of_le hbB hB
  generalize (ts.getD i default).length = len at *
  have k2 : (0 : Int) ≤ (i : Int) := by omega
  have k3 : (i : Int) < (ts.length : Int) := by omega
  go_enter Tryz.func100, Tryz.ntmps100
  go_wp2
  go_ret
  exact ⟨rfl, pa pr⟩

def mx (a b : Int) : Int := if a < b then b else a
def lastR (ts : List Task) (xs : List Int) : Nat → Nat → Int → Int
  | 0, _, o => o
  | k + 1, i, o => lastR ts xs k (i + 1) (mx o (xs.getD i 0 + (ts.getD i default).length))
def lastV (ts : List Task) (xs : List Int) : Int := lastR ts xs xs.length 0 0

set_option maxHeartbeats 2000000 in
set_option maxRecDepth 100000 in
theorem last_any (B B2 : Nat) (ts : List Task) (xs : List Int) (A A2 : Option Addr) (c c2 : Nat) (m : Int) (w : World) (hr : TasksIn B w A ts) (hB : B ≤ w.heap.size) (hx : IntsIn B2 w A2 xs) (hB2 : B2 ≤ w.heap.size) (hl : LenOk ts) (hlen : xs.length ≤ ts.length) (h7 : ts.length ≤ 7)
    (hb : ∀ j, 0 ≤ xs.getD j 0 ∧ xs.getD j 0 ≤ 1000000000000) :
    Calls Tryz.prog 97 #[.agg #[.int .i64 m, .slice A ts.length c], .slice A2 xs.length c2] w fun e w' =>
      e = .returned (.int .i64 (lastV ts xs)) ∧ Below w.heap.size w w' := by
  have HL := Lib.hid hl
  have HX := Lib.hid hx
  have HR := Lib.hid hr
  have HV := Lib.hid (show lastV ts xs = lastR ts xs xs.length 0 0 from rfl)
  clear hl hx hr
  go_enter Tryz.func97, Tryz.ntmps97
  go_wp2
  go_loopw [5, 10] (fun ov ix wr => ∃ (o : Int) (i : Nat), ov = .int .i64 o ∧ ix = .int .i64 (i : Int) ∧ i ≤ xs.length ∧ lastR ts xs (xs.length - i) i o = lastV ts xs ∧ Blk wr w.heap.size 102 #[.int .i64 m, .slice A ts.length c] ∧ Below w.heap.size w wr) (fun _ ix _ => xs.length - (intOf ix).toNat)
  case atStart => exact ⟨0, 0, rfl, rfl, Nat.zero_le _, HV.out.symm, Blk.newAt rfl, pa pr⟩
  case round =>
    obtain ⟨o, i, rfl, rfl, hi, hrun, q0, hq⟩ := hrel
    have HRun := Lib.hid hrun
    clear hrun
    have d0 := q0.cellAt 0 rfl
    have d1 := q0.cellAt 1 rfl
    have x0 := q0.lt
    by_cases hlt : i < xs.length
    · obtain ⟨b, off, hA, hbB, hc⟩ := (HX.out.below (hq.mono hB2)).at_ hlt
      subst hA
      have hcell := hc i hlt
      have hbi := hb i
      have hli := HL.out i (by omega)
      have hstep : lastR ts xs (xs.length - (i + 1)) (i + 1) (mx o (xs.getD i 0 + (ts.getD i default).length)) = lastV ts xs := by
        rw [← HRun.out, show xs.length - i = xs.length - (i + 1) + 1 by omega]
        rfl
      have hend := fun W (hT : TasksIn B W A ts) (hBW : B ≤ W.heap.size) => end_any B ts A c m i (xs.getD i 0) W hT hBW (by omega) (IntWalk.i64_in _ (by omega))
      have HEnd := Lib.hid hend
      have HT := Lib.hid (HR.out.below (hq.mono hB))
      have HStep := Lib.hid hstep
      clear hstep hend hc
      generalize xs.getD i 0 = s at *
      generalize (ts.getD i default).length = len at *
      have i0 : (0 : Int) ≤ (i : Int) := by omega
      go_wp2_with (go_at_call 100; refine (HEnd.out _ HT.out (Nat.le_trans hB hq.size)).mono ?_; rintro e w1 ⟨rfl, hb1⟩)
      go_roundw
      case rel => exact ⟨mx o (s + len), i + 1, rfl, by go_num, by omega, HStep.out, q0.past hb1, hq.trans (hb1.mono (Nat.le_of_lt x0))⟩
      case measure => simp [intOf]; omega
    · have hres : lastV ts xs = o := by rw [← HRun.out, show xs.length - i = 0 by omega]; rfl
      have HRes := Lib.hid hres
      clear HRun HV hres
      go_wp2
      go_ret
      exact ⟨ret_int HRes.out.symm, hq⟩

end Go.Proofs.YtbojmcopagbheaaGreatDoor
end

section
namespace Go.Proofs.YtbojmcopagbheaaGreatDoor
open Go.RowKit

/-- What the search holds: starts, when each machine is free, the best schedule so far and its end. -/
structure Srch where
  starts : List Int
  free : List Int
  best : Option (List Int)
  last : Int

/-- How many tasks have not been started. -/
def unset (n d : Nat) : Nat := (List.range n).countP fun i => !d.testBit i

theorem countP_lt {p q : Nat → Bool} : ∀ (l : List Nat), (∀ x ∈ l, p x = true → q x = true) → (∃ x ∈ l, q x = true ∧ p x = false) → l.countP p < l.countP q
  | [], _, h => by simp at h
  | y :: l, h1, h2 => by
    have hle : l.countP p ≤ l.countP q := List.countP_mono_left fun x hx => h1 x (List.mem_cons_of_mem _ hx)
    rw [List.countP_cons, List.countP_cons]
    obtain ⟨x, hx, hq, hp⟩ := h2
    rcases List.mem_cons.1 hx with rfl | hx
    · rw [hq, hp]; simp; omega
    · have hlt := countP_lt l (fun x hx => h1 x (List.mem_cons_of_mem _ hx)) ⟨x, hx, hq, hp⟩
      have hy := h1 y (by simp)
      cases hpy : p y with
      | false => simp; split <;> omega
      | true => rw [hy hpy]; simp; omega

theorem unset_lt {n d i : Nat} (hi : i < n) (h : d.testBit i = false) : unset n (d ||| 2 ^ i) < unset n d := by
  refine countP_lt _ (fun x _ hx => ?_) ⟨i, by simpa using hi, by simp [h], by simp [Nat.testBit_or, Nat.testBit_two_pow_self]⟩
  simp only [Bool.not_eq_true', Nat.testBit_or, Bool.or_eq_false_iff] at hx ⊢
  exact hx.1

theorem unset_le (n d : Nat) : unset n d ≤ n := by
  have := List.countP_le_length (p := fun i => !d.testBit i) (l := List.range n)
  simpa [unset] using this

/-- The earliest start of a task, from those on which it depends. -/
def startV (ts : List Task) (starts : List Int) (s0 : Int) (aft : List Int) : Int := aft.foldl (fun s n => mx s (starts.getD n.toNat 0 + (ts.getD n.toNat default).length)) s0
def startOf (ts : List Task) (st : Srch) (i : Nat) : Int := startV ts st.starts (mx (ts.getD i default).release (st.free.getD (ts.getD i default).machine.toNat 0)) (ts.getD i default).after
def endOf (ts : List Task) (st : Srch) (i : Nat) : Int := startOf ts st i + (ts.getD i default).length
/-- Nothing better can follow. -/
def cutB (tails : List Int) (st : Srch) (i : Nat) (e : Int) : Bool := st.best.isSome && decide (st.last ≤ e + tails.getD i 0)
def leafV (ts : List Task) (st : Srch) : Srch := if st.best.isNone || decide (lastV ts st.starts < st.last) then { st with best := some st.starts, last := lastV ts st.starts } else st
def stepV (ts : List Task) (tails : List Int) (rec_ : Nat → Srch → Srch) (d : Nat) (st : Srch) (i : Nat) : Srch :=
  if readyB ts d i then
    if cutB tails st i (endOf ts st i) then st
    else
      let st2 := rec_ (d ||| 2 ^ i) { st with starts := st.starts.set i (startOf ts st i), free := st.free.set (ts.getD i default).machine.toNat (endOf ts st i) }
      { st2 with free := st2.free.set (ts.getD i default).machine.toNat (st.free.getD (ts.getD i default).machine.toNat 0) }
  else st
def tryF (ts : List Task) (tails : List Int) : Nat → Nat → Srch → Srch
  | 0, _, st => st
  | f + 1, d, st => if d = 2 ^ ts.length - 1 then leafV ts st else (List.range ts.length).foldl (stepV ts tails (tryF ts tails f) d) st

/-- The numbers are in range while fuel f is left and d has been started. -/
def SrchOk (ts : List Task) (f d : Nat) (st : Srch) : Prop :=
  st.starts.length = ts.length ∧ st.free.length = 4 ∧ (∀ j, 0 ≤ st.free.getD j 0 ∧ st.free.getD j 0 ≤ 10000 * (9 - f : Nat)) ∧ (∀ j, 0 ≤ st.starts.getD j 0 ∧ st.starts.getD j 0 ≤ 90000) ∧
  (∀ j, d.testBit j = true → st.starts.getD j 0 + (ts.getD j default).length ≤ 10000 * (9 - f : Nat)) ∧ (∀ b, st.best = some b → b.length = ts.length ∧ ∀ j, 0 ≤ b.getD j 0 ∧ b.getD j 0 ≤ 90000) ∧ 0 ≤ st.last ∧ st.last ≤ 1000000

theorem getD_set (l : List Int) (k j : Nat) (x : Int) : (l.set k x).getD j 0 = if k = j ∧ j < l.length then x else l.getD j 0 := by
  simp only [List.getD, List.getElem?_set]
  by_cases h : k = j
  · subst h
    by_cases h2 : k < l.length
    · simp [h2]
    · simp [h2]
  · simp [h]

theorem set_back (l : List Int) (k : Nat) (x : Int) : (l.set k x).set k (l.getD k 0) = l := by
  rw [List.set_set]
  by_cases h : k < l.length
  · simp [List.getD, h]
  · exact List.set_eq_of_length_le (by omega)

/-- A valid plan: machines, lengths and releases in range. -/
def MachOk (ts : List Task) : Prop := ∀ i, i < ts.length → 0 ≤ (ts.getD i default).machine ∧ (ts.getD i default).machine < 4

theorem start_bound {ts : List Task} {starts : List Int} {K : Int} : ∀ (aft : List Int) (s0 : Int), 0 ≤ s0 → s0 ≤ K → (∀ n ∈ aft, starts.getD n.toNat 0 + (ts.getD n.toNat default).length ≤ K) → 0 ≤ startV ts starts s0 aft ∧ startV ts starts s0 aft ≤ K
  | [], s0, h1, h2, _ => ⟨h1, h2⟩
  | n :: aft, s0, h1, h2, h3 => by
    have hn := h3 n (by simp)
    show 0 ≤ startV ts starts (mx s0 _) aft ∧ _
    refine start_bound aft _ ?_ ?_ (fun x hx => h3 x (by simp [hx]))
    · unfold mx; split <;> omega
    · unfold mx; split <;> omega

theorem startOf_bound {ts : List Task} (ha : AcyOk ts) (hl : LenOk ts) {f d i : Nat} {st : Srch} (hf : f ≤ 8) (h : SrchOk ts f d st) (hi : i < ts.length) (hr : readyB ts d i = true) : 0 ≤ startOf ts st i ∧ startOf ts st i ≤ 10000 * (9 - f : Nat) := by
  obtain ⟨h1, h2, h3, h4, h5, _⟩ := h
  obtain ⟨_, _, hl3, hl4⟩ := hl i hi
  have hfm := h3 (ts.getD i default).machine.toNat
  refine start_bound _ _ ?_ ?_ fun n hn => ?_
  · unfold mx; split <;> omega
  · unfold mx; split <;> omega
  · obtain ⟨hn1, hn2⟩ := after_in ha.1 hi n hn
    obtain ⟨x, rfl⟩ : ∃ x : Nat, n = (x : Int) := ⟨n.toNat, by omega⟩
    rw [Int.toNat_natCast]
    exact h5 x ((readyB_iff.1 hr).2 x ((needs_closed ha.1 hi).1 x hn))

theorem lastR_bound {ts : List Task} {xs : List Int} (hl : ∀ i, i < xs.length → (ts.getD i default).length ≤ 10000) (hx : ∀ j, 0 ≤ xs.getD j 0 ∧ xs.getD j 0 ≤ 90000) : ∀ (k i : Nat) (o : Int), i + k = xs.length → 0 ≤ o → o ≤ 1000000 → 0 ≤ lastR ts xs k i o ∧ lastR ts xs k i o ≤ 1000000
  | 0, _, _, _, h1, h2 => ⟨h1, h2⟩
  | k + 1, i, o, h0, h1, h2 => by
    have := hl i (by omega)
    have := hx i
    refine lastR_bound hl hx k (i + 1) _ (by omega) ?_ ?_
    · unfold mx; split <;> omega
    · unfold mx; split <;> omega

/-- What the search leaves as it was. -/
def Good (ts : List Task) (f d : Nat) (st r : Srch) : Prop := SrchOk ts f d r ∧ r.free = st.free ∧ ∀ j, d.testBit j = true → r.starts.getD j 0 = st.starts.getD j 0

theorem leaf_good {ts : List Task} (hl : LenOk ts) {f d : Nat} {st : Srch} (h : SrchOk ts f d st) : Good ts f d st (leafV ts st) := by
  unfold leafV
  split
  · obtain ⟨h1, h2, h3, h4, h5, h6, h7, h8⟩ := h
    obtain ⟨b1, b2⟩ := lastR_bound (ts := ts) (xs := st.starts) (fun i hi => (hl i (by omega)).2.1) h4 st.starts.length 0 0 (by omega) (by omega) (by omega)
    exact ⟨⟨h1, h2, h3, h4, h5, fun b hb => (by injection hb with hb; subst hb; exact ⟨h1, h4⟩), b1, b2⟩, rfl, fun _ _ => rfl⟩
  · exact ⟨h, rfl, fun _ _ => rfl⟩

theorem step_ok {ts : List Task} (ha : AcyOk ts) (hl : LenOk ts) {f d i : Nat} {st : Srch} (hf : f + 1 ≤ 8) (h : SrchOk ts (f + 1) d st) (hi : i < ts.length) (hr : readyB ts d i = true) :
    SrchOk ts f (d ||| 2 ^ i) { st with starts := st.starts.set i (startOf ts st i), free := st.free.set (ts.getD i default).machine.toNat (endOf ts st i) } := by
  obtain ⟨b1, b2⟩ := startOf_bound ha hl hf h hi hr
  obtain ⟨h1, h2, h3, h4, h5, h6, h7, h8⟩ := h
  obtain ⟨l1, l2, _, _⟩ := hl i hi
  have he : endOf ts st i = startOf ts st i + (ts.getD i default).length := rfl
  have e9 : ((9 - f : Nat) : Int) = ((9 - (f + 1) : Nat) : Int) + 1 := by omega
  refine ⟨by simpa using h1, by simpa using h2, fun j => ?_, fun j => ?_, fun j hj => ?_, h6, h7, h8⟩
  · have := h3 j
    dsimp only
    rw [getD_set]
    split <;> omega
  · have := h4 j
    dsimp only
    rw [getD_set]
    split <;> omega
  · dsimp only
    rw [getD_set]
    by_cases e : i = j
    · subst e
      rw [if_pos ⟨rfl, by omega⟩]
      omega
    · rw [if_neg (fun hh => e hh.1)]
      rw [Nat.testBit_or, Nat.testBit_two_pow] at hj
      have hj' : d.testBit j = true := by simpa [e] using hj
      have := h5 j hj'
      omega

theorem step_good {ts : List Task} (ha : AcyOk ts) (hl : LenOk ts) {tails : List Int} {rec_ : Nat → Srch → Srch} {f d i : Nat} {st : Srch} (hf : f + 1 ≤ 8) (h : SrchOk ts (f + 1) d st) (hi : i < ts.length)
    (hrec : ∀ st', SrchOk ts f (d ||| 2 ^ i) st' → readyB ts d i = true → Good ts f (d ||| 2 ^ i) st' (rec_ (d ||| 2 ^ i) st')) : Good ts (f + 1) d st (stepV ts tails rec_ d st i) := by
  unfold stepV
  by_cases hr : readyB ts d i = true
  · rw [if_pos hr]
    split
    · exact ⟨h, rfl, fun _ _ => rfl⟩
    · obtain ⟨⟨g1, g2, g3, g4, g5, g6, g7, g8⟩, k1, k2⟩ := hrec _ (step_ok ha hl hf h hi hr) hr
      obtain ⟨h1, h2, h3, h4, h5, h6, h7, h8⟩ := h
      dsimp only at k1 k2 ⊢
      generalize rec_ (d ||| 2 ^ i) _ = r at *
      have hfree : r.free.set (ts.getD i default).machine.toNat (st.free.getD (ts.getD i default).machine.toNat 0) = st.free := by rw [k1, set_back]
      rw [hfree]
      have hst : ∀ j, d.testBit j = true → r.starts.getD j 0 = st.starts.getD j 0 := fun j hj => by
        have hij : ¬ i = j := fun e => by
          have := (readyB_iff.1 hr).1
          rw [e, hj] at this
          cases this
        rw [k2 j (by rw [Nat.testBit_or, hj]; rfl), getD_set, if_neg (fun hh => hij hh.1)]
      exact ⟨⟨g1, h2, h3, g4, fun j hj => by rw [hst j hj]; exact h5 j hj, g6, g7, g8⟩, rfl, hst⟩
  · rw [if_neg hr]
    exact ⟨h, rfl, fun _ _ => rfl⟩

theorem Good.trans {ts : List Task} {f d : Nat} {a b c : Srch} (h : Good ts f d a b) (k : Good ts f d b c) : Good ts f d a c := ⟨k.1, k.2.1.trans h.2.1, fun j hj => (k.2.2 j hj).trans (h.2.2 j hj)⟩

theorem try_good {ts : List Task} (ha : AcyOk ts) (hl : LenOk ts) {tails : List Int} : ∀ (f d : Nat) (st : Srch), f ≤ 8 → SrchOk ts f d st → Good ts f d st (tryF ts tails f d st)
  | 0, d, st, _, h => ⟨h, rfl, fun _ _ => rfl⟩
  | f + 1, d, st, hf, h => by
    unfold tryF
    split
    · exact leaf_good hl h
    · have : ∀ (l : List Nat) (s : Srch), (∀ i ∈ l, i < ts.length) → SrchOk ts (f + 1) d s → Good ts (f + 1) d s (l.foldl (stepV ts tails (tryF ts tails f) d) s) := by
        intro l
        induction l with
        | nil => exact fun s _ h => ⟨h, rfl, fun _ _ => rfl⟩
        | cons i l ih =>
          intro s hi h
          have g := step_good (tails := tails) (rec_ := tryF ts tails f) ha hl hf h (hi i (by simp)) (fun st' h' _ => try_good ha hl f _ st' (by omega) h')
          exact g.trans (ih _ (fun x hx => hi x (by simp [hx])) g.1)
      exact this _ _ (fun i hi => by simpa using hi) h

end Go.Proofs.YtbojmcopagbheaaGreatDoor
end

section
namespace Go.Proofs.YtbojmcopagbheaaGreatDoor
open Go.RowKit Go.Shelf

/-- All but the search's two blocks is as it was. -/
def SKeep (sb rb : Nat) (w w' : World) : Prop := Below 0 w w' ∧ ∀ k, k < w.heap.size → k ≠ sb → k ≠ rb → w'.heap[k]? = w.heap[k]?
theorem SKeep.refl (sb rb : Nat) (w : World) : SKeep sb rb w w := ⟨Below.refl _ _, fun _ _ _ _ => rfl⟩
theorem SKeep.trans {sb rb : Nat} {a b c : World} (h : SKeep sb rb a b) (k : SKeep sb rb b c) : SKeep sb rb a c :=
  ⟨h.1.trans k.1, fun j hj h1 h2 => (k.2 j (Nat.lt_of_lt_of_le hj h.1.size) h1 h2).trans (h.2 j hj h1 h2)⟩
theorem SKeep.of_below {sb rb : Nat} {a b : World} (h : Below a.heap.size a b) : SKeep sb rb a b := ⟨h.mono (Nat.zero_le _), fun j hj _ _ => h.block j hj⟩
theorem SKeep.set_ {sb rb : Nat} {a : World} {p : Addr} {v : Value} (h : p.block = sb ∨ p.block = rb) : SKeep sb rb a (a.setCell p v) :=
  ⟨(Below.refl 0 a).setCell (Nat.zero_le _) v, fun j _ h1 h2 => Below.heap_setCell _ _ _ _ (by rcases h with h | h <;> omega)⟩
theorem SKeep.below {sb rb B : Nat} {a b : World} (h : SKeep sb rb a b) (hs : B ≤ sb) (hr : B ≤ rb) (hB : B ≤ a.heap.size) : Below B a b :=
  ⟨h.1.os, h.1.tape, h.1.output, h.1.size, fun k hk => h.2 k (by omega) (by omega) (by omega)⟩
theorem Blk.skeep {sb rb g : Nat} {t : TypeId} {cs : Array Value} {a b : World} (h : Blk a g t cs) (k : SKeep sb rb a b) (h1 : g ≠ sb) (h2 : g ≠ rb) : Blk b g t cs := (k.2 g h.lt h1 h2).trans h

/-- The best schedule so far, as a slice. -/
def BestIs (sb rb : Nat) (W : World) : Option (List Int) → Value → Prop
  | none, v => v = .slice none 0 0
  | some b, v => ∃ A c, v = .slice A b.length c ∧ (b = [] ∨ ∃ g off, A = some ⟨g, off, none⟩ ∧ g ≠ sb ∧ g ≠ rb ∧ g < W.heap.size ∧ ∀ j, j < b.length → W.cell? ⟨g, off + j, none⟩ = some (.int .i64 (b.getD j 0)))
theorem BestIs.skeep {sb rb : Nat} {W W' : World} {o : Option (List Int)} {v : Value} (h : BestIs sb rb W o v) (k : SKeep sb rb W W') : BestIs sb rb W' o v := by
  cases o with
  | none => exact h
  | some b =>
    obtain ⟨A, c, hv, h⟩ := h
    refine ⟨A, c, hv, ?_⟩
    rcases h with h | ⟨g, off, hA, h1, h2, h3, h4⟩
    · exact .inl h
    · exact .inr ⟨g, off, hA, h1, h2, Nat.lt_of_lt_of_le h3 k.1.size, fun j hj => by
        have := h4 j hj
        unfold World.cell? at *
        dsimp only at *
        rw [k.2 g h3 h1 h2]
        exact this⟩

def srchCells (m : Int) (A : Option Addr) (n c tb rb : Nat) (st : Srch) (bv : Value) : Array Value :=
  #[.int .i64 m, .slice A n c, .slice (some ⟨tb, 0, none⟩) n n, .slice (some ⟨rb, 0, none⟩) n n, .int .i64 (st.free.getD 0 0), .int .i64 (st.free.getD 1 0), .int .i64 (st.free.getD 2 0), .int .i64 (st.free.getD 3 0), bv, .int .i64 st.last]

/-- What the search holds, in memory. -/
def SrchIn (ts : List Task) (sb rb tb c : Nat) (m : Int) (A : Option Addr) (tails : List Int) (st : Srch) (bv : Value) (W : World) : Prop :=
  Blk W sb 109 (srchCells m A ts.length c tb rb st bv) ∧ Blk W rb 3 (iarr st.starts) ∧ Blk W tb 3 (iarr tails) ∧ BestIs sb rb W st.best bv

theorem SrchIn.past {ts : List Task} {sb rb tb c : Nat} {m : Int} {A : Option Addr} {tails : List Int} {st : Srch} {bv : Value} {W W' : World} (h : SrchIn ts sb rb tb c m A tails st bv W) (hb : Below W.heap.size W W') : SrchIn ts sb rb tb c m A tails st bv W' :=
  ⟨h.1.past hb, h.2.1.past hb, h.2.2.1.past hb, h.2.2.2.skeep (SKeep.of_below hb)⟩

end Go.Proofs.YtbojmcopagbheaaGreatDoor
end
