/- A region that draws its order: what only reads, under S, is taken first; what is left comes up one by one; S need not hold behind the last operation. No condition.
Contract: the specification's CopyPlan: a plan in memory of its own. Lengths at most 1000. -/
import Derived.Test.YtbojmcopagbheaaGreatDoorQ3
import Derived.OrdersHeld
import Derived.Deep.RegionHeld
import Derived.Test.YtbojmcopagbheaaGreatDoorQ8

section
namespace Go.Proofs.YtbojmcopagbheaaGreatDoor
open Go.RowKit

section
variable {P : Program} {ops : Array Oper} {md : Region.Mode} {Q : Exit → Act → World → Prop} {S : World → Prop} {n : Nat}

/-- Whatever order is picked; S holds behind each of the first n operations. -/
def wpAnyG (P : Program) (md : Region.Mode) (ops : Array Oper) (Q : Exit → Act → World → Prop) (S : World → Prop) (n : Nat) : Nat → Array Bool → Act → World → Prop
  | 0, listed, a, w => Region.ready md ops listed = [] ∧ Q .normal a w
  | fuel + 1, listed, a, w =>
    (Region.ready md ops listed = [] → Q .normal a w) ∧
    ∀ i ∈ Region.ready md ops listed, wpOp P ops Q i (fun a' w' => (i < n → S w') ∧ wpAnyG P md ops Q S n fuel (listed.setIfInBounds i true) a' w') a w

theorem wpAny_of_G : ∀ (fuel : Nat) (listed : Array Bool) (a : Act) (w : World), wpAnyG P md ops Q S n fuel listed a w → wpAny P md ops Q fuel listed a w
  | 0, _, _, _, h => h
  | fuel + 1, _, _, _, h => ⟨h.1, fun i hi => wpOp_mono (fun a' w' h' => wpAny_of_G fuel _ a' w' h'.2) (h.2 i hi)⟩

theorem wpAnyG_first {i : Nat} {oi : Oper} {v : Value} (hi : ops[i]? = some oi) (hsel : ∀ (j : Nat) (o : Oper) cs b, ops[j]? = some o → o.op ≠ .select cs b) (hsink : Region.sinkB md ops n = true) (hch : Region.chainB md ops n = true) (hn : n < ops.size) (hin : i < n)
    (hQ : ∀ c a w, Q (.panic c) (a.put oi.dst v) w → Q (.panic c) a w) :
    ∀ (fuel : Nat) (listed : Array Bool) (a : Act) (w : World), HeadInv md ops n listed →
      (∀ j oj, ops[j]? = some oj → j ≠ i → listed.getD j true = false → (∀ e ∈ oj.after, Region.binds md e = true → e.on ≠ i) → oi.apart ops oj = true) →
      i ∈ Region.ready md ops listed → YieldsIf P ops S oi v a → S w →
      wpAnyG P md ops Q S n fuel (listed.setIfInBounds i true) (a.put oi.dst v) w → wpAnyG P md ops Q S n (fuel + 1) listed a w := by
  intro fuel
  induction fuel with
  | zero =>
    intro listed a w _ _ hr hy hS H
    refine ⟨fun h => (by rw [h] at hr; cases hr), fun j hj => ?_⟩
    by_cases hji : j = i
    · subst hji; exact hy.wpOp hi hS ⟨fun _ => hS, H⟩
    · have := ready_mono hj hji
      rw [H.1] at this
      cases this
  | succ fuel ih =>
    intro listed a w inv hfree hr hy hS H
    have hun := (mem_ready.1 hr).1
    refine ⟨fun h => (by rw [h] at hr; cases hr), fun j hj => ?_⟩
    by_cases hji : j = i
    · subst hji; exact hy.wpOp hi hS ⟨fun _ => hS, H⟩
    · have hjn : j < n := (Nat.lt_or_ge j n).resolve_right fun h => tail_waits hsink hch hn inv _ i rfl hin hun j h hj
      have h1 := H.2 j (ready_mono hj hji)
      obtain ⟨hjun, oj, hoj, hall⟩ := mem_ready.1 hj
      have hnot : ∀ e ∈ oj.after, Region.binds md e = true → e.on ≠ i := fun e he hb heq => by
        have h2 := hall e he hb
        rw [heq, getD_both hun] at h2
        cases h2
      have h2 := wpOp_putIf hoj (hfree j oj hoj hji hjun hnot) (fun cs b => hsel i oi cs b hi) (fun cs b => hsel j oj cs b hoj) hQ hy h1
      have hfree' : ∀ k ok, ops[k]? = some ok → k ≠ i → (listed.setIfInBounds j true).getD k true = false →
          (∀ e ∈ ok.after, Region.binds md e = true → e.on ≠ i) → oi.apart ops ok = true := fun k ok hk hki hun2 hno => by
        refine hfree k ok hk hki ?_ hno
        by_cases hjk : j = k
        · subst hjk; exact hjun
        · rw [getD_set_ne true hjk] at hun2; exact hun2
      refine wpOp_mono (fun a' w' h3 => ⟨h3.2.1, ih (listed.setIfInBounds j true) a' w' (inv.set hj hjn) hfree' (ready_mono hr (Ne.symm hji)) h3.1 (h3.2.1 hjn) ?_⟩) h2
      rw [Array.setIfInBounds_comm _ _ hji]
      exact h3.2.2

theorem wpAnyG_take {i : Nat} {oi : Oper} {v : Value} {fuel : Nat} {listed : Array Bool} {a : Act} {w : World} (hi : ops[i]? = some oi)
    (hsel : Region.noSelect ops = true) (hf : Region.free md ops listed i = true) (hr : (Region.ready md ops listed).contains i = true)
    (hsink : Region.sinkB md ops n = true) (hch : Region.chainB md ops n = true) (hn : n < ops.size) (hin : i < n) (inv : HeadInv md ops n listed)
    (hQ : ∀ c a w, Q (.panic c) (a.put oi.dst v) w → Q (.panic c) a w) (hy : YieldsIf P ops S oi v a) (hS : S w)
    (h : HeadInv md ops n (listed.setIfInBounds i true) → wpAnyG P md ops Q S n fuel (listed.setIfInBounds i true) (a.put oi.dst v) w) : wpAnyG P md ops Q S n (fuel + 1) listed a w :=
  wpAnyG_first hi (Region.noSelect_spec hsel) hsink hch hn hin hQ fuel listed a w inv (Region.free_spec hi hf) (by simpa using hr) hy hS (h (inv.set (by simpa using hr) hin))

/-- The only one that may come up comes up. -/
theorem wpAnyG_one {i : Nat} {o : Oper} {fuel : Nat} {listed : Array Bool} {a : Act} {w : World} (hr : Region.ready md ops listed = [i]) (ho : ops[i]? = some o) (hg : o.guard = none)
    (h : ∀ K' : Act → World → Prop, Hid (∀ a w, (i < n → S w) → wpAnyG P md ops Q S n fuel (listed.setIfInBounds i true) a w → K' a w) → o.wp P a w K' Q) : wpAnyG P md ops Q S n (fuel + 1) listed a w := by
  refine ⟨fun h0 => (by rw [hr] at h0; cases h0), fun j hj => ?_⟩
  rw [hr] at hj
  obtain rfl : j = i := by simpa using hj
  refine wpOp_step ho fun K' hK => ?_
  rw [if_pos (by simp [Region.wanted, hg])]
  exact h K' (Lib.hid fun a w h1 h2 => hK a w ⟨h1, h2⟩)
theorem wpAnyG_done {fuel : Nat} {listed : Array Bool} {a : Act} {w : World} (hr : Region.ready md ops listed = []) (h : Q .normal a w) : wpAnyG P md ops Q S n fuel listed a w := by
  cases fuel with
  | zero => exact ⟨hr, h⟩
  | succ fuel => exact ⟨fun _ => h, fun i hi => (by rw [hr] at hi; cases hi)⟩

theorem wp_region_G {id : Nat} {l : List Oper} {a : Act} {w : World} (n : Nat) (hm : P.follows .mixedOrders = true) (S : World → Prop) (hS : S w.drew)
    (h : S w.drew → HeadInv .any l.toArray n (Array.replicate l.toArray.size false) → wpAnyG P .any l.toArray Q S n l.toArray.size (Array.replicate l.toArray.size false) a w.drew) : (Code.region id l.toArray true).wp P Q a w :=
  wp_region_any hm (wpAny_of_G _ _ _ _ (h hS ⟨by simp, fun j oj _ hl => (by rw [getD_replicate_false] at hl; cases hl), fun t _ ht => getD_in (by simpa using ht) (getD_replicate_false _ _)⟩))
end

end Go.Proofs.YtbojmcopagbheaaGreatDoor
end

section
namespace Go.Proofs.YtbojmcopagbheaaGreatDoor
open Go.RowKit

/-- The values us are the cells of the tasks ts, one behind the other. -/
def TaskRow (w : World) (us : List Value) (ts : List Task) : Prop :=
  us.length = ts.length * 4 ∧ ∀ i, i < ts.length → us[i * 4]? = some (.int .i64 (ts.getD i default).machine) ∧ us[i * 4 + 1]? = some (.int .i64 (ts.getD i default).length) ∧ us[i * 4 + 2]? = some (.int .i64 (ts.getD i default).release) ∧
    ∃ A c, us[i * 4 + 3]? = some (.slice A (ts.getD i default).after.length c) ∧ NumRow w A (ts.getD i default).after ∧ (ts.getD i default).after.length ≤ c

section
variable {w w' : World} {us : List Value} {ts : List Task}
theorem TaskRow.nil : TaskRow w [] [] := ⟨rfl, fun i hi => by simp at hi⟩
theorem TaskRow.same (h : TaskRow w us ts) (hk : ∀ (b : Nat) (cs : Array Value) (fz : Nat × Nat), w.heap[b]? = some (Obj.cells cs 3 fz) → w'.heap[b]? = w.heap[b]?) : TaskRow w' us ts :=
  ⟨h.1, fun i hi => by
    obtain ⟨h0, h1, h2, A, c, h3, h4, h5⟩ := h.2 i hi
    exact ⟨h0, h1, h2, A, c, h3, h4.same hk, h5⟩⟩
theorem TaskRow.snoc (h : TaskRow w us ts) {x : Task} {A : Option Addr} {c : Nat} (hx : NumRow w A x.after) (hc : x.after.length ≤ c) :
    TaskRow w (us ++ [.int .i64 x.machine, .int .i64 x.length, .int .i64 x.release, .slice A x.after.length c]) (ts ++ [x]) := by
  refine ⟨by simp [h.1]; omega, fun i hi => ?_⟩
  rcases Nat.lt_or_ge i ts.length with hl | hl
  · obtain ⟨h0, h1, h2, A', c', h3, h4, h5⟩ := h.2 i hl
    have e : (ts ++ [x]).getD i default = ts.getD i default := by simp [List.getD, List.getElem?_append_left hl]
    have hu := h.1
    rw [e]
    refine ⟨?_, ?_, ?_, A', c', ?_, h4, h5⟩
    all_goals rw [List.getElem?_append_left (by omega)]; assumption
  · have hie : i = ts.length := by simp at hi; omega
    subst hie
    have e : (ts ++ [x]).getD ts.length default = x := by simp [List.getD]
    have hu := h.1
    rw [e]
    refine ⟨?_, ?_, ?_, A, c, ?_, hx, hc⟩
    · rw [List.getElem?_append_right (by omega), show ts.length * 4 - us.length = 0 by omega]; rfl
    · rw [List.getElem?_append_right (by omega), show ts.length * 4 + 1 - us.length = 1 by omega]; rfl
    · rw [List.getElem?_append_right (by omega), show ts.length * 4 + 2 - us.length = 2 by omega]; rfl
    · rw [List.getElem?_append_right (by omega), show ts.length * 4 + 3 - us.length = 3 by omega]; rfl
theorem TaskRow.tasks {base n c : Nat} {A : Option Addr} (h : TaskRow w us ts) (ho : w.ownsRow base 41 4 (.slice A n c) n us) : TasksIn w.heap.size w A ts := by
  rcases cellsIn_of_own ho with hu | ⟨b, off, hA, hb, hc⟩
  · refine .inl ?_
    have := h.1
    rw [hu] at this
    exact List.eq_nil_of_length_eq_zero (by simp at this; omega)
  · refine .inr ⟨b, off, hA, hb, fun i hi => ?_⟩
    obtain ⟨h0, h1, h2, A', c', h3, h4, h5⟩ := h.2 i hi
    have hcell : ∀ q v, us[i * 4 + q]? = some v → w.cell? ⟨b, off + i * 4 + q, none⟩ = some v := fun q v hv => by
      rw [Nat.add_assoc]
      exact (hc _ (List.getElem?_eq_some_iff.1 hv).1).trans hv
    exact ⟨hcell 0 _ h0, hcell 1 _ h1, hcell 2 _ h2, A', c', hcell 3 _ h3, h4.ints, h5⟩
/-- A store into a block of another kind leaves a row of the call's own as it is. -/
theorem own_cell {base size n g : Nat} {e t : TypeId} {v : Value} {xs : List Value} {cs : Array Value} (ho : w.ownsRow base e size v n xs) (hb : Blk w g t cs) (hne : e ≠ t) {p : Addr} (hp : p.block = g) (u : Value) : (w.setCell p u).ownsRow base e size v n xs := by
  obtain ⟨h1, h2⟩ := ho
  refine ⟨h1, ?_⟩
  rcases h2 with h2 | ⟨g', cap, cur, h3, h4, h5, h6⟩
  · exact .inl h2
  · refine .inr ⟨g', cap, cur, h3, h4, ?_, h6⟩
    rw [Below.heap_setCell _ _ _ _ fun e' => ?_]
    · exact h5
    · rw [hp] at e'
      subst e'
      unfold Blk at hb
      rw [hb] at h5
      injection h5 with h5
      injection h5 with _ h5
      exact hne h5.symm
end

theorem own_pastP {w w' : World} {base : Nat} {e : TypeId} {size n : Nat} {v : Value} {xs : List Value} (hb : Below w.heap.size w w') (h : w.ownsRow base e size v n xs) : w'.ownsRow base e size v n xs :=
  h.kept (row := none) ⟨hb.os, hb.tape, hb.output, hb.size, fun i hi _ => hb.block i hi⟩ (by cases v.ownBlock <;> simp)

theorem cellsIn_blk (w : World) (t : TypeId) (cs : Array Value) : CellsIn (w.heap.size + 1) (w.alloc (.cells cs t)) (some ⟨w.heap.size, 0, none⟩) cs.toList := .inr ⟨w.heap.size, 0, rfl, by omega, fun q hq => by
  rw [Nat.zero_add]
  exact ((Blk.new w t cs).cell q).trans (by simp)⟩

theorem task_info : (Tryz.prog.info? 41).map (fun i => (i.zero, i.size, i.bytes)) = some (some (.agg #[.int .i64 0, .int .i64 0, .int .i64 0, .slice none 0 0]), 4, 48) := by kernel_rfl

/-- A plan of the callee's own. -/
def PlanRet (w : World) (m : Int) (ts : List Task) (e : Ending) (w' : World) : Prop :=
  ∃ A c, e = .returned (.agg #[.int .i64 m, .slice A ts.length c]) ∧ TasksIn w'.heap.size w' A ts ∧ ts.length ≤ c ∧ Below w.heap.size w w'

theorem own_plan {w : World} {base g n : Nat} {v : Value} {xs : List Value} {cs : Array Value} (ho : w.ownsRow base 41 4 v n xs) (hb : Blk w g 27 cs) : some g ≠ v.ownBlock := fun e => by
  rcases ho.2 with ⟨h1, _⟩ | ⟨g', cap, cur, h1, _, hh, _⟩
  · rw [h1] at e; cases e
  · rw [h1] at e
    have : g = g' := by simpa [Value.ownBlock] using e
    subst this
    unfold Blk at hb
    rw [hb] at hh
    injection hh with hh
    injection hh with _ hh
    exact absurd hh (by decide)

set_option maxHeartbeats 4000000 in
set_option maxRecDepth 100000 in
theorem copyPlan_any (B : Nat) (ts : List Task) (A : Option Addr) (n c : Nat) (m : Int) (w : World) (hr : TasksIn B w A ts) (hn : ts.length = n) (hB : B ≤ w.heap.size) (hs : SmallPlan ts) :
    Calls Tryz.prog 16 #[.agg #[.int .i64 m, .slice A n c]] w (PlanRet w m ts) := by
  obtain ⟨i0, hi0, hz0, hz1, hz2⟩ := info_parts task_info
  obtain ⟨hs1, hs2⟩ := hs
  have HR := Lib.hid hr
  have HS2 := Lib.hid hs2
  clear hr hs2
  subst hn
  go_enter Tryz.func16, Tryz.ntmps16
  go_wp2
  go_loopw [4] (fun ix wr => ∃ (i : Nat) (A' : Option Addr) (c' : Nat) (us : List Value), ix = .int .i64 (i : Int) ∧ i ≤ ts.length ∧ Blk wr w.heap.size 27 #[.int .i64 m, .slice A ts.length c] ∧ Blk wr (w.heap.size + 1) 27 #[.int .i64 0, .slice none 0 0] ∧ Blk wr (w.heap.size + 1 + 1) 27 #[.int .i64 m, .slice A' i c'] ∧ wr.ownsRow w.heap.size 41 4 (.slice A' i c') i us ∧ TaskRow wr us (ts.take i) ∧ Below w.heap.size w wr) (fun ix _ => ts.length - (intOf ix).toNat)
  case atStart => exact ⟨0, none, 0, [], rfl, Nat.zero_le _, ((Blk.newAt rfl).alloc).alloc, (Blk.newAt (by simp)).alloc, Blk.newAt (by simp), World.ownsRow_nil _ _ _ _, TaskRow.nil, pa (pa (pa pr))⟩
  case round =>
    obtain ⟨i, A', c', us, rfl, hi, k0, k1, k2, hown, hrow, hq⟩ := hrel
    have e1 : wr.cell? ⟨w.heap.size, 1, none⟩ = some (.slice A ts.length c) := k0.cellAt 1 rfl
    have g1 : wr.cell? ⟨w.heap.size + 1 + 1, 1, none⟩ = some (.slice A' i c') := k2.cellAt 1 rfl
    have x0 := k0.lt
    have x2 := k2.lt
    by_cases hlt : i < ts.length
    · obtain ⟨b, off, hA, hbB, hct⟩ := HR.out.at_ hlt
      subst hA
      obtain ⟨t0w, t1w, t2w, A3, c3, t3w, tr, tc⟩ := hct i hlt
      have HT0 := Lib.hid t0w
      have HT1 := Lib.hid t1w
      have HT2 := Lib.hid t2w
      have HT3 := Lib.hid t3w
      have n0 : (0 : Int) ≤ (i : Int) := by omega
      have n1 : (i : Int) < (ts.length : Int) := by omega
      have hbw : b < w.heap.size := by omega
      have HStep := Lib.hid (show ts.take (i + 1) = ts.take i ++ [ts.getD i default] by
        have e : ts.getD i default = ts[i] := by simp [List.getD, hlt]
        rw [List.take_succ_eq_append_getElem hlt, e])
      have hsm := HS2.out i hlt
      have hct' := fun W (hW : Below w.heap.size w W) => copyTask_any B (ts.getD i default) A3 _ c3 W rfl (tr.below (hW.mono hB)) (Nat.le_trans hB hW.size) hsm
      clear hct t0w t1w t2w t3w tr tc
      generalize ts.getD i default = x at *
      have HCt := Lib.hid hct'
      clear hct'
      have HOwn := Lib.hid hown
      have HRow := Lib.hid hrow
      have HQ := Lib.hid hq
      have K0 := Lib.hid k0
      have K1 := Lib.hid k1
      have K2 := Lib.hid k2
      clear hown hrow hq k0 k1 k2
      go_wp2
      clear e1
      have HS := Lib.hid (show ∀ W, Below w.heap.size w W → Blk W w.heap.size 27 #[.int .i64 m, .slice (some ⟨b, off, none⟩) ts.length c] → Blk W (w.heap.size + 1 + 1) 27 #[.int .i64 m, .slice A' i c'] → W.cell? ⟨w.heap.size, 1, none⟩ = some (.slice (some ⟨b, off, none⟩) ts.length c) ∧ W.cell? ⟨w.heap.size + 1 + 1, 1, none⟩ = some (.slice A' i c') ∧ W.cell? ⟨b, off + i * 4, none⟩ = some (.int .i64 x.machine) ∧ W.cell? ⟨b, off + i * 4 + 1, none⟩ = some (.int .i64 x.length) ∧ W.cell? ⟨b, off + i * 4 + 2, none⟩ = some (.int .i64 x.release) ∧ W.cell? ⟨b, off + i * 4 + 3, none⟩ = some (.slice A3 x.after.length c3) from fun W hW h0 h2 =>
        ⟨h0.cellAt 1 rfl, h2.cellAt 1 rfl, ((bcell hW).1 _ _ hbw).trans HT0.out, ((bcell hW).1 _ _ hbw).trans HT1.out, ((bcell hW).1 _ _ hbw).trans HT2.out, ((bcell hW).1 _ _ hbw).trans HT3.out⟩)
      have hqs := HQ.out.size
      clear g1
      refine wp_region_G 11 follows_mixed (fun W => W.cell? ⟨w.heap.size, 1, none⟩ = some (.slice (some ⟨b, off, none⟩) ts.length c) ∧ W.cell? ⟨w.heap.size + 1 + 1, 1, none⟩ = some (.slice A' i c') ∧ W.cell? ⟨b, off + i * 4, none⟩ = some (.int .i64 x.machine) ∧ W.cell? ⟨b, off + i * 4 + 1, none⟩ = some (.int .i64 x.length) ∧ W.cell? ⟨b, off + i * 4 + 2, none⟩ = some (.int .i64 x.release) ∧ W.cell? ⟨b, off + i * 4 + 3, none⟩ = some (.slice A3 x.after.length c3)) (HS.out _ (pd HQ.out) K0.out.drew K2.out.drew) ?_
      intro hSd inv
      have HSd := Lib.hid hSd
      clear hSd
      refine wpAnyG_take (i := 0) (v := ?_) rfl (by kernel_rfl) (by kernel_rfl) (by kernel_rfl) (by kernel_rfl) (by kernel_rfl) (by decide) (by decide) inv (fun _ _ _ h => h) (Or.inl ⟨by rfl, ?_⟩) HSd.out ?_; rotate_left; (focus (intro W hSw; obtain ⟨y1, y2, y3, y4, y5, y6⟩ := hSw; go_simp; (first | done | with_reducible rfl))); clear inv; intro inv; simp only [List.getElem_toArray, List.getElem_cons_zero, Act.put, List.setIfInBounds_toArray, List.set_cons_zero, List.set_cons_succ]
      refine wpAnyG_take (i := 1) (v := ?_) rfl (by kernel_rfl) (by kernel_rfl) (by kernel_rfl) (by kernel_rfl) (by kernel_rfl) (by decide) (by decide) inv (fun _ _ _ h => h) (Or.inl ⟨by rfl, ?_⟩) HSd.out ?_; rotate_left; (focus (intro W hSw; obtain ⟨y1, y2, y3, y4, y5, y6⟩ := hSw; go_simp; (first | done | with_reducible rfl))); clear inv; intro inv; simp only [List.getElem_toArray, List.getElem_cons_zero, List.getElem_cons_succ, Act.put, List.setIfInBounds_toArray, List.set_cons_zero, List.set_cons_succ]
      refine wpAnyG_take (i := 2) (v := ?_) rfl (by kernel_rfl) (by kernel_rfl) (by kernel_rfl) (by kernel_rfl) (by kernel_rfl) (by decide) (by decide) inv (fun _ _ _ h => h) (Or.inl ⟨by rfl, ?_⟩) HSd.out ?_; rotate_left; (focus (intro W hSw; obtain ⟨y1, y2, y3, y4, y5, y6⟩ := hSw; go_simp; (first | done | with_reducible rfl))); clear inv; intro inv; simp only [List.getElem_toArray, List.getElem_cons_zero, List.getElem_cons_succ, Act.put, List.setIfInBounds_toArray, List.set_cons_zero, List.set_cons_succ]
      refine wpAnyG_take (i := 3) (v := ?_) rfl (by kernel_rfl) (by kernel_rfl) (by kernel_rfl) (by kernel_rfl) (by kernel_rfl) (by decide) (by decide) inv (fun _ _ _ h => h) (Or.inl ⟨by rfl, ?_⟩) HSd.out ?_; rotate_left; (focus (intro W hSw; obtain ⟨y1, y2, y3, y4, y5, y6⟩ := hSw; go_simp; (first | done | with_reducible rfl))); clear inv; intro inv; simp only [List.getElem_toArray, List.getElem_cons_zero, List.getElem_cons_succ, Act.put, List.setIfInBounds_toArray, List.set_cons_zero, List.set_cons_succ]
      refine wpAnyG_take (i := 4) (v := ?_) rfl (by kernel_rfl) (by kernel_rfl) (by kernel_rfl) (by kernel_rfl) (by kernel_rfl) (by decide) (by decide) inv (fun _ _ _ h => h) (Or.inl ⟨by rfl, ?_⟩) HSd.out ?_; rotate_left; (focus (intro W hSw; obtain ⟨y1, y2, y3, y4, y5, y6⟩ := hSw; go_simp; (first | done | with_reducible rfl))); clear inv; intro inv; simp only [List.getElem_toArray, List.getElem_cons_zero, List.getElem_cons_succ, Act.put, List.setIfInBounds_toArray, List.set_cons_zero, List.set_cons_succ]
      refine wpAnyG_take (i := 5) (v := ?_) rfl (by kernel_rfl) (by kernel_rfl) (by kernel_rfl) (by kernel_rfl) (by kernel_rfl) (by decide) (by decide) inv (fun _ _ _ h => h) (Or.inl ⟨by rfl, ?_⟩) HSd.out ?_; rotate_left; (focus (intro W hSw; obtain ⟨y1, y2, y3, y4, y5, y6⟩ := hSw; go_simp; (first | done | with_reducible rfl))); clear inv; intro inv; simp only [List.getElem_toArray, List.getElem_cons_zero, List.getElem_cons_succ, Act.put, List.setIfInBounds_toArray, List.set_cons_zero, List.set_cons_succ]
      refine wpAnyG_take (i := 6) (v := ?_) rfl (by kernel_rfl) (by kernel_rfl) (by kernel_rfl) (by kernel_rfl) (by kernel_rfl) (by decide) (by decide) inv (fun _ _ _ h => h) (Or.inl ⟨by rfl, ?_⟩) HSd.out ?_; rotate_left; (focus (intro W hSw; obtain ⟨y1, y2, y3, y4, y5, y6⟩ := hSw; go_simp; (first | done | with_reducible rfl))); clear inv; intro inv; simp only [List.getElem_toArray, List.getElem_cons_zero, List.getElem_cons_succ, Act.put, List.setIfInBounds_toArray, List.set_cons_zero, List.set_cons_succ]
      clear inv
      refine wpAnyG_one (i := 7) (by kernel_rfl) rfl rfl fun K hK => ?_
      go_simp
      refine (HCt.out _ (pd HQ.out)).mono ?_
      rintro e w2 ⟨A1, c1, rfl, hrow1, hc1, hb1⟩
      have hbW := pt (pd pr) hb1
      have hB2 := pt HQ.out hbW
      have hK2 := K0.out.past hbW
      have kk2 := K2.out.past hbW
      have hK1 := K1.out.past hbW
      have HRow1 := Lib.hid hrow1
      have HO1 := Lib.hid ((own_pastP hbW HOwn.out).alloc (.cells #[.int .i64 x.machine, .int .i64 x.length, .int .i64 x.release, .slice A1 x.after.length c1] 41))
      have hzz := hB2.size
      refine hK.out _ _ (fun _ => HS.out w2 hB2 hK2 kk2) ?_
      clear hK K
      refine wpAnyG_one (i := 8) (by kernel_rfl) rfl rfl fun K hK => ?_
      go_simp
      refine hK.out _ _ (fun _ => HS.out _ (pa hB2) hK2.alloc kk2.alloc) ?_
      clear hK K
      refine wpAnyG_one (i := 9) (by kernel_rfl) rfl rfl fun K hK => ?_
      refine wp_append_cells _ (.tmp 16) (.tmp 23) _ (by rfl) w.heap.size 41 i0 _ 4 48 Tryz.underlying25 hi0 hz0 hz1 hz2 rfl (by omega) (.slice A' i c') i us (by rfl) HO1.out (w2.heap.size + 1) (some ⟨w2.heap.size, 0, none⟩) 1 1 [.int .i64 x.machine, .int .i64 x.length, .int .i64 x.release, .slice A1 x.after.length c1] (by rfl) (cellsIn_blk w2 41 #[.int .i64 x.machine, .int .i64 x.length, .int .i64 x.release, .slice A1 x.after.length c1]) rfl (by simp [Value.oneCell']) (by simp only [maxLen]; omega) (by omega) (by simp; omega) ?_
      intro v3 w3 hown3 hg3 hat3
      obtain ⟨A4, c4, rfl, hc4, hm4⟩ := own_form hown3
      have hB3 := pg (pa hB2) HO1.out (Nat.le_refl _) hg3
      have hK3 := (hK2.alloc (o := .cells #[.int .i64 x.machine, .int .i64 x.length, .int .i64 x.release, .slice A1 x.after.length c1] 41)).grown hg3 (own_plan HO1.out hK2.alloc)
      have hK31 := (hK1.alloc (o := .cells #[.int .i64 x.machine, .int .i64 x.length, .int .i64 x.release, .slice A1 x.after.length c1] 41)).grown hg3 (own_plan HO1.out hK1.alloc)
      have kk3 := (kk2.alloc (o := .cells #[.int .i64 x.machine, .int .i64 x.length, .int .i64 x.release, .slice A1 x.after.length c1] 41)).grown hg3 (own_plan HO1.out kk2.alloc)
      have hRow3 := ((HRow.out.same (NumRow.kept_below hbW)).snoc HRow1.out hc1 |>.same (NumRow.kept_below (pa pr))).same (NumRow.kept_rows HO1.out (by decide) hg3)
      refine hK.out _ _ (fun _ => HS.out w3 hB3 hK3 kk3) ?_
      clear hK K
      refine wpAnyG_one (i := 10) (by kernel_rfl) rfl rfl fun K hK => ?_
      go_simp
      refine hK.out _ _ (fun _ => HS.out w3 hB3 hK3 kk3) ?_
      clear hK K
      refine wpAnyG_one (i := 11) (by kernel_rfl) rfl rfl fun K hK => ?_
      have q1 : w3.cell? ⟨w.heap.size + 1 + 1, 1, none⟩ = some (.slice A' i c') := kk3.cellAt 1 rfl
      have q2 := kk3.frozen 1
      have q3 := kk3.lt
      go_simp
      refine hK.out _ _ (fun h => absurd h (by decide)) ?_
      clear hK K
      refine wpAnyG_done (by kernel_rfl) ?_
      have HK0 := Lib.hid (hK3.far (p := ⟨w.heap.size + 1 + 1, 1, none⟩) (u := .slice A4 (i + 1) c4) (by dsimp only; omega))
      have HK1 := Lib.hid (hK31.far (p := ⟨w.heap.size + 1 + 1, 1, none⟩) (u := .slice A4 (i + 1) c4) (by dsimp only; omega))
      have HK2 := Lib.hid (kk3.set_ 1 (.slice A4 (i + 1) c4))
      have HOw := Lib.hid (own_cell hown3 kk3 (by decide) (p := ⟨w.heap.size + 1 + 1, 1, none⟩) rfl (.slice A4 (i + 1) c4))
      have HRw := Lib.hid (hRow3.same (NumRow.kept_cell kk3 (by decide) (p := ⟨w.heap.size + 1 + 1, 1, none⟩) rfl (.slice A4 (i + 1) c4)))
      have HBw := Lib.hid (ps hB3 (p := ⟨w.heap.size + 1 + 1, 1, none⟩) (u := .slice A4 (i + 1) c4) (by dsimp only; omega))
      clear hK2 hK3 hK31 hK1 kk2 kk3 hB2 hB3 hown3 hg3 hat3 hrow1 hb1 hbW q1 q2 q3 hRow3
      go_wp2
      go_roundw
      case rel => exact ⟨i + 1, A4, c4, _, by go_num, by omega, HK0.out, HK1.out, HK2.out, HOw.out, by rw [HStep.out]; exact HRw.out, HBw.out⟩
      case measure => simp [intOf]; omega
    · obtain rfl : i = ts.length := by omega
      rw [List.take_length] at hrow
      have HRow := Lib.hid hrow
      have HOwn := Lib.hid hown
      obtain ⟨_, _, hv, hcap, _⟩ := own_form hown
      have hcap' : ts.length ≤ c' := by injection hv with _ _ h; omega
      have K2 := Lib.hid k2
      have K1 := Lib.hid k1
      have HQ := Lib.hid hq
      have g0 : wr.cell? ⟨w.heap.size + 1 + 1, 0, none⟩ = some (.int .i64 m) := k2.cellAt 0 rfl
      have d0 : wr.cell? ⟨w.heap.size + 1, 0, none⟩ = some (.int .i64 0) := k1.cellAt 0 rfl
      have d1 : wr.cell? ⟨w.heap.size + 1, 1, none⟩ = some (.slice none 0 0) := k1.cellAt 1 rfl
      have f0 := k1.frozen 0
      have f1 := k1.frozen 1
      have x1 := k1.lt
      clear hown hrow hv k0 k1 k2 hq
      go_wp2
      obtain ⟨wF, hwF⟩ : ∃ wF : World, wF = (wr.setCell ⟨w.heap.size + 1, 0, none⟩ (.int .i64 m)).setCell ⟨w.heap.size + 1, 1, none⟩ (.slice A' ts.length c') := ⟨_, rfl⟩
      have kF : Blk wF (w.heap.size + 1) 27 #[.int .i64 m, .slice A' ts.length c'] := by
        rw [hwF]
        exact (K1.out.set_ 0 _).set_ 1 _
      have i0 : wF.cell? ⟨w.heap.size + 1, 0, none⟩ = some (.int .i64 m) := kF.cellAt 0 rfl
      have i1 : wF.cell? ⟨w.heap.size + 1, 1, none⟩ = some (.slice A' ts.length c') := kF.cellAt 1 rfl
      rw [← hwF]
      refine bodyPost_ret (v := .agg #[.int .i64 m, .slice A' ts.length c']) (by simp [results, Tryz.results16, go_sem, i0, i1]) rfl ⟨A', c', rfl, ?_, hcap', ?_⟩
      all_goals rw [hwF]
      · have hrow2 := (HRow.out.same (NumRow.kept_cell K1.out (by decide) (p := ⟨w.heap.size + 1, 0, none⟩) rfl (.int .i64 m))).same (NumRow.kept_cell (K1.out.set_ 0 (.int .i64 m)) (by decide) (p := ⟨w.heap.size + 1, 1, none⟩) rfl (.slice A' ts.length c'))
        have hown2 := own_cell (own_cell HOwn.out K1.out (by decide) (p := ⟨w.heap.size + 1, 0, none⟩) rfl (.int .i64 m)) (K1.out.set_ 0 (.int .i64 m)) (by decide) (p := ⟨w.heap.size + 1, 1, none⟩) rfl (.slice A' ts.length c')
        exact hrow2.tasks hown2
      · exact ps (ps HQ.out (Nat.le_succ _)) (Nat.le_succ _)

end Go.Proofs.YtbojmcopagbheaaGreatDoor
end
