/- Contracts: slices.AppendSeq and slices.Collect at the order of a plan's tasks. -/
import Derived.Test.YtlgioldmjohhlaaOOrder
import Derived.RangeFuncBox
namespace Go.Proofs.Ytlgioldmjohhlaa
open Go.RowKit Go.Shelf
attribute [local go_sem] Oper.semAt_some

theorem own_row {β : Type} (B base : Nat) (e : TypeId) (size : Nat) (v : Value) (n : Nat) (xs : List Value) : OwnFrom B (fun (_ : β) W => W.ownsRow base e size v n xs) := fun _ W W' row hs hg hr => by
  refine hs.kept hg ?_
  cases hv : v.ownBlock with
  | none => exact .inl rfl
  | some g =>
    refine .inr fun e => ?_
    obtain ⟨_, o, ho, hc⟩ := hr g e.symm
    rcases hs.2 with ⟨h1, _⟩ | ⟨g', cap, cur, h1, _, hh, _⟩
    · rw [h1] at hv; cases hv
    · rw [h1] at hv
      have : g' = g := by simpa [Value.ownBlock] using hv
      subst this
      rw [hh] at ho
      cases ho
      cases hc

def rowOf (l : List Nat) : List Value := l.map fun (x : Nat) => Value.int .i64 (x : Int)

/-- A row that is appended to is no block of another type. -/
theorem blk_grown {W W' : World} {k : Nat} {t e : TypeId} {cs : Array Value} {base size n : Nat} {v : Value} {xs : List Value} (h : Blk W k t cs) (ho : W.ownsRow base e size v n xs) (hne : e ≠ t) (hg : W.grownBy W' v.ownBlock) : Blk W' k t cs := by
  refine h.grown hg fun he => ?_
  rcases ho.2 with ⟨h1, _⟩ | ⟨g, cap, cur, h1, _, hh, _⟩
  · rw [h1] at he; cases he
  · rw [h1] at he
    have : k = g := by simpa [Value.ownBlock] using he
    subst this
    rw [show W.heap[k]? = _ from h] at hh
    injection hh with hh
    injection hh with _ ht
    exact hne ht.symm
theorem keeps_grown {W W' : World} {base e size n : Nat} {v : Value} {xs : List Value} (ho : W.ownsRow base e size v n xs) (hg : W.grownBy W' v.ownBlock) : KeepsOthers W W' :=
  KeepsOthers.of_grownBy hg fun j o hj hjo => by
    rcases ho.2 with ⟨h1, _⟩ | ⟨g, cap, cur, h1, _, hh, _⟩
    · rw [h1] at hj; cases hj
    · rw [h1] at hj
      have : g = j := by simpa [Value.ownBlock] using hj
      subst this
      rw [hjo] at hh
      injection hh with hh
      rw [hh]
      rfl

set_option maxRecDepth 100000 in
set_option maxHeartbeats 2000000 in
theorem appendSeq_order (B n : Nat) (ts : List Task) (A : Option Addr) (c : Nat) (m : Int) (w : World) (h1 : 1 ≤ n) (hr : TasksIn B w A ts) (hB : B ≤ w.heap.size) (ha : AcyOk ts) (hlen : (orderV ts).length ≤ 7) :
    CallsIn Fence.wide n Try.prog 149 #[.slice none 0 0, .func (.func 128) #[.agg #[.int .i64 m, .slice A ts.length c]] #[]] w fun e w' =>
      ∃ v, e = .returned v ∧ w'.ownsRow w.heap.size 3 1 v (orderV ts).length (rowOf (orderV ts)) ∧ Below w.heap.size w w' := by
  obtain ⟨i0, hi0, hz0, hz1, hz2⟩ := info_parts int_info
  refine callsIn_of_wp_marks Try.func149 rfl trivial ?_ rfl
  simp only [Try.ntmps149, List.size_toArray, List.length_cons, List.length_nil, Nat.reduceAdd, Nat.reduceSub, Array.replicate_succ, Array.replicate_zero, List.push_toArray, List.append_toArray, List.nil_append, List.cons_append]
  gi_wp2
  have bO := Boxed.new w 28 (.slice none 0 0)
  have hB0 : Below w.heap.size w (w.alloc (.cells #[.slice none 0 0] 28)) := pa pr
  generalize w.alloc (.cells #[.slice none 0 0] 28) = W0 at *
  have hsz : w.heap.size < W0.heap.size := bO.lt
  have hr0 : TasksIn B W0 A ts := hr.below (hB0.mono hB)
  refine rangeFunc_law h1 (gf := 128) (fb := #[.agg #[.int .i64 m, .slice A ts.length c]]) (lb := #[]) rfl (enters_of Try.func128 (by kernel_rfl) rfl)
    (order_seq B (n - 1) ts A c m W0 hr0 (by omega) ha) (Below.refl _ _)
    (fun h k => ⟨h.1.trans k.1, fun i cs q => k.2 i cs (h.2 i cs q)⟩)
    (fun W A l o o' hl hl2 ho hc => ⟨⟨rfl, rfl, rfl, by simp, fun k hk => World.putObj_heap_other (by omega)⟩, fun k cs q => by
      by_cases e : k = l
      · subst e
        rw [show A.heap[k]? = _ from q] at ho
        cases ho
        cases hc
      · exact (World.putObj_heap_other e).trans q⟩)
    (fun x A l o o' ho hc hp => hp) (fun x => rfl)
    (fun pre W => (∃ v, Boxed W w.heap.size 28 v ∧ W.ownsRow w.heap.size 3 1 v pre.length (rowOf pre) ∧ True) ∧ Below w.heap.size w W)
    (fun _ _ _ => False)
    (OwnFrom.and (Own.from (holdsRow_own w.heap.size w.heap.size 28 3 1 (fun pre => pre.length) (fun pre => rowOf pre) (fun _ _ => True)) _) (ownFrom_below (Nat.le_refl _) hB0.size))
    (fun _ _ _ _ _ hs _ _ => hs)
    ⟨⟨_, bO, World.ownsRow_nil _ _ _ _, trivial⟩, hB0⟩
    (fun x => { tmps := #[.slice none 0 0, .func (.func 128) #[.agg #[.int .i64 m, .slice A ts.length c]] #[], .pointer (some ⟨w.heap.size, 0, none⟩), undef, .slice none 0 0, .int .i64 (x : Int), .func (.func 128) #[.agg #[.int .i64 m, .slice A ts.length c]] #[], .int .i64 (x : Int), undef, undef, undef, undef, undef], defers := [] }) ?assign ?body ?done ?stop
  case assign =>
    intro l x W K hK
    unfold ordEnc
    gi_wp2
    exact hK
  case body =>
    rintro l pre x Wb W hWb ⟨⟨v, hv, hrow, _⟩, hq⟩ _ hlt
    have hc := hv.cell
    gi_wp2_with (gi_at_builtin; refine wpListIn_append_own _ rfl _ _ 28 rfl w.heap.size 3 i0 _ 1 8 Try.underlying28 hi0 hz0 hz1 hz2 rfl (by decide) _ _ _ rfl (hrow.alloc _) ⟨W.heap.size, 0, none⟩ 1 1 [.int .i64 (x : Int)] rfl rfl (cell_one_new _ _ _) (by simp [Value.oneCell']) (by simp only [maxLen]; omega) (by omega) (by have := hq.size; simp; omega) ?_; intro v' w1 hown' hgrow _; obtain ⟨g', cap', rfl⟩ := ownsRow_succ hown'; obtain ⟨hv1, hv2, hr2, hk2, hb2⟩ := hv.appended (by decide) hrow hq.size (Nat.le_refl _) hown' hgrow; have hc1 := hv1.cell; have hf1 := hv1.frozen)
    have hplan : ∀ k cs, Blk W k 107 cs → Blk (w1.setCell ⟨w.heap.size, 0, none⟩ (.slice (some ⟨g', 0, none⟩) (pre.length + 1) cap')) k 107 cs := fun k cs q => by
      have q1 : Blk w1 k 107 cs := blk_grown q.alloc (hrow.alloc _) (by decide) hgrow
      refine q1.far ?_
      intro e
      dsimp only at e
      subst e
      have := (show W.heap[w.heap.size]? = _ from hv).symm.trans q
      simp at this
    exact ⟨hk2.from _, ⟨hb2.mono hB, hplan⟩, ⟨_, hv2, by simpa [rowOf] using hr2, trivial⟩, hq.trans hb2⟩
  case done =>
    rintro D ys W hD rfl ⟨⟨v, hv, hrow, _⟩, hq⟩ hK
    have hc := hv.cell
    gi_wp2
    refine ⟨by simp, .inl ⟨_, _, rfl, run_takeDeferred hK, ?_⟩⟩
    exact ⟨_, results_tmp rfl _ _ _, v, rfl, ownsRow_putObj hrow _ hK rfl, hq.trans ⟨rfl, rfl, rfl, by simp, fun k hk => World.putObj_heap_other (by omega)⟩⟩
  case stop =>
    rintro D c pre W _ _ h _
    exact h.elim

set_option maxRecDepth 100000 in
set_option maxHeartbeats 2000000 in
/-- All that an iterator yields, as a slice of the call's own. -/
theorem collect_order (B n : Nat) (ts : List Task) (A : Option Addr) (c : Nat) (m : Int) (w : World) (h1 : 2 ≤ n) (hr : TasksIn B w A ts) (hB : B ≤ w.heap.size) (ha : AcyOk ts) (hlen : (orderV ts).length ≤ 7) :
    CallsIn Fence.wide n Try.prog 127 #[.func (.func 128) #[.agg #[.int .i64 m, .slice A ts.length c]] #[]] w fun e w' =>
      ∃ v, e = .returned v ∧ w'.ownsRow w.heap.size 3 1 v (orderV ts).length (rowOf (orderV ts)) ∧ Below w.heap.size w w' := by
  refine callsIn_of_wp Try.func127 rfl trivial ?_
  simp only [Try.ntmps127, List.size_toArray, List.length_cons, List.length_nil, Nat.reduceAdd, Nat.reduceSub, Array.replicate_succ, Array.replicate_zero, List.push_toArray, List.append_toArray, List.nil_append, List.cons_append]
  have h1' : 1 ≤ n := by omega
  gi_wp2_with (refine ⟨trivial, ?_⟩; gi_at_call 149; refine (appendSeq_order B (n - 1) ts A c m _ (by omega) hr hB ha hlen).mono ?_; rintro e w1 ⟨v, rfl, hown, hb⟩)
  refine bodyPost_ret (results_tmp rfl _ _ _) rfl ?_
  exact ⟨v, rfl, hown, hb⟩

end Go.Proofs.Ytlgioldmjohhlaa
