/- A region that draws its order: what only reads, under S, is taken first; what is left comes up one by one; S need not hold behind the last operation. No condition.
A law: one of the two operations that may come up in a drawn region comes up.
A region that draws its order, walked as XP0Region does, inside the wide fence, in a round or not. No condition. -/
import Derived.Test.YtapegimghfflhaaMb
import Derived.OrdersHeld
import Derived.Deep.RegionHeld
import Derived.Test.YtapegimghfflhaaMc

section
namespace Go.Proofs.Ytapegimghfflhaa
open Go.RowKit

section
variable {P : Program} {ops : Array Oper} {md : Region.Mode} {Q : Exit → Act → World → Prop} {S : World → Prop} {n : Nat}

/-- Whatever order is picked; S holds behind each of the first n operations. -/
def wpAnyG (P : Program) (md : Region.Mode) (ops : Array Oper) (Q : Exit → Act → World → Prop) (S : World → Prop) (n : Nat) : Nat → Array Bool → Act → World → Prop
  | 0, listed, a, w => Region.ready md ops listed = [] ∧ Q .normal a w
  | fuel + 1, listed, a, w =>
    (Region.ready md ops listed = [] → Q .normal a w) ∧
    ∀ i ∈ Region.ready md ops listed, wpOp P ops Q i (fun a' w' => (i < n → S w') ∧ wpAnyG P md ops Q S n fuel (listed.setIfInBounds i true) a' w') a w

theorem wpAny_of_G : ∀ (fuel : Nat) (listed : Array Bool) (a : Act) (w : World), wpAnyG P md ops Q S n fuel listed a w → wpAny P md ops Q fuel listed a w
  | 0, _, _, _, h => h
  | fuel + 1, _, _, _, h => ⟨h.1, fun i hi => wpOp_mono (fun a' w' h' => wpAny_of_G fuel _ a' w' h'.2) (h.2 i hi)⟩

theorem wpAnyG_first {i : Nat} {oi : Oper} {v : Value} (hi : ops[i]? = some oi) (hsel : ∀ (j : Nat) (o : Oper) cs b, ops[j]? = some o → o.op ≠ .select cs b) (hsink : Region.sinkB md ops n = true) (hch : Region.chainB md ops n = true) (hn : n < ops.size) (hin : i < n)
    (hQ : ∀ c a w, Q (.panic c) (a.put oi.dst v) w → Q (.panic c) a w) :
    ∀ (fuel : Nat) (listed : Array Bool) (a : Act) (w : World), HeadInv md ops n listed →
      (∀ j oj, ops[j]? = some oj → j ≠ i → listed.getD j true = false → (∀ e ∈ oj.after, Region.binds md e = true → e.on ≠ i) → oi.apart ops oj = true) →
      i ∈ Region.ready md ops listed → YieldsIf P ops S oi v a → S w →
      wpAnyG P md ops Q S n fuel (listed.setIfInBounds i true) (a.put oi.dst v) w → wpAnyG P md ops Q S n (fuel + 1) listed a w := by
  intro fuel
  induction fuel with
  | zero =>
    intro listed a w _ _ hr hy hS H
    refine ⟨fun h => (by rw [h] at hr; cases hr), fun j hj => ?_⟩
    by_cases hji : j = i
    · subst hji; exact hy.wpOp hi hS ⟨fun _ => hS, H⟩
    · have := ready_mono hj hji
      rw [H.1] at this
      cases this
  | succ fuel ih =>
    intro listed a w inv hfree hr hy hS H
    have hun := (mem_ready.1 hr).1
    refine ⟨fun h => (by rw [h] at hr; cases hr), fun j hj => ?_⟩
    by_cases hji : j = i
    · subst hji; exact hy.wpOp hi hS ⟨fun _ => hS, H⟩
    · have hjn : j < n := (Nat.lt_or_ge j n).resolve_right fun h => tail_waits hsink hch hn inv _ i rfl hin hun j h hj
      have h1 := H.2 j (ready_mono hj hji)
      obtain ⟨hjun, oj, hoj, hall⟩ := mem_ready.1 hj
      have hnot : ∀ e ∈ oj.after, Region.binds md e = true → e.on ≠ i := fun e he hb heq => by
        have h2 := hall e he hb
        rw [heq, getD_both hun] at h2
        cases h2
      have h2 := wpOp_putIf hoj (hfree j oj hoj hji hjun hnot) (fun cs b => hsel i oi cs b hi) (fun cs b => hsel j oj cs b hoj) hQ hy h1
      have hfree' : ∀ k ok, ops[k]? = some ok → k ≠ i → (listed.setIfInBounds j true).getD k true = false →
          (∀ e ∈ ok.after, Region.binds md e = true → e.on ≠ i) → oi.apart ops ok = true := fun k ok hk hki hun2 hno => by
        refine hfree k ok hk hki ?_ hno
        by_cases hjk : j = k
        · subst hjk; exact hjun
        · rw [getD_set_ne true hjk] at hun2; exact hun2
      refine wpOp_mono (fun a' w' h3 => ⟨h3.2.1, ih (listed.setIfInBounds j true) a' w' (inv.set hj hjn) hfree' (ready_mono hr (Ne.symm hji)) h3.1 (h3.2.1 hjn) ?_⟩) h2
      rw [Array.setIfInBounds_comm _ _ hji]
      exact h3.2.2

theorem wpAnyG_take {i : Nat} {oi : Oper} {v : Value} {fuel : Nat} {listed : Array Bool} {a : Act} {w : World} (hi : ops[i]? = some oi)
    (hsel : Region.noSelect ops = true) (hf : Region.free md ops listed i = true) (hr : (Region.ready md ops listed).contains i = true)
    (hsink : Region.sinkB md ops n = true) (hch : Region.chainB md ops n = true) (hn : n < ops.size) (hin : i < n) (inv : HeadInv md ops n listed)
    (hQ : ∀ c a w, Q (.panic c) (a.put oi.dst v) w → Q (.panic c) a w) (hy : YieldsIf P ops S oi v a) (hS : S w)
    (h : HeadInv md ops n (listed.setIfInBounds i true) → wpAnyG P md ops Q S n fuel (listed.setIfInBounds i true) (a.put oi.dst v) w) : wpAnyG P md ops Q S n (fuel + 1) listed a w :=
  wpAnyG_first hi (Region.noSelect_spec hsel) hsink hch hn hin hQ fuel listed a w inv (Region.free_spec hi hf) (by simpa using hr) hy hS (h (inv.set (by simpa using hr) hin))

/-- The only one that may come up comes up. -/
theorem wpAnyG_one {i : Nat} {o : Oper} {fuel : Nat} {listed : Array Bool} {a : Act} {w : World} (hr : Region.ready md ops listed = [i]) (ho : ops[i]? = some o) (hg : o.guard = none)
    (h : ∀ K' : Act → World → Prop, Hid (∀ a w, (i < n → S w) → wpAnyG P md ops Q S n fuel (listed.setIfInBounds i true) a w → K' a w) → o.wp P a w K' Q) : wpAnyG P md ops Q S n (fuel + 1) listed a w := by
  refine ⟨fun h0 => (by rw [hr] at h0; cases h0), fun j hj => ?_⟩
  rw [hr] at hj
  obtain rfl : j = i := by simpa using hj
  refine wpOp_step ho fun K' hK => ?_
  rw [if_pos (by simp [Region.wanted, hg])]
  exact h K' (Lib.hid fun a w h1 h2 => hK a w ⟨h1, h2⟩)
theorem wpAnyG_done {fuel : Nat} {listed : Array Bool} {a : Act} {w : World} (hr : Region.ready md ops listed = []) (h : Q .normal a w) : wpAnyG P md ops Q S n fuel listed a w := by
  cases fuel with
  | zero => exact ⟨hr, h⟩
  | succ fuel => exact ⟨fun _ => h, fun i hi => (by rw [hr] at hi; cases hi)⟩

theorem wp_region_G {id : Nat} {l : List Oper} {a : Act} {w : World} (n : Nat) (hm : P.follows .mixedOrders = true) (S : World → Prop) (hS : S w.drew)
    (h : S w.drew → HeadInv .any l.toArray n (Array.replicate l.toArray.size false) → wpAnyG P .any l.toArray Q S n l.toArray.size (Array.replicate l.toArray.size false) a w.drew) : (Code.region id l.toArray true).wp P Q a w :=
  wp_region_any hm (wpAny_of_G _ _ _ _ (h hS ⟨by simp, fun j oj _ hl => (by rw [getD_replicate_false] at hl; cases hl), fun t _ ht => getD_in (by simpa using ht) (getD_replicate_false _ _)⟩))
end

end Go.Proofs.Ytapegimghfflhaa
end

section
namespace Go.Proofs.Ytapegimghfflhaa
open Go.RowKit

/-- One of the two that may come up comes up. -/
theorem wpAnyG_twoE {P : Program} {ops : Array Oper} {md : Region.Mode} {Q : Exit → Act → World → Prop} {S : World → Prop} {n : Nat} {i k : Nat} {oi ok : Oper} {fuel : Nat} {listed : Array Bool} {a : Act} {w : World} (hr : Region.ready md ops listed = [i, k]) (hi : ops[i]? = some oi) (hk : ops[k]? = some ok) (gi : oi.guard = none) (gk : ok.guard = none)
    (h1 : ∀ K' : Act → World → Prop, Hid (∀ a w, (i < n → S w) → wpAnyG P md ops Q S n fuel (listed.setIfInBounds i true) a w → K' a w) → oi.wp P a w K' Q)
    (h2 : ∀ K' : Act → World → Prop, Hid (∀ a w, (k < n → S w) → wpAnyG P md ops Q S n fuel (listed.setIfInBounds k true) a w → K' a w) → ok.wp P a w K' Q) : wpAnyG P md ops Q S n (fuel + 1) listed a w := by
  refine ⟨fun h0 => (by rw [hr] at h0; cases h0), fun j hj => ?_⟩
  rw [hr] at hj
  have hj' : j = i ∨ j = k := by simpa using hj
  rcases hj' with rfl | rfl
  · refine wpOp_step hi fun K' hK => ?_
    rw [if_pos (by simp [Region.wanted, gi])]
    exact h1 K' (Lib.hid fun a w h1 h2 => hK a w ⟨h1, h2⟩)
  · refine wpOp_step hk fun K' hK => ?_
    rw [if_pos (by simp [Region.wanted, gk])]
    exact h2 K' (Lib.hid fun a w h1 h2 => hK a w ⟨h1, h2⟩)

theorem inv_memE {md : Region.Mode} {ops : Array Oper} {n i : Nat} {listed : Array Bool} (inv : HeadInv md ops n listed) (hr : (Region.ready md ops listed).contains i = true) (hi : i < n) : HeadInv md ops n (listed.setIfInBounds i true) := inv.set (by simpa using hr) hi
theorem inv_oneE {md : Region.Mode} {ops : Array Oper} {n i : Nat} {listed : Array Bool} (inv : HeadInv md ops n listed) (hr : Region.ready md ops listed = [i]) (hi : i < n) : HeadInv md ops n (listed.setIfInBounds i true) := inv.set (by rw [hr]; exact List.mem_singleton_self i) hi
/-- Only what ends as it should: nothing panics. -/
def calmQ (Q : Exit → Act → World → Prop) : Exit → Act → World → Prop
  | .normal, a, w => Q .normal a w
  | _, _, _ => False
theorem wpAnyG_doneC {P : Program} {ops : Array Oper} {md : Region.Mode} {Q : Exit → Act → World → Prop} {S : World → Prop} {n : Nat} {fuel : Nat} {listed : Array Bool} {a : Act} {w : World} (hr : Region.ready md ops listed = []) (h : Q .normal a w) : wpAnyG P md ops (calmQ Q) S n fuel listed a w := wpAnyG_done hr h
end Go.Proofs.Ytapegimghfflhaa
end

section
namespace Go.Proofs.Ytapegimghfflhaa
open Go.RowKit
section
variable {P : Program} {ops : Array Oper} {md : Region.Mode} {F : Fence} {m : Nat} {Q : Exit → Act → World → Prop}

theorem not_calm : ¬ LetsOut (calmQ Q) := by
  rintro ⟨a, w, h⟩
  exact h
theorem wpIn_of_calm {o : Oper} {a : Act} {w : World} {K K' : Act → World → Prop} (hF : ∀ f, F.fn f) (hd : F.depth = none)
    (hcall : ∀ f args w R, Calls P f args w R → CallsIn F (m - 1) P f args w R) (hrow : ∀ row args w R, Rows P row args w R → RowsIn F (m - 1) P row args w R) (hnd : ∀ c, o.op ≠ .defer c)
    (hk : ∀ a w, K a w → K' a w) (h : o.wp P a w K (calmQ Q)) : o.wpIn F m P a w K' Q := by
  unfold Oper.wpIn
  refine ⟨fun f _ => hF f, ?_⟩
  rw [Oper.semAt_eq _ _ _ hnd]
  unfold Oper.wp at h
  generalize (execOp a.eval o).run P w = r at *
  have hdep : F.depth.isSome = true → 1 ≤ m := fun e => by rw [hd] at e; cases e
  cases r with
  | ok n w' =>
    cases n <;> simp only [Oper.upon, Oper.uponIn] at h ⊢
    case value v => exact hk _ _ h
    case skip => exact hk _ _ h
    case defer d => exact hk _ _ h
    case enter f args =>
      refine ⟨hdep, (hcall _ _ _ _ h).mono fun e w'' he => ?_⟩
      cases e with
      | returned v => exact hk _ _ he
      | panicked c => exact he.elim
      | outgrown => exact absurd he not_calm
    case row row args => exact ⟨hdep, RowsIn.mono (hrow _ _ _ _ h) fun v w'' he => hk _ _ he⟩
  | halt x w' =>
    cases x <;> simp only [Oper.upon, Oper.uponIn] at h ⊢
    all_goals exact h.elim
theorem wpAnyIn_of_calm (hF : ∀ f, F.fn f) (hd : F.depth = none)
    (hcall : ∀ f args w R, Calls P f args w R → CallsIn F (m - 1) P f args w R) (hrow : ∀ row args w R, Rows P row args w R → RowsIn F (m - 1) P row args w R) (hnd : noDefer ops = true) :
    ∀ (fuel : Nat) (listed : Array Bool) (a : Act) (w : World), wpAny P md ops (calmQ Q) fuel listed a w → wpAnyIn F m P md ops Q fuel listed a w
  | 0, _, _, _, h => h
  | fuel + 1, listed, a, w, h => by
    refine ⟨h.1, fun i hi => ?_⟩
    have h2 := h.2 i hi
    unfold wpOp at h2
    unfold wpOpIn
    split
    · rename_i ho
      simp only [ho] at h2
      exact wpAnyIn_of_calm hF hd hcall hrow hnd fuel _ _ _ h2
    · rename_i o ho
      simp only [ho] at h2
      split
      · rename_i hw
        simp only [hw, if_true] at h2
        rcases h2 with h2 | h2
        · refine wpIn_of_calm hF hd hcall hrow (fun c hc => ?_) (fun a w h => wpAnyIn_of_calm hF hd hcall hrow hnd fuel _ a w h) h2
          have hi : i < ops.size := (Array.getElem?_eq_some_iff.1 ho).1
          have := (Array.all_eq_true.1 hnd) i hi
          rw [(Array.getElem?_eq_some_iff.1 ho).2, hc] at this
          cases this
        · exact absurd h2.2 not_calm
      · rename_i hw
        simp only [hw] at h2
        exact ⟨fun f _ => hF f, wpAnyIn_of_calm hF hd hcall hrow hnd fuel _ _ _ h2⟩
theorem rowsIn_wide {n l : Nat} {row : String} {args : Array Value} {w : World} {R : Value → World → Prop} (h : Rows P row args w R) : RowsIn (Fence.wide.inRound l) n P row args w R :=
  fun c cs _ => let ⟨v, w', r, s⟩ := h c cs; ⟨v, w', r, stepsIn_wide.2 s⟩
theorem region_GI {id k : Nat} {l : List Oper} {a : Act} {w : World} (n : Nat) (hm : P.follows .mixedOrders = true) (hnd : noDefer l.toArray = true) (S : World → Prop) (hS : S w.drew)
    (h : S w.drew → HeadInv .any l.toArray n (Array.replicate l.toArray.size false) → wpAnyG P .any l.toArray (calmQ Q) S n l.toArray.size (Array.replicate l.toArray.size false) a w.drew) : (Code.region id l.toArray true).wpIn (Fence.wide.inRound k) m P Q a w :=
  wpIn_region_any hm (wpAnyIn_of_calm (F := Fence.wide.inRound k) (m := m) (fun _ => trivial) rfl (fun _ _ _ _ h => callsIn_wide.2 h) (fun _ _ _ _ h => rowsIn_wide h) hnd _ _ _ _ (wpAny_of_G _ _ _ _ (h hS ⟨by simp, fun j oj _ hl => (by rw [getD_replicate_false] at hl; cases hl), fun t _ ht => getD_in (by simpa using ht) (getD_replicate_false _ _)⟩)))
end
end Go.Proofs.Ytapegimghfflhaa
end
