/- The law for a region that draws its order (a quiet head, walked once in the order of the text, then its tail), inside the wide fence, in a round or not. No condition. -/
import Derived.Test.YtnfbdkdjoekifaaGreatDoorOa6
import Derived.OrdersIn

section
namespace Go.Proofs.YtnfbdkdjoekifaaGreatDoor
open Go.RowKit
section
variable {P : Program} {ops : Array Oper} {md : Region.Mode} {C : World → Prop} {F : Fence} {m : Nat}

def noDefer (ops : Array Oper) : Bool := ops.all fun o => match o.op with | .defer _ => false | _ => true

theorem wpIn_of_quiet {o : Oper} {a : Act} {K : Act → Prop} {K' : Act → World → Prop} {Q' : Exit → Act → World → Prop} {w : World} (hF : ∀ f, F.fn f) (hd : F.depth = none)
    (hcall : ∀ f args w R, Calls P f args w R → CallsIn F (m - 1) P f args w R) (hnd : ∀ c, o.op ≠ .defer c) (hw : C w) (h : ∀ a w', C w' → K a → K' a w') (hh : o.quiet P a C K) : o.wpIn F m P a w K' Q' := by
  obtain ⟨v, h1, h2⟩ := hh
  have h3 := h1 w hw
  unfold Oper.quietAt at h3
  unfold Oper.wpIn
  refine ⟨fun f _ => hF f, ?_⟩
  rw [Oper.semAt_eq _ _ _ hnd]
  generalize (execOp a.eval o).run P w = r at *
  cases r with
  | ok n w' =>
    cases n <;> simp only [Oper.quietUpon] at h3 <;> simp only [Oper.uponIn]
    case value u =>
      obtain ⟨e1, e2⟩ := h3
      rw [e1, e2]
      exact h _ _ hw h2
    case skip =>
      obtain ⟨e1, e2⟩ := h3
      rw [e1, ← e2]
      exact h _ _ hw h2
    case enter f args =>
      obtain ⟨e1, hc⟩ := h3
      rw [e1]
      refine ⟨fun e => (by rw [hd] at e; cases e), ?_⟩
      exact (hcall _ _ _ _ hc).mono fun e w'' ⟨he, hw''⟩ => by subst he; exact h _ _ hw'' h2
  | halt x w' => simp only [Oper.quietUpon] at h3

theorem wpOpIn_of_qOp {i : Nat} {a : Act} {K : Act → Prop} {K' : Act → World → Prop} {Q' : Exit → Act → World → Prop} {w : World} (hF : ∀ f, F.fn f) (hd : F.depth = none)
    (hcall : ∀ f args w R, Calls P f args w R → CallsIn F (m - 1) P f args w R) (hnd : noDefer ops = true) (hC : C w) (h : ∀ a w', C w' → K a → K' a w') (hh : qOp P ops C i K a) : wpOpIn F m P ops Q' i K' a w := by
  unfold qOp at hh
  unfold wpOpIn
  split
  · rename_i ho; simp only [ho] at hh; exact h _ _ hC hh
  · rename_i o ho
    simp only [ho] at hh
    split
    · rename_i hw
      simp only [hw, if_true] at hh
      refine wpIn_of_quiet hF hd hcall (fun c hc => ?_) hC h hh
      have hi : i < ops.size := (Array.getElem?_eq_some_iff.1 ho).1
      have := (Array.all_eq_true.1 hnd) i hi
      rw [(Array.getElem?_eq_some_iff.1 ho).2, hc] at this
      cases this
    · rename_i hw; simp only [hw] at hh; exact ⟨fun f _ => hF f, h _ _ hC hh⟩

theorem anyIn_of_headQ {n g : Nat} {L : Array Bool → Act → Prop} {Q' : Exit → Act → World → Prop} (hF : ∀ f, F.fn f) (hd : F.depth = none)
    (hcall : ∀ f args w R, Calls P f args w R → CallsIn F (m - 1) P f args w R) (hnd : noDefer ops = true) (hL : ∀ listed a w, C w → L listed a → wpAnyIn F m P md ops Q' g listed a w) :
    ∀ (f : Nat) (listed : Array Bool) (a : Act) (w : World), C w → headQ P md ops C n L f listed a → wpAnyIn F m P md ops Q' (f + g) listed a w
  | 0, listed, a, w, hC, h => by rw [Nat.zero_add]; exact hL _ _ _ hC h
  | f + 1, listed, a, w, hC, h => by
    rw [show f + 1 + g = (f + g) + 1 by omega]
    exact ⟨fun h0 => absurd h0 h.1, fun i hi => wpOpIn_of_qOp hF hd hcall hnd hC (fun a' w' hC' h' => anyIn_of_headQ hF hd hcall hnd hL f _ a' w' hC' h') (h.2 i hi).2⟩

theorem wpOpIn_mono {i : Nat} {a : Act} {w : World} {K K' : Act → World → Prop} {Q : Exit → Act → World → Prop} (h : ∀ a w, K a w → K' a w) (hh : wpOpIn F m P ops Q i K a w) : wpOpIn F m P ops Q i K' a w := by
  unfold wpOpIn at *
  split
  · rename_i ho; simp only [ho] at hh; exact h _ _ hh
  · rename_i o ho
    simp only [ho] at hh
    split
    · rename_i hw; simp only [hw, if_true] at hh; exact Oper.wpIn_mono h hh
    · rename_i hw; simp only [hw] at hh; exact ⟨hh.1, h _ _ hh.2⟩

theorem wpAnyIn_of_seq {Q' : Exit → Act → World → Prop} : ∀ (l : List Oper) (k : Nat) (listed : Array Bool) (a : Act) (w : World), (∀ j, l[j]? = ops[k + j]?) →
    Region.seqB md ops l.length k listed = true → wpListIn F m P ops Q' l a w → wpAnyIn F m P md ops Q' l.length listed a w
  | [], _, _, _, _, _, hB, h => ⟨by simpa [Region.seqB] using hB, h⟩
  | o :: l, k, listed, a, w, hl, hB, h => by
    have h0 : ops[k]? = some o := by simpa using (hl 0).symm
    simp only [List.length_cons, Region.seqB, Bool.and_eq_true, decide_eq_true_eq] at hB
    refine ⟨fun h1 => (by rw [hB.1] at h1; cases h1), fun i hi => ?_⟩
    rw [hB.1] at hi
    have hik : i = k := by simpa using hi
    subst hik
    have hw : wpOpIn F m P ops Q' i (wpListIn F m P ops Q' l) a w := by unfold wpOpIn; simp only [h0]; exact h
    exact wpOpIn_mono (fun a' w' h' => wpAnyIn_of_seq l (i + 1) _ a' w' (fun j => by have := hl (j + 1); simpa [Nat.add_assoc, Nat.add_comm 1 j] using this) hB.2 h') hw

theorem region_classIn {id : Nat} {Q : Exit → Act → World → Prop} {a : Act} {w : World} {l : List Oper} (hF : ∀ f, F.fn f) (hd : F.depth = none)
    (hcall : ∀ f args w R, Calls P f args w R → CallsIn F (m - 1) P f args w R) (hnd : noDefer l.toArray = true) (C : World → Prop) (n : Nat) (hm : P.follows .mixedOrders = true) (hB : Region.lexTailB .any l.toArray n = true) (hC : C w.drew)
    (h : wpQuiet P l.toArray C (fun a' => ∀ w', C w' → wpListIn F m P l.toArray Q (l.drop n) a' w') (l.take n) a) : (Code.region id l.toArray true).wpIn F m P Q a w := by
  simp only [Region.lexTailB, Bool.and_eq_true, decide_eq_true_eq] at hB
  obtain ⟨⟨⟨⟨hsel, hn⟩, hs⟩, hc⟩, hlex⟩ := hB
  have hn' : n < l.length := by simpa using hn
  have htl : (l.take n).length = n := by simp; omega
  have hdl : (l.drop n).length = l.toArray.size - n := by simp
  have inv0 : HeadInv .any l.toArray n (Array.replicate l.toArray.size false) :=
    ⟨by simp, fun j oj _ hl => (by rw [getD_replicate_false] at hl; cases hl), fun t _ ht => getD_in (by simpa using ht) (getD_replicate_false _ _)⟩
  have H := headQ_lex (md := .any) (g := l.toArray.size - n) hsel hs hc hn (l.take n) 0 _ a (fun j hj => by
    have hj' : j < n := by rw [htl] at hj; exact hj
    simp [hj']) (by simpa using htl) inv0 (by rw [htl]; exact hlex) h
  refine wpIn_region_any hm ?_
  have H2 := anyIn_of_headQ (F := F) (m := m) (Q' := Q) (g := l.toArray.size - n) hF hd hcall hnd (fun listed a' w' hC' hL => by
    have := wpAnyIn_of_seq (F := F) (m := m) (md := .any) (Q' := Q) (l.drop n) n listed a' w' (fun j => by simp [List.getElem?_drop]) (by rw [hdl]; exact hL.1) (hL.2 w' hC')
    rwa [hdl] at this) _ _ _ w.drew hC H
  rw [htl, show n + (l.toArray.size - n) = l.toArray.size by omega] at H2
  exact H2

theorem region_belowIn {id : Nat} {Q : Exit → Act → World → Prop} {a : Act} {w : World} {l : List Oper} (hF : ∀ f, F.fn f) (hd : F.depth = none)
    (hcall : ∀ f args w R, Calls P f args w R → CallsIn F (m - 1) P f args w R) (n : Nat) (hm : P.follows .mixedOrders = true) (hnd : noDefer l.toArray = true) (hB : Region.lexTailB .any l.toArray n = true)
    (h : ∀ C : World → Prop, Hid (∀ w', C w' ↔ Below w.heap.size w w') → wpQuiet P l.toArray C (fun a' => ∀ w', C w' → wpListIn F m P l.toArray Q (l.drop n) a' w') (l.take n) a) : (Code.region id l.toArray true).wpIn F m P Q a w :=
  region_classIn hF hd hcall hnd _ n hm hB (Below.refl _ _).drew (h _ fun _ => Iff.rfl)
end

end Go.Proofs.YtnfbdkdjoekifaaGreatDoor
end
