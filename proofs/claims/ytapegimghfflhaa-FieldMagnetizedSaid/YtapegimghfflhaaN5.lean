/- A law for a region that draws its order, whose head only reads or calls functions that leave old memory alone, and beside which a new variable is allocated at whatever moment: the head is walked once, in the order of the text. No condition. -/
import Derived.Test.YtapegimghfflhaaMb

section
namespace Go.Proofs.Ytapegimghfflhaa
open Go.RowKit

section
variable {P : Program} {ops : Array Oper} {md : Region.Mode} {W : World}

/-- In every world that has grown out of W the operation yields v, and the world grows. -/
def GrowsIn (P : Program) (ops : Array Oper) (W : World) (o : Oper) (v : Value) (a : Act) : Prop :=
  (Region.wanted o (yielded ops a.tmps) = true ∧ ∀ w, Below W.heap.size W w → o.quietAt P a (fun w' => Below w.heap.size w w') w v) ∨
  (Region.wanted o (yielded ops a.tmps) = false ∧ v = undef)
theorem GrowsIn.of_same {o : Oper} {v : Value} {a a' : Act} (hy : GrowsIn P ops W o v a) (he : execOp a'.eval o = execOp a.eval o)
    (hw : Region.wanted o (yielded ops a'.tmps) = Region.wanted o (yielded ops a.tmps)) : GrowsIn P ops W o v a' := by
  unfold GrowsIn Oper.quietAt at *
  rw [he, hw]
  exact hy

def gOp (P : Program) (ops : Array Oper) (W : World) (i : Nat) (K : Act → Prop) (a : Act) : Prop := ∃ o v, ops[i]? = some o ∧ GrowsIn P ops W o v a ∧ K (a.put o.dst v)
theorem gOp_mono {i : Nat} {a : Act} {K K' : Act → Prop} (h : ∀ a, K a → K' a) (hh : gOp P ops W i K a) : gOp P ops W i K' a :=
  let ⟨o, v, h1, h2, h3⟩ := hh
  ⟨o, v, h1, h2, h _ h3⟩
theorem gOp_put {j : Nat} {oi oj : Oper} {v : Value} (hj : ops[j]? = some oj) (hap : oi.apart ops oj = true)
    (hsi : ∀ cs b, oi.op ≠ .select cs b) (hsj : ∀ cs b, oj.op ≠ .select cs b) {K : Act → Prop} {a : Act}
    (hy : GrowsIn P ops W oi v a) (h : gOp P ops W j K (a.put oi.dst v)) : gOp P ops W j (fun a' => GrowsIn P ops W oi v a' ∧ K (a'.put oi.dst v)) a := by
  obtain ⟨h1, h2, h3⟩ := Oper.apart_spec hap
  obtain ⟨o, u, ho, hu, hn⟩ := h
  obtain rfl : oj = o := Option.some.inj (hj.symm.trans ho)
  refine ⟨oj, u, ho, hu.of_same (execOp_put oj hsj a oi.dst v h1).symm (wanted_put oj a oi.dst v h1).symm, hy.of_same (execOp_put oi hsi a oj.dst u h3) (wanted_put oi a oj.dst u h3), ?_⟩
  rw [← Act.put_comm a v u h2]; exact hn

/-- The operations that wait for all of the first n + 1, and for one another. -/
def tailB (md : Region.Mode) (ops : Array Oper) (n : Nat) : Bool :=
  ((List.range (n + 1)).all fun i => Region.waitsFor md ops (n + 1) i) && ((List.range ops.size).all fun t => decide (t ≤ n + 1) || Region.waitsFor md ops t (t - 1))
structure TailInv (ops : Array Oper) (n : Nat) (listed : Array Bool) : Prop where
  size : listed.size = ops.size
  tail : ∀ t, n + 1 ≤ t → t < ops.size → listed.getD t true = false
theorem TailInv.set {n i : Nat} {listed : Array Bool} (inv : TailInv ops n listed) (hin : i ≤ n) : TailInv ops n (listed.setIfInBounds i true) :=
  ⟨by simp [inv.size], fun t ht ht' => by rw [getD_set_ne true (by omega)]; exact inv.tail t ht ht'⟩
/-- f operations of the head come up, in whatever order; then L. (Number n is listed already.) -/
def headG (P : Program) (md : Region.Mode) (ops : Array Oper) (W : World) (n : Nat) (L : Array Bool → Act → Prop) : Nat → Array Bool → Act → Prop
  | 0, listed, a => L listed a
  | f + 1, listed, a => Region.ready md ops listed ≠ [] ∧ ∀ i ∈ Region.ready md ops listed, i < n ∧ gOp P ops W i (headG P md ops W n L f (listed.setIfInBounds i true)) a

/-- The head in the order of the text. -/
def wpGrow (P : Program) (ops : Array Oper) (W : World) (Q : Act → Prop) : List Oper → Act → Prop
  | [], a => Q a
  | o :: rest, a => ∃ v, GrowsIn P ops W o v a ∧ wpGrow P ops W Q rest (a.put o.dst v)

def lexHeadA (md : Region.Mode) (ops : Array Oper) (g n : Nat) : Nat → Nat → Array Bool → Bool
  | 0, _, listed => Region.seqB md ops g (n + 1) listed
  | f + 1, k, listed => (Region.ready md ops listed).contains k && Region.free md ops listed k && lexHeadA md ops g n f (k + 1) (listed.setIfInBounds k true)

theorem wpOp_of_grows {i : Nat} {o : Oper} {v : Value} {a : Act} {w : World} {K : Act → World → Prop} {Q : Exit → Act → World → Prop} (hi : ops[i]? = some o) (hw : Below W.heap.size W w) (hy : GrowsIn P ops W o v a)
    (h : ∀ w', Below w.heap.size w w' → K (a.put o.dst v) w') : wpOp P ops Q i K a w := by
  unfold wpOp
  simp only [hi]
  rcases hy with ⟨h1, h2⟩ | ⟨h1, rfl⟩
  · rw [if_pos h1]
    have h3 := h2 w hw
    refine .inl ?_
    unfold Oper.quietAt at h3
    unfold Oper.wp
    generalize (execOp a.eval o).run P w = r at *
    cases r with
    | ok n w' =>
      cases n <;> simp only [Oper.quietUpon] at h3 <;> simp only [Oper.upon]
      case value u =>
        obtain ⟨e1, e2⟩ := h3
        rw [e1, e2]
        exact h _ (Below.refl _ _)
      case skip =>
        obtain ⟨e1, e2⟩ := h3
        rw [e1, ← e2]
        exact h _ (Below.refl _ _)
      case enter f args =>
        obtain ⟨e1, hc⟩ := h3
        rw [e1]
        exact hc.mono fun e w'' ⟨he, hw''⟩ => by subst he; exact h _ hw''
    | halt x w' => simp only [Oper.quietUpon] at h3
  · rw [if_neg (by rw [h1]; exact Bool.false_ne_true)]
    exact h _ (Below.refl _ _)

theorem below_step {W w w' : World} (h : Below W.heap.size W w) (h2 : Below w.heap.size w w') : Below W.heap.size W w' := h.trans (h2.mono h.size)

/-- What is asked of the region, as one Bool. -/
def allocB (md : Region.Mode) (ops : Array Oper) (n : Nat) : Bool :=
  Region.noSelect ops && decide (n + 1 < ops.size) && tailB md ops n && lexHeadA md ops (ops.size - (n + 1)) n n 0 ((Array.replicate ops.size false).setIfInBounds n true) &&
  (match ops[n]? with
   | some al => al.guard.isNone && al.after.all (fun e => !Region.binds md e) && (List.range n).all fun i => ((ops[i]?).map fun o => al.apart ops o).getD true
   | none => false)

section
variable {Q : Act → Prop} {a : Act} {o : Oper} {rest : List Oper}
theorem grow_nil (h : Q a) : wpGrow P ops W Q [] a := h
theorem grow_plain (v : Value) (hg : o.guard = none) (h : ∀ w, Below W.heap.size W w → o.quietAt P a (fun w' => Below w.heap.size w w') w v) (hK : wpGrow P ops W Q rest (a.put o.dst v)) : wpGrow P ops W Q (o :: rest) a :=
  ⟨v, .inl ⟨by simp [Region.wanted, hg], h⟩, hK⟩
theorem grow_go (v : Value) (hw : Region.wanted o (yielded ops a.tmps) = true) (h : ∀ w, Below W.heap.size W w → o.quietAt P a (fun w' => Below w.heap.size w w') w v) (hK : wpGrow P ops W Q rest (a.put o.dst v)) : wpGrow P ops W Q (o :: rest) a :=
  ⟨v, .inl ⟨hw, h⟩, hK⟩
theorem grow_skip (hw : Region.wanted o (yielded ops a.tmps) = false) (hK : wpGrow P ops W Q rest (a.put o.dst undef)) : wpGrow P ops W Q (o :: rest) a :=
  ⟨undef, .inr ⟨hw, rfl⟩, hK⟩
end
end

end Go.Proofs.Ytapegimghfflhaa
end
