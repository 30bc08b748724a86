/- Law: a drawn region with two allocs that wait for nothing; the stores behind them wait in a chain. -/
import Derived.Test.YtapegimghfflhaaN7

section
namespace Go.Proofs.Ytapegimghfflhaa
open Go.RowKit
section
variable {P : Program}

def allocC2 (md : Region.Mode) (ops : Array Oper) (n : Nat) : Bool :=
  Region.noSelect ops && decide (n + 2 < ops.size) && (Region.sinkB md ops (n + 2) && Region.chainB md ops (n + 2)) && lexHeadN md ops (ops.size - (n + 2)) (n + 1) n 0 (((Array.replicate ops.size false).setIfInBounds n true).setIfInBounds (n + 1) true) &&
  newB md ops n n && newB md ops n (n + 1) && apartB ops n (n + 1)

theorem region_allocC2 {id : Nat} {Q : Exit → Act → World → Prop} {a : Act} {w : World} {l : List Oper} {d1 d2 : Option Tmp} {T1 T2 t1 t2 : TypeId} {p1 p2 : String} {a1 a2 : Array Edge} {zc1 zc2 : Obj} (n : Nat) (hm : P.follows .mixedOrders = true) (hB : allocC2 .any l.toArray n = true)
    (hal1 : l[n]? = some { dst := d1, op := .alloc T1, type := t1, pos := p1, after := a1, guard := none })
    (hal2 : l[n + 1]? = some { dst := d2, op := .alloc T2, type := t2, pos := p2, after := a2, guard := none })
    (hex1 : ∀ (ev : Operand → Value) (w : World), (execOp ev { dst := d1, op := .alloc T1, type := t1, pos := p1, after := a1, guard := none }).run P w = .ok (.value (.pointer (some ⟨w.heap.size, 0, none⟩))) (w.alloc zc1))
    (hex2 : ∀ (ev : Operand → Value) (w : World), (execOp ev { dst := d2, op := .alloc T2, type := t2, pos := p2, after := a2, guard := none }).run P w = .ok (.value (.pointer (some ⟨w.heap.size, 0, none⟩))) (w.alloc zc2))
    (h : wpGrow P l.toArray w (fun a' => ∀ b1 b2 w', Below w.heap.size w w' → NewBox w w' b1 zc1 → NewBox w w' b2 zc2 → b1 ≠ b2 → wpList P l.toArray Q (l.drop (n + 2)) ((a'.put d1 (.pointer (some ⟨b1, 0, none⟩))).put d2 (.pointer (some ⟨b2, 0, none⟩))) w') (l.take n) a) : (Code.region id l.toArray true).wp P Q a w := by
  simp only [allocC2, Bool.and_eq_true, decide_eq_true_eq] at hB
  obtain ⟨⟨⟨⟨⟨⟨hsel, hn⟩, hs1, hs2⟩, hlex⟩, hn1⟩, hn2⟩, h12⟩ := hB
  have hs : Tl .any l.toArray (n + 1) := ⟨hs1, hs2, hn⟩
  have hn' : n + 2 < l.length := by simpa using hn
  have htl : (l.take n).length = n := by simp; omega
  have hdl : (l.drop (n + 2)).length = l.toArray.size - (n + 2) := by simp
  have k1 : l.toArray[n]? = some { dst := d1, op := .alloc T1, type := t1, pos := p1, after := a1, guard := none } := by simpa using hal1
  have k2 : l.toArray[n + 1]? = some { dst := d2, op := .alloc T2, type := t2, pos := p2, after := a2, guard := none } := by simpa using hal2
  simp only [apartB, k1, k2] at h12
  obtain ⟨_, c12, _⟩ := Oper.apart_spec h12
  dsimp only at c12
  obtain ⟨e1, he1⟩ : ∃ e : NewOp P .any l.toArray n (n + 1), e = mkNew (Nat.le_refl _) (by omega) k1 rfl hn1 hex1 := ⟨_, rfl⟩
  obtain ⟨e2, he2⟩ : ∃ e : NewOp P .any l.toArray n (n + 1), e = mkNew (by omega) (by omega) k2 rfl hn2 hex2 := ⟨_, rfl⟩
  have i1 : e1.i = n ∧ e1.o.dst = d1 ∧ e1.zc = zc1 := by subst he1; exact ⟨rfl, rfl, rfl⟩
  have i2 : e2.i = n + 1 ∧ e2.o.dst = d2 ∧ e2.zc = zc2 := by subst he2; exact ⟨rfl, rfl, rfl⟩
  clear he1 he2
  have inv0 : HeadInv .any l.toArray (n + 2) (Array.replicate l.toArray.size false) := ⟨by simp, fun j oj _ hl => (by rw [getD_replicate_false] at hl; cases hl), fun t _ ht => getD_in (by simpa using ht) (getD_replicate_false _ _)⟩
  have hun : ∀ j, j < l.length → (Array.replicate l.toArray.size false).getD j true = false := fun j hj => getD_in (by simp; omega) (getD_replicate_false _ _)
  have r1 : n ∈ Region.ready .any l.toArray (Array.replicate l.toArray.size false) := by have := e1.ready (listed := Array.replicate l.toArray.size false) (by rw [i1.1]; exact hun _ (by omega)); rwa [i1.1] at this
  have r2 : n + 1 ∈ Region.ready .any l.toArray ((Array.replicate l.toArray.size false).setIfInBounds n true) := by
    have := e2.ready (listed := (Array.replicate l.toArray.size false).setIfInBounds n true) (by rw [i2.1, getD_set_ne true (by omega)]; exact hun _ (by omega)); rwa [i2.1] at this
  have H := headG_lexN (P := P) (W := w) (n := n) (m := n + 1) (md := .any) (g := l.toArray.size - (n + 2)) hsel hs (by omega) (l.take n) 0 _ a (fun j hj => by
    have hj' : j < n := by rw [htl] at hj; exact hj
    simp [hj']) (by simpa using htl) ((inv0.set r1 (by omega)).set r2 (by omega)) (fun j h1 h2 => by
      rw [getD_set_any, getD_set_any]
      rcases (by omega : j = n ∨ j = n + 1) with h | h <;> simp [h]) (by rw [htl]; exact hlex) h
  refine wp_region_any hm ?_
  have H2 := any_of_headN (n := n) (m := n + 1) (md := .any) (g := l.toArray.size - (n + 2)) (Q := Q) (W := w) hsel hs (by omega) (fun listed' a' hL j hj => by have := seqB_ready hL.1 j hj; omega)
    2 [e1, e2] (fun a => a) w rfl ⟨fun _ _ _ _ _ => ⟨rfl, rfl, fun _ => rfl⟩⟩ (Below.refl _ _) ?fin (l.take n).length (Array.replicate l.toArray.size false) (((Array.replicate l.toArray.size false).setIfInBounds n true).setIfInBounds (n + 1) true) a w.drew (Below.refl _ _).drew inv0
    ⟨by simp, fun j => by
      rw [getD_set_any, getD_set_any]
      simp only [List.map_cons, List.map_nil, i1.1, i2.1, List.contains_cons, List.contains_nil]
      generalize (Array.replicate l.toArray.size false).getD j true = b
      by_cases q1 : j = n <;> by_cases q2 : j = n + 1 <;> cases b <;> simp_all⟩
    (fun e he => by
      simp only [List.mem_cons, List.not_mem_nil, or_false] at he
      rcases he with rfl | rfl
      · rw [i1.1]; exact hun _ (by omega)
      · rw [i2.1]; exact hun _ (by omega)) (by simp [i1.1, i2.1]) H
  case fin =>
    intro l1 r1 f1 e1' w0 hw0 l2 r2 f2 e2' w1 hw1 listed b w2 hw2 hL
    have B0 : Below w.heap.size w (w0.alloc f1.zc) := hw0.alloc hw0.size _
    have N0 : NewBox w (w0.alloc f1.zc) w0.heap.size f1.zc := .new hw0
    have B1 : Below w.heap.size w w1 := B0.trans (hw1.mono B0.size)
    have N0' := newBox_keep N0 hw1
    have q01 := N0'.lt
    have B1' : Below w.heap.size w (w1.alloc f2.zc) := B1.alloc B1.size _
    have N1 : NewBox w (w1.alloc f2.zc) w1.heap.size f2.zc := .new B1
    have N0'' := newBox_keep N0' ((Below.refl _ w1).alloc (Nat.le_refl _) f2.zc)
    have B2 : Below w.heap.size w w2 := B1'.trans (hw2.mono B1'.size)
    have L0 := newBox_keep N0'' hw2
    have L1 := newBox_keep N1 hw2
    have key : ∀ b1 b2, NewBox w w2 b1 zc1 → NewBox w w2 b2 zc2 → b1 ≠ b2 →
        wpAny P .any l.toArray Q (l.toArray.size - (n + 2)) listed ((b.put d1 (.pointer (some ⟨b1, 0, none⟩))).put d2 (.pointer (some ⟨b2, 0, none⟩))) w2 := fun b1 b2 h1 h2 h4 => by
      have := wpAny_of_seq (md := .any) (Q' := Q) (l.drop (n + 2)) (n + 2) listed _ w2 (fun j => by simp [List.getElem?_drop]) (by rw [hdl]; exact hL.1) (hL.2 b1 b2 w2 B2 h1 h2 h4)
      rwa [hdl] at this
    clear N0 N0' N0'' N1 hL hw2 hw1 hw0 B0 B1 B1' B2
    rcases split2 e1' with ⟨rfl, rfl, rfl⟩ | ⟨rfl, rfl, rfl⟩
    · obtain ⟨rfl, rfl, rfl⟩ := split1 e2'
      rw [i1.2.2] at L0; rw [i2.2.2] at L1
      have k := key _ _ L0 L1 (by omega)
      rw [← i1.2.1, ← i2.2.1] at k
      exact k
    · obtain ⟨rfl, rfl, rfl⟩ := split1 e2'
      rw [i2.2.2] at L0; rw [i1.2.2] at L1
      have k := key _ _ L1 L0 (by omega)
      rw [Act.put_comm b _ _ c12] at k
      rw [← i1.2.1, ← i2.2.1] at k
      exact k
  rw [htl, show n + 2 + (l.toArray.size - (n + 2)) = l.toArray.size by omega] at H2
  exact H2
end

end Go.Proofs.Ytapegimghfflhaa
end
