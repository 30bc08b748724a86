/- A law for a region that draws its order, whose head only reads or calls functions that leave old memory alone, and beside which a new variable is allocated at whatever moment: the head is walked once, in the order of the text. No condition.
Contract: ValuesOf (the specification of chapter 2). Printed by a program (gen_d8val.py).
Contract: sumOf (the specification of chapter 2). Printed by a program (gen_d8sum.py).
Two equal values of [6]Range: the comparison says true. -/
import Derived.Test.YtnfbdkdjoekifaaGreatDoorOa6
import Derived.Test.YtnfbdkdjoekifaaGreatDoorOn2
import Derived.Test.YtnfbdkdjoekifaaGreatDoorOb5
import Derived.Test.YtnfbdkdjoekifaaGreatDoorOb2
import Derived.Test.YtnfbdkdjoekifaaGreatDoorOb3
import Derived.DeepKeys

section
namespace Go.Proofs.YtnfbdkdjoekifaaGreatDoor
open Go.RowKit

section
variable {P : Program} {ops : Array Oper} {md : Region.Mode} {W : World}

/-- In every world that has grown out of W the operation yields v, and the world grows. -/
def GrowsIn (P : Program) (ops : Array Oper) (W : World) (o : Oper) (v : Value) (a : Act) : Prop :=
  (Region.wanted o (yielded ops a.tmps) = true ∧ ∀ w, Below W.heap.size W w → o.quietAt P a (fun w' => Below w.heap.size w w') w v) ∨
  (Region.wanted o (yielded ops a.tmps) = false ∧ v = undef)
theorem GrowsIn.of_same {o : Oper} {v : Value} {a a' : Act} (hy : GrowsIn P ops W o v a) (he : execOp a'.eval o = execOp a.eval o)
    (hw : Region.wanted o (yielded ops a'.tmps) = Region.wanted o (yielded ops a.tmps)) : GrowsIn P ops W o v a' := by
  unfold GrowsIn Oper.quietAt at *
  rw [he, hw]
  exact hy

def gOp (P : Program) (ops : Array Oper) (W : World) (i : Nat) (K : Act → Prop) (a : Act) : Prop := ∃ o v, ops[i]? = some o ∧ GrowsIn P ops W o v a ∧ K (a.put o.dst v)
theorem gOp_mono {i : Nat} {a : Act} {K K' : Act → Prop} (h : ∀ a, K a → K' a) (hh : gOp P ops W i K a) : gOp P ops W i K' a :=
  let ⟨o, v, h1, h2, h3⟩ := hh
  ⟨o, v, h1, h2, h _ h3⟩
theorem gOp_put {j : Nat} {oi oj : Oper} {v : Value} (hj : ops[j]? = some oj) (hap : oi.apart ops oj = true)
    (hsi : ∀ cs b, oi.op ≠ .select cs b) (hsj : ∀ cs b, oj.op ≠ .select cs b) {K : Act → Prop} {a : Act}
    (hy : GrowsIn P ops W oi v a) (h : gOp P ops W j K (a.put oi.dst v)) : gOp P ops W j (fun a' => GrowsIn P ops W oi v a' ∧ K (a'.put oi.dst v)) a := by
  obtain ⟨h1, h2, h3⟩ := Oper.apart_spec hap
  obtain ⟨o, u, ho, hu, hn⟩ := h
  obtain rfl : oj = o := Option.some.inj (hj.symm.trans ho)
  refine ⟨oj, u, ho, hu.of_same (execOp_put oj hsj a oi.dst v h1).symm (wanted_put oj a oi.dst v h1).symm, hy.of_same (execOp_put oi hsi a oj.dst u h3) (wanted_put oi a oj.dst u h3), ?_⟩
  rw [← Act.put_comm a v u h2]; exact hn

/-- The operations that wait for all of the first n + 1, and for one another. -/
def tailB (md : Region.Mode) (ops : Array Oper) (n : Nat) : Bool :=
  ((List.range (n + 1)).all fun i => Region.waitsFor md ops (n + 1) i) && ((List.range ops.size).all fun t => decide (t ≤ n + 1) || Region.waitsFor md ops t (t - 1))
structure TailInv (ops : Array Oper) (n : Nat) (listed : Array Bool) : Prop where
  size : listed.size = ops.size
  tail : ∀ t, n + 1 ≤ t → t < ops.size → listed.getD t true = false
theorem TailInv.set {n i : Nat} {listed : Array Bool} (inv : TailInv ops n listed) (hin : i ≤ n) : TailInv ops n (listed.setIfInBounds i true) :=
  ⟨by simp [inv.size], fun t ht ht' => by rw [getD_set_ne true (by omega)]; exact inv.tail t ht ht'⟩
theorem tail_waitsA {n : Nat} {listed : Array Bool} (hs : tailB md ops n = true) (inv : TailInv ops n listed) {i : Nat} (hi : i ≤ n) (hun : listed.getD i true = false) : ∀ t ∈ Region.ready md ops listed, t ≤ n := by
  intro t ht
  rcases Nat.lt_or_ge n t with hlt | h
  · exfalso
    simp only [tailB, Bool.and_eq_true] at hs
    obtain ⟨_, ot, hot, hall⟩ := mem_ready.1 ht
    have htl : t < ops.size := (Array.getElem?_eq_some_iff.1 hot).1
    by_cases htn : t = n + 1
    · subst htn
      have h1 := List.all_eq_true.1 hs.1 i (List.mem_range.2 (by omega))
      obtain ⟨o', ho', e, he, hb, hon⟩ := Region.waitsFor_spec h1
      obtain rfl : o' = ot := Option.some.inj (ho'.symm.trans hot)
      have h2 := hall e he hb
      rw [hon, getD_both hun] at h2
      cases h2
    · have h1 := List.all_eq_true.1 hs.2 t (List.mem_range.2 htl)
      simp only [Bool.or_eq_true, decide_eq_true_eq] at h1
      rcases h1 with h1 | h1
      · omega
      · obtain ⟨o', ho', e, he, hb, hon⟩ := Region.waitsFor_spec h1
        obtain rfl : o' = ot := Option.some.inj (ho'.symm.trans hot)
        have h2 := hall e he hb
        rw [hon, getD_both (inv.tail (t - 1) (by omega) (by omega))] at h2
        cases h2
  · exact h

/-- f operations of the head come up, in whatever order; then L. (Number n is listed already.) -/
def headG (P : Program) (md : Region.Mode) (ops : Array Oper) (W : World) (n : Nat) (L : Array Bool → Act → Prop) : Nat → Array Bool → Act → Prop
  | 0, listed, a => L listed a
  | f + 1, listed, a => Region.ready md ops listed ≠ [] ∧ ∀ i ∈ Region.ready md ops listed, i < n ∧ gOp P ops W i (headG P md ops W n L f (listed.setIfInBounds i true)) a

theorem headG_first {n i : Nat} {oi : Oper} {v : Value} {L : Array Bool → Act → Prop} (hi : ops[i]? = some oi) (hsel : ∀ (j : Nat) (o : Oper) cs b, ops[j]? = some o → o.op ≠ .select cs b)
    (hs : tailB md ops n = true) (hin : i < n) (hdone : ∀ listed a, L listed a → ∀ j ∈ Region.ready md ops listed, n < j) :
    ∀ (f : Nat) (listed : Array Bool) (a : Act), TailInv ops n listed → listed.getD n true = true →
      (∀ j oj, ops[j]? = some oj → j ≠ i → listed.getD j true = false → (∀ e ∈ oj.after, Region.binds md e = true → e.on ≠ i) → oi.apart ops oj = true) →
      i ∈ Region.ready md ops listed → GrowsIn P ops W oi v a →
      headG P md ops W n L f (listed.setIfInBounds i true) (a.put oi.dst v) → headG P md ops W n L (f + 1) listed a := by
  intro f
  induction f with
  | zero =>
    intro listed a inv hnl _ hr hy H
    have hun := (mem_ready.1 hr).1
    refine ⟨fun h => (by rw [h] at hr; cases hr), fun j hj => ?_⟩
    have hjn : j ≤ n := tail_waitsA hs inv (by omega) hun j hj
    have hjn2 : j ≠ n := fun e => by subst e; rw [(mem_ready.1 hj).1] at hnl; cases hnl
    refine ⟨by omega, ?_⟩
    by_cases hji : j = i
    · subst hji; exact ⟨oi, v, hi, hy, H⟩
    · have := hdone _ _ H j (ready_mono hj hji)
      omega
  | succ f ih =>
    intro listed a inv hnl hfree hr hy H
    have hun := (mem_ready.1 hr).1
    refine ⟨fun h => (by rw [h] at hr; cases hr), fun j hj => ?_⟩
    have hjn : j ≤ n := tail_waitsA hs inv (by omega) hun j hj
    have hjn2 : j ≠ n := fun e => by subst e; rw [(mem_ready.1 hj).1] at hnl; cases hnl
    refine ⟨by omega, ?_⟩
    by_cases hji : j = i
    · subst hji; exact ⟨oi, v, hi, hy, H⟩
    · have h1 := (H.2 j (ready_mono hj hji)).2
      obtain ⟨hjun, oj, hoj, hall⟩ := mem_ready.1 hj
      have hnot : ∀ e ∈ oj.after, Region.binds md e = true → e.on ≠ i := fun e he hb heq => by
        have h2 := hall e he hb
        rw [heq, getD_both hun] at h2
        cases h2
      have h2 := gOp_put hoj (hfree j oj hoj hji hjun hnot) (fun cs b => hsel i oi cs b hi) (fun cs b => hsel j oj cs b hoj) hy h1
      refine gOp_mono (fun a' h3 => ih (listed.setIfInBounds j true) a' (inv.set hjn) (by rw [getD_set_ne true hjn2]; exact hnl) (fun k ok hk hki hu hno => hfree k ok hk hki ?_ hno) (ready_mono hr (Ne.symm hji)) h3.1 ?_) h2
      · by_cases hjk : j = k
        · subst hjk; exact hjun
        · rw [getD_set_ne true hjk] at hu; exact hu
      · rw [Array.setIfInBounds_comm _ _ hji]
        exact h3.2

/-- The head in the order of the text. -/
def wpGrow (P : Program) (ops : Array Oper) (W : World) (Q : Act → Prop) : List Oper → Act → Prop
  | [], a => Q a
  | o :: rest, a => ∃ v, GrowsIn P ops W o v a ∧ wpGrow P ops W Q rest (a.put o.dst v)

def lexHeadA (md : Region.Mode) (ops : Array Oper) (g n : Nat) : Nat → Nat → Array Bool → Bool
  | 0, _, listed => Region.seqB md ops g (n + 1) listed
  | f + 1, k, listed => (Region.ready md ops listed).contains k && Region.free md ops listed k && lexHeadA md ops g n f (k + 1) (listed.setIfInBounds k true)

theorem headG_lex {n g : Nat} {Lq : Act → Prop} (hsel : Region.noSelect ops = true) (hs : tailB md ops n = true) :
    ∀ (l : List Oper) (k : Nat) (listed : Array Bool) (a : Act), (∀ j, j < l.length → l[j]? = ops[k + j]?) → k + l.length = n → TailInv ops n listed → listed.getD n true = true →
    lexHeadA md ops g n l.length k listed = true → wpGrow P ops W Lq l a →
    headG P md ops W n (fun listed' a' => Region.seqB md ops g (n + 1) listed' = true ∧ Lq a') l.length listed a
  | [], k, listed, a, _, hk, _, _, hB, h => ⟨by simpa [lexHeadA] using hB, h⟩
  | o :: l, k, listed, a, hl, hk, inv, hnl, hB, h => by
    have h0 : ops[k]? = some o := by simpa using (hl 0 (by simp)).symm
    simp only [List.length_cons, lexHeadA, Bool.and_eq_true] at hB
    obtain ⟨⟨hr, hf⟩, hB'⟩ := hB
    have hkn : k < n := by simp only [List.length_cons] at hk; omega
    have hr' : k ∈ Region.ready md ops listed := by simpa using hr
    obtain ⟨v, hy, hK⟩ := h
    exact headG_first h0 (Region.noSelect_spec hsel) hs hkn (fun listed' a' hL j hj => by have := seqB_ready hL.1 j hj; omega) l.length listed a inv hnl (Region.free_spec h0 hf) hr' hy
      (headG_lex hsel hs l (k + 1) _ _ (fun j hj => by have := hl (j + 1) (by simp; omega); simpa [Nat.add_assoc, Nat.add_comm 1 j] using this) (by simp only [List.length_cons] at hk; omega) (inv.set (by omega)) (by rw [getD_set_ne true (by omega)]; exact hnl) hB' hK)

theorem wpOp_of_grows {i : Nat} {o : Oper} {v : Value} {a : Act} {w : World} {K : Act → World → Prop} {Q : Exit → Act → World → Prop} (hi : ops[i]? = some o) (hw : Below W.heap.size W w) (hy : GrowsIn P ops W o v a)
    (h : ∀ w', Below w.heap.size w w' → K (a.put o.dst v) w') : wpOp P ops Q i K a w := by
  unfold wpOp
  simp only [hi]
  rcases hy with ⟨h1, h2⟩ | ⟨h1, rfl⟩
  · rw [if_pos h1]
    have h3 := h2 w hw
    refine .inl ?_
    unfold Oper.quietAt at h3
    unfold Oper.wp
    generalize (execOp a.eval o).run P w = r at *
    cases r with
    | ok n w' =>
      cases n <;> simp only [Oper.quietUpon] at h3 <;> simp only [Oper.upon]
      case value u =>
        obtain ⟨e1, e2⟩ := h3
        rw [e1, e2]
        exact h _ (Below.refl _ _)
      case skip =>
        obtain ⟨e1, e2⟩ := h3
        rw [e1, ← e2]
        exact h _ (Below.refl _ _)
      case enter f args =>
        obtain ⟨e1, hc⟩ := h3
        rw [e1]
        exact hc.mono fun e w'' ⟨he, hw''⟩ => by subst he; exact h _ hw''
    | halt x w' => simp only [Oper.quietUpon] at h3
  · rw [if_neg (by rw [h1]; exact Bool.false_ne_true)]
    exact h _ (Below.refl _ _)

theorem below_step {W w w' : World} (h : Below W.heap.size W w) (h2 : Below w.heap.size w w') : Below W.heap.size W w' := h.trans (h2.mono h.size)

/-- The variable is there already: what is left of the head; then the tail. -/
theorem any_of_headG {n g : Nat} {L : Array Bool → Act → Prop} {Q : Exit → Act → World → Prop} {al : Oper} {p : Value} (hsel : Region.noSelect ops = true)
    (hap : ∀ i o, i < n → ops[i]? = some o → al.apart ops o = true) {w0 : World} (hw0 : Below W.heap.size W w0)
    (hL : ∀ listed a w, Below w0.heap.size w0 w → L listed a → wpAny P md ops Q g listed (a.put al.dst p) w) :
    ∀ (f : Nat) (listed : Array Bool) (a : Act) (w : World), Below w0.heap.size w0 w → headG P md ops W n L f listed a → wpAny P md ops Q (f + g) listed (a.put al.dst p) w
  | 0, listed, a, w, hw, h => by rw [Nat.zero_add]; exact hL _ _ _ hw h
  | f + 1, listed, a, w, hw, h => by
    rw [show f + 1 + g = (f + g) + 1 by omega]
    refine ⟨fun h0 => absurd h0 h.1, fun i hi => ?_⟩
    obtain ⟨hin, o, v, ho, hy, hK⟩ := h.2 i hi
    obtain ⟨h1, h2, h3⟩ := Oper.apart_spec (hap i o hin ho)
    have hso : ∀ cs b, o.op ≠ .select cs b := fun cs b => Region.noSelect_spec hsel i o cs b ho
    refine wpOp_of_grows ho (below_step hw0 hw) (hy.of_same (execOp_put o hso a al.dst p h1) (wanted_put o a al.dst p h1)) fun w' hw' => ?_
    rw [Act.put_comm a p v h2]
    exact any_of_headG hsel hap hw0 hL f _ _ w' (below_step hw hw') hK

/-- The variable is not there yet. -/
theorem any_of_headA {n g : Nat} {L : Array Bool → Act → Prop} {Q : Exit → Act → World → Prop} {al : Oper} {zc : Obj} (hsel : Region.noSelect ops = true) (hs : tailB md ops n = true)
    (hal : ops[n]? = some al) (hgd : al.guard = none) (haf : al.after.all (fun e => !Region.binds md e) = true)
    (hex : ∀ (ev : Operand → Value) (w : World), (execOp ev al).run P w = .ok (.value (.pointer (some ⟨w.heap.size, 0, none⟩))) (w.alloc zc))
    (hap : ∀ i o, i < n → ops[i]? = some o → al.apart ops o = true)
    (hdone : ∀ listed a, L listed a → ∀ j ∈ Region.ready md ops listed, n < j)
    (hL : ∀ (w0 : World) listed a w, Below W.heap.size W w0 → Below (w0.alloc zc).heap.size (w0.alloc zc) w → L listed a → wpAny P md ops Q g listed (a.put al.dst (.pointer (some ⟨w0.heap.size, 0, none⟩))) w) :
    ∀ (f : Nat) (listed : Array Bool) (a : Act) (w : World), Below W.heap.size W w → TailInv ops n listed → listed.getD n true = false → headG P md ops W n L f (listed.setIfInBounds n true) a →
      wpAny P md ops Q (f + 1 + g) listed a w := by
  intro f
  induction f with
  | zero =>
    intro listed a w hw inv hun H
    have hrn : n ∈ Region.ready md ops listed := mem_ready.2 ⟨hun, al, hal, fun e he hb => by
      have := (Array.all_eq_true_iff_forall_mem.1 haf) e he
      simp [hb] at this⟩
    rw [show 0 + 1 + g = g + 1 by omega]
    refine ⟨fun h => (by rw [h] at hrn; cases hrn), fun i hi => ?_⟩
    have hin : i ≤ n := tail_waitsA hs inv (Nat.le_refl _) hun i hi
    by_cases hne : i = n
    · subst hne
      unfold wpOp
      simp only [hal]
      rw [if_pos (by simp [Region.wanted, hgd])]
      refine .inl ?_
      unfold Oper.wp
      rw [hex]
      exact hL w _ _ _ hw (Below.refl _ _) H
    · have := hdone _ _ H i (ready_mono hi hne)
      omega
  | succ f ih =>
    intro listed a w hw inv hun H
    have hrn : n ∈ Region.ready md ops listed := mem_ready.2 ⟨hun, al, hal, fun e he hb => by
      have := (Array.all_eq_true_iff_forall_mem.1 haf) e he
      simp [hb] at this⟩
    rw [show f + 1 + 1 + g = (f + 1 + g) + 1 by omega]
    refine ⟨fun h => (by rw [h] at hrn; cases hrn), fun i hi => ?_⟩
    have hin : i ≤ n := tail_waitsA hs inv (Nat.le_refl _) hun i hi
    by_cases hne : i = n
    · subst hne
      unfold wpOp
      simp only [hal]
      rw [if_pos (by simp [Region.wanted, hgd])]
      refine .inl ?_
      unfold Oper.wp
      rw [hex]
      show wpAny P md ops Q (f + 1 + g) _ _ _
      exact any_of_headG hsel hap (w0 := w.alloc zc) (hw.alloc hw.size _) (fun listed' a' w' hw' hl => hL w listed' a' w' hw hw' hl) (f + 1) _ a _ (Below.refl _ _) H
    · obtain ⟨_, o, v, ho, hy, hK⟩ := H.2 i (ready_mono hi hne)
      refine wpOp_of_grows ho hw hy fun w' hw' => ?_
      refine ih _ _ w' (below_step hw hw') (inv.set hin) (by rw [getD_set_ne true hne]; exact hun) ?_
      rw [Array.setIfInBounds_comm _ _ hne]
      exact hK

/-- What is asked of the region, as one Bool. -/
def allocB (md : Region.Mode) (ops : Array Oper) (n : Nat) : Bool :=
  Region.noSelect ops && decide (n + 1 < ops.size) && tailB md ops n && lexHeadA md ops (ops.size - (n + 1)) n n 0 ((Array.replicate ops.size false).setIfInBounds n true) &&
  (match ops[n]? with
   | some al => al.guard.isNone && al.after.all (fun e => !Region.binds md e) && (List.range n).all fun i => ((ops[i]?).map fun o => al.apart ops o).getD true
   | none => false)

theorem region_alloc {id : Nat} {Q : Exit → Act → World → Prop} {a : Act} {w : World} {l : List Oper} {dst : Option Tmp} {T ty : TypeId} {pos : String} {af : Array Edge} {zc : Obj} (n : Nat) (hm : P.follows .mixedOrders = true) (hB : allocB .any l.toArray n = true)
    (hal : l[n]? = some { dst := dst, op := .alloc T, type := ty, pos := pos, after := af, guard := none })
    (hex : ∀ (ev : Operand → Value) (w : World), (execOp ev { dst := dst, op := .alloc T, type := ty, pos := pos, after := af, guard := none }).run P w = .ok (.value (.pointer (some ⟨w.heap.size, 0, none⟩))) (w.alloc zc))
    (h : wpGrow P l.toArray w (fun a' => ∀ v w', Below w.heap.size w v → Below (v.alloc zc).heap.size (v.alloc zc) w' → wpList P l.toArray Q (l.drop (n + 1)) (a'.put dst (.pointer (some ⟨v.heap.size, 0, none⟩))) w') (l.take n) a) : (Code.region id l.toArray true).wp P Q a w := by
  simp only [allocB, Bool.and_eq_true, decide_eq_true_eq] at hB
  obtain ⟨⟨⟨⟨hsel, hn⟩, hs⟩, hlex⟩, hrest⟩ := hB
  have hn' : n + 1 < l.length := by simpa using hn
  have htl : (l.take n).length = n := by simp; omega
  have hdl : (l.drop (n + 1)).length = l.toArray.size - (n + 1) := by simp
  have hal' : l.toArray[n]? = some { dst := dst, op := .alloc T, type := ty, pos := pos, after := af, guard := none } := by simpa using hal
  rw [hal'] at hrest
  simp only [Option.isNone_none, Bool.true_and, Bool.and_eq_true] at hrest
  obtain ⟨haf, hap⟩ := hrest
  have inv0 : TailInv l.toArray n (Array.replicate l.toArray.size false) := ⟨by simp, fun t _ ht => getD_in (by simpa using ht) (getD_replicate_false _ _)⟩
  have hun0 : (Array.replicate l.toArray.size false).getD n true = false := getD_in (by simp; omega) (getD_replicate_false _ _)
  have hset : ((Array.replicate l.toArray.size false).setIfInBounds n true).getD n true = true := by
    simp
  have H := headG_lex (md := .any) (g := l.toArray.size - (n + 1)) hsel hs (l.take n) 0 _ a (fun j hj => by
    have hj' : j < n := by rw [htl] at hj; exact hj
    simp [hj']) (by simpa using htl) (inv0.set (Nat.le_refl _)) hset (by rw [htl]; exact hlex) h
  refine wp_region_any hm ?_
  have H2 := any_of_headA (md := .any) (g := l.toArray.size - (n + 1)) (Q := Q) hsel hs hal' rfl haf hex
    (fun i o hi ho => by
      have := List.all_eq_true.1 hap i (List.mem_range.2 hi)
      rw [ho] at this
      simpa using this)
    (fun listed' a' hL j hj => by have := seqB_ready hL.1 j hj; omega)
    (fun w0 listed' a' w' hw0 hw' hL => by
      have := wpAny_of_seq (md := .any) (Q' := Q) (l.drop (n + 1)) (n + 1) listed' _ w' (fun j => by simp [List.getElem?_drop]) (by rw [hdl]; exact hL.1) (hL.2 w0 w' hw0 hw')
      rwa [hdl] at this) _ _ a w.drew (Below.refl _ _).drew inv0 hun0 H
  rw [htl, show n + 1 + (l.toArray.size - (n + 1)) = l.toArray.size by omega] at H2
  exact H2

/-! One operation of the head. -/
section
variable {Q : Act → Prop} {a : Act} {o : Oper} {rest : List Oper}
theorem grow_nil (h : Q a) : wpGrow P ops W Q [] a := h
theorem grow_plain (v : Value) (hg : o.guard = none) (h : ∀ w, Below W.heap.size W w → o.quietAt P a (fun w' => Below w.heap.size w w') w v) (hK : wpGrow P ops W Q rest (a.put o.dst v)) : wpGrow P ops W Q (o :: rest) a :=
  ⟨v, .inl ⟨by simp [Region.wanted, hg], h⟩, hK⟩
theorem grow_go (v : Value) (hw : Region.wanted o (yielded ops a.tmps) = true) (h : ∀ w, Below W.heap.size W w → o.quietAt P a (fun w' => Below w.heap.size w w') w v) (hK : wpGrow P ops W Q rest (a.put o.dst v)) : wpGrow P ops W Q (o :: rest) a :=
  ⟨v, .inl ⟨hw, h⟩, hK⟩
theorem grow_skip (hw : Region.wanted o (yielded ops a.tmps) = false) (hK : wpGrow P ops W Q rest (a.put o.dst undef)) : wpGrow P ops W Q (o :: rest) a :=
  ⟨undef, .inr ⟨hw, rfl⟩, hK⟩
end
end

end Go.Proofs.YtnfbdkdjoekifaaGreatDoor
end

section
namespace Go.Proofs.YtnfbdkdjoekifaaGreatDoor
open Go.RowKit
theorem valuesR_size : (Tryz.prog.info? 58).map (·.size) = some 12 := by kernel_rfl
theorem mix_set (sl : List (List DPart)) (ch : List Int) (k : Nat) : ∀ {q : Nat}, q < 6 →
    ((valsC (mixV sl ch k q)).setIfInBounds (q * 2) (.int .i64 (valsF sl ch (k + 1) (q : Int)).1)).setIfInBounds (q * 2 + 1) (.int .i64 (valsF sl ch (k + 1) (q : Int)).2) = valsC (mixV sl ch k (q + 1))
  | 0, _ => rfl
  | 1, _ => rfl
  | 2, _ => rfl
  | 3, _ => rfl
  | 4, _ => rfl
  | 5, _ => rfl
  | q + 6, h => absurd h (by omega)
theorem part_valR (p : DPart) {k : Nat} (h : k < 6) : (partU p)[2 + k * 2]? = some (.int .i64 (valP p (k : Int)).1) ∧ (partU p)[2 + k * 2 + 1]? = some (.int .i64 (valP p (k : Int)).2) := by
  rcases (show k = 0 ∨ k = 1 ∨ k = 2 ∨ k = 3 ∨ k = 4 ∨ k = 5 by omega) with rfl | rfl | rfl | rfl | rfl | rfl <;> exact ⟨rfl, rfl⟩

set_option maxRecDepth 100000 in
set_option maxHeartbeats 8000000 in
theorem refValuesOf_any (B : Nat) (sl : List (List DPart)) (SA : Option Addr) (n c : Nat) (idle price : Int) (ch : List Int) (CA : Option Addr) (cc : Nat) (w : World) (hr : SlotsIn B w SA sl) (hc : IntsIn B w CA ch) (hB : B ≤ w.heap.size) (hn : sl.length = n) (hs : SlotsOk sl) (hch : ChoiceOk sl ch) :
    Calls Tryz.prog 64 #[.agg #[.slice SA n c, .int .i64 idle, .int .i64 price], .slice CA n cc] w fun e w' => e = .returned (valsV (valsF sl ch n)) ∧ Below w.heap.size w w' := by
  have HR := Lib.hid hr
  have HC := Lib.hid hc
  have HN := Lib.hid hn
  have HM := Lib.hid (show ch.length = n by rw [hch.1]; exact hn)
  have HSl := Lib.hid hs
  have HCh := Lib.hid hch
  have hn5 : n ≤ 5 := by rw [← hn]; exact hs.1.2
  have HBd := Lib.hid (fun k (hk : k ≤ n) q => vals_bd hs hch q (k := k) (by rw [hn]; exact hk))
  clear hr hc hn hs hch
  unfold valsV
  go_enter Tryz.func64, Tryz.ntmps64
  go_wp2
  have HS0 := Lib.hid (show Blk (((w.alloc (.cells #[.slice SA n c, .int .i64 idle, .int .i64 price] 27)).alloc (.cells #[.int .i64 0, .int .i64 0, .int .i64 0, .int .i64 0, .int .i64 0, .int .i64 0, .int .i64 0, .int .i64 0, .int .i64 0, .int .i64 0, .int .i64 0, .int .i64 0] 58)).alloc (.cells #[.int .i64 0, .int .i64 0, .int .i64 0, .int .i64 0, .int .i64 0, .int .i64 0, .int .i64 0, .int .i64 0, .int .i64 0, .int .i64 0, .int .i64 0, .int .i64 0] 58)) w.heap.size 27 #[.slice SA n c, .int .i64 idle, .int .i64 price] ∧ Blk (((w.alloc (.cells #[.slice SA n c, .int .i64 idle, .int .i64 price] 27)).alloc (.cells #[.int .i64 0, .int .i64 0, .int .i64 0, .int .i64 0, .int .i64 0, .int .i64 0, .int .i64 0, .int .i64 0, .int .i64 0, .int .i64 0, .int .i64 0, .int .i64 0] 58)).alloc (.cells #[.int .i64 0, .int .i64 0, .int .i64 0, .int .i64 0, .int .i64 0, .int .i64 0, .int .i64 0, .int .i64 0, .int .i64 0, .int .i64 0, .int .i64 0, .int .i64 0] 58)) (w.heap.size + 1 + 1) 58 (valsC (valsF sl ch 0)) ∧ Blk (((w.alloc (.cells #[.slice SA n c, .int .i64 idle, .int .i64 price] 27)).alloc (.cells #[.int .i64 0, .int .i64 0, .int .i64 0, .int .i64 0, .int .i64 0, .int .i64 0, .int .i64 0, .int .i64 0, .int .i64 0, .int .i64 0, .int .i64 0, .int .i64 0] 58)).alloc (.cells #[.int .i64 0, .int .i64 0, .int .i64 0, .int .i64 0, .int .i64 0, .int .i64 0, .int .i64 0, .int .i64 0, .int .i64 0, .int .i64 0, .int .i64 0, .int .i64 0] 58)) (w.heap.size + 1) 58 #[.int .i64 0, .int .i64 0, .int .i64 0, .int .i64 0, .int .i64 0, .int .i64 0, .int .i64 0, .int .i64 0, .int .i64 0, .int .i64 0, .int .i64 0, .int .i64 0] ∧ Below w.heap.size w (((w.alloc (.cells #[.slice SA n c, .int .i64 idle, .int .i64 price] 27)).alloc (.cells #[.int .i64 0, .int .i64 0, .int .i64 0, .int .i64 0, .int .i64 0, .int .i64 0, .int .i64 0, .int .i64 0, .int .i64 0, .int .i64 0, .int .i64 0, .int .i64 0] 58)).alloc (.cells #[.int .i64 0, .int .i64 0, .int .i64 0, .int .i64 0, .int .i64 0, .int .i64 0, .int .i64 0, .int .i64 0, .int .i64 0, .int .i64 0, .int .i64 0, .int .i64 0] 58)) from
    ⟨((Blk.newAt rfl).alloc).alloc, Blk.newAt (by simp), (Blk.newAt (by simp)).alloc, pa (pa (pa pr))⟩)
  generalize (((w.alloc (.cells #[.slice SA n c, .int .i64 idle, .int .i64 price] 27)).alloc (.cells #[.int .i64 0, .int .i64 0, .int .i64 0, .int .i64 0, .int .i64 0, .int .i64 0, .int .i64 0, .int .i64 0, .int .i64 0, .int .i64 0, .int .i64 0, .int .i64 0] 58)).alloc (.cells #[.int .i64 0, .int .i64 0, .int .i64 0, .int .i64 0, .int .i64 0, .int .i64 0, .int .i64 0, .int .i64 0, .int .i64 0, .int .i64 0, .int .i64 0, .int .i64 0] 58)) = v0 at *
  have HN3 := Lib.hid (show w.heap.size ≤ w.heap.size + 1 ∧ w.heap.size ≤ w.heap.size + 1 + 1 ∧ w.heap.size ≠ w.heap.size + 1 ∧ w.heap.size ≠ w.heap.size + 1 + 1 ∧ w.heap.size + 1 ≠ w.heap.size + 1 + 1 by omega)
  generalize w.heap.size + 1 + 1 = b5 at *
  generalize w.heap.size + 1 = b4 at *
  go_loopw [6] (fun iv wr => ∃ k : Nat, iv = .int .i64 (k : Int) ∧ k ≤ n ∧ Blk wr w.heap.size 27 #[.slice SA n c, .int .i64 idle, .int .i64 price] ∧ Blk wr b5 58 (valsC (valsF sl ch k)) ∧ Blk wr b4 58 #[.int .i64 0, .int .i64 0, .int .i64 0, .int .i64 0, .int .i64 0, .int .i64 0, .int .i64 0, .int .i64 0, .int .i64 0, .int .i64 0, .int .i64 0, .int .i64 0] ∧ Below w.heap.size w wr) (fun iv _ => n - (intOf iv).toNat)
  case atStart => exact ⟨0, rfl, Nat.zero_le _, HS0.out⟩
  case round =>
    clear HS0
    obtain ⟨k, rfl, hk, q0, q5, q4, hq⟩ := hrel
    have HQ := Lib.hid hq
    have Q0 := Lib.hid q0
    have Q5 := Lib.hid q5
    have Q4 := Lib.hid q4
    clear q0 q5 q4 hq
    by_cases hlt : k < n
    · have hst : ∀ q : Int, valsF sl ch (k + 1) q = ((valsF sl ch k q).1 + (valP (partAt sl k (ch.getD k 0)) q).1, (valsF sl ch k q).2 + (valP (partAt sl k (ch.getD k 0)) q).2) := fun q => rfl
      have hk' : k < sl.length := by rw [HN.out]; exact hlt
      obtain ⟨_, _, hpo⟩ := part_mem HSl.out HCh.out hk'
      have hcb := HCh.out.2 k hk'
      obtain ⟨b0, off0, rfl, hb0, hct0⟩ := HC.out.at_ (k := k) (by rw [HM.out]; exact hlt)
      have e0 := hct0 k (by rw [HM.out]; exact hlt)
      obtain ⟨b1, off1, rfl, hb1, hct1⟩ := HR.out.at_ hk'
      obtain ⟨A2, c2, e1, hts, hcap⟩ := hct1 k hk'
      unfold partAt at *
      generalize ch.getD k 0 = y at *
      obtain ⟨yn, rfl⟩ : ∃ yn : Nat, y = (yn : Int) := ⟨y.toNat, by omega⟩
      have hyl : yn < (sl.getD k []).length := by omega
      obtain ⟨b2, off2, rfl, hb2, hct2⟩ := parts_at hts hyl
      have HPt := Lib.hid (hct2 yn hyl)
      rw [Int.toNat_natCast] at *
      generalize (sl.getD k []).length = ln at *
      generalize (sl.getD k []).getD yn default = prt at *
      have HCell := Lib.hid (fun W (hW : Below w.heap.size w W) => (show W.cell? ⟨b0, off0 + k, none⟩ = some (.int .i64 (yn : Int)) ∧ W.cell? ⟨b1, off1 + k, none⟩ = some (.slice (some ⟨b2, off2, none⟩) ln c2) ∧ (∀ q, q < 6 → W.cell? ⟨b2, off2 + yn * 14 + 2 + q * 2, none⟩ = some (.int .i64 (valP prt (q : Int)).1) ∧ W.cell? ⟨b2, off2 + yn * 14 + 2 + q * 2 + 1, none⟩ = some (.int .i64 (valP prt (q : Int)).2)) ∧ (b0 < W.heap.size ∧ b1 < W.heap.size ∧ b2 < W.heap.size) from
        ⟨((bcell hW).1 _ _ (by omega)).trans e0, ((bcell hW).1 _ _ (by omega)).trans e1, fun q hq => by
          obtain ⟨p1, p2⟩ := part_valR prt hq
          have f1 := ((bcell hW).1 b2 _ (by omega)).trans ((HPt.out (2 + q * 2) (by omega)).trans p1)
          have f2 := ((bcell hW).1 b2 _ (by omega)).trans ((HPt.out (2 + q * 2 + 1) (by omega)).trans p2)
          rw [show off2 + yn * 14 + (2 + q * 2) = off2 + yn * 14 + 2 + q * 2 by omega] at f1
          rw [show off2 + yn * 14 + (2 + q * 2 + 1) = off2 + yn * 14 + 2 + q * 2 + 1 by omega] at f2
          exact ⟨f1, f2⟩, by have := hW.size; omega⟩))
      have y0 : (0 : Int) ≤ (yn : Int) := by omega
      have y1 : (yn : Int) < (ln : Int) := by omega
      have k0 : (0 : Int) ≤ (k : Int) := by omega
      have k1 : (k : Int) < (n : Int) := by omega
      have HSt := Lib.hid hst
      have HPo := Lib.hid hpo
      rw [← mix_start] at Q5
      clear hst hct0 hct1 hct2 hts hcap hcb hpo e0 e1 HPt
      go_wp2
      obtain ⟨wo, hwo⟩ : ∃ wo : World, wo = wr := ⟨_, rfl⟩
      subst hwo
      have HP0 := Lib.hid (show Blk wo w.heap.size 27 #[.slice (some ⟨b1, off1, none⟩) n c, .int .i64 idle, .int .i64 price] ∧ Blk wo b5 58 (valsC (mixV sl ch k 0)) ∧ Blk wo b4 58 #[.int .i64 0, .int .i64 0, .int .i64 0, .int .i64 0, .int .i64 0, .int .i64 0, .int .i64 0, .int .i64 0, .int .i64 0, .int .i64 0, .int .i64 0, .int .i64 0] ∧ Below w.heap.size w wo from ⟨Q0.out, Q5.out, Q4.out, HQ.out⟩)
      clear Q0 Q5 Q4 HQ
      go_loopw [7] (fun iv wr => ∃ q : Nat, iv = .int .i64 (q : Int) ∧ q ≤ 6 ∧ Blk wr w.heap.size 27 #[.slice (some ⟨b1, off1, none⟩) n c, .int .i64 idle, .int .i64 price] ∧ Blk wr b5 58 (valsC (mixV sl ch k q)) ∧ Blk wr b4 58 #[.int .i64 0, .int .i64 0, .int .i64 0, .int .i64 0, .int .i64 0, .int .i64 0, .int .i64 0, .int .i64 0, .int .i64 0, .int .i64 0, .int .i64 0, .int .i64 0] ∧ Below w.heap.size w wr) (fun iv _ => 6 - (intOf iv).toNat)
      case atStart => exact ⟨0, rfl, Nat.zero_le _, HP0.out⟩
      case round =>
        clear HP0
        obtain ⟨q, rfl, hq6, q0, q5, q4, hq⟩ := hrel
        have HQ := Lib.hid hq
        have Q0 := Lib.hid q0
        have Q5 := Lib.hid q5
        have Q4 := Lib.hid q4
        have x0 := q0.cellAt 0 rfl
        have xl := q0.lt
        clear q0 q5 q4 hq
        by_cases hlt6 : q < 6
        · obtain ⟨e0, e1, hpt, hb0w, hb1w, hb2w⟩ := HCell.out wr HQ.out
          obtain ⟨e2, e3⟩ := hpt q hlt6
          obtain ⟨v1, v2⟩ := vals_cell (mixV sl ch k q) hlt6
          have hsz := valsC_size (mixV sl ch k q)
          have hms := mix_set sl ch k hlt6
          rw [mix_at] at v1 v2
          have hb1' := HBd.out k (by omega) (q : Int)
          have hb2' := HPo.out.2.2 (q : Int)
          have hst := HSt.out (q : Int)
          rw [hst] at hms
          have k5 : (k : Int) ≤ 5 := by omega
          have q60 : (0 : Int) ≤ (q : Int) := by omega
          have q61 : (q : Int) < 6 := by omega
          generalize (valsF sl ch k (q : Int)).1 = x1 at *
          generalize (valsF sl ch k (q : Int)).2 = x2 at *
          generalize (valP prt (q : Int)).1 = p1 at *
          generalize (valP prt (q : Int)).2 = p2 at *
          dsimp only at hms
          have bd1 : 0 ≤ x1 ∧ x1 ≤ 5000000 := by omega
          have bd2 : 0 ≤ x2 ∧ x2 ≤ 5000000 := by omega
          have bd3 : 0 ≤ p1 ∧ p1 ≤ 1000000 := by omega
          have bd4 : 0 ≤ p2 ∧ p2 ≤ 1000000 := by omega
          have wp1 : IntKind.i64.wrap (x1 + p1) = x1 + p1 := IntWalk.i64_in _ (by omega)
          have wp2 : IntKind.i64.wrap (x2 + p2) = x2 + p2 := IntWalk.i64_in _ (by omega)
          have HV1 := Lib.hid v1
          have HV2 := Lib.hid v2
          have HSz := Lib.hid hsz
          have HMs := Lib.hid hms
          clear hms hst v1 v2 hsz hb1' hb2' hpt
          generalize valsC (mixV sl ch k q) = V at *
          go_wp2
          refine region_alloc (zc := (.cells #[.int .i64 0, .int .i64 0] 57)) 14 follows_mixed (by kernel_rfl) rfl (fun _ _ => by kernel_rfl) ?_
          simp only [List.take_succ_cons, List.take_zero, List.drop_succ_cons, List.drop_zero]
          repeat (first
            | ((with_reducible apply grow_plain); (focus rfl); (focus (intro w' hw; obtain ⟨hcq, hfq⟩ := bcell hw; go_simp; (first | done | rfl))); (simp only [Act.put, List.setIfInBounds_toArray, List.set_cons_succ, List.set_cons_zero]))
            | ((with_reducible apply grow_skip); (focus (first | (simp [Region.wanted, yielded]; done) | (simp [Region.wanted, yielded, undef]; done))); simp only [Act.put, List.setIfInBounds_toArray, List.set_cons_succ, List.set_cons_zero])
            | ((with_reducible apply grow_go); (focus (first | (simp [Region.wanted, yielded]; done) | (simp [Region.wanted, yielded, undef]; done))); (focus (intro w' hw; obtain ⟨hcq, hfq⟩ := bcell hw; go_simp; (first | done | rfl))); (simp only [Act.put, List.setIfInBounds_toArray, List.set_cons_succ, List.set_cons_zero])))
          refine grow_nil ?_
          intro v1 w1 hv1 hb1
          simp only [List.setIfInBounds_toArray, List.set_cons_succ, List.set_cons_zero]
          have R0 := Lib.hid (((Q0.out.past hv1).alloc (o := .cells #[.int .i64 0, .int .i64 0] 57)).past hb1)
          have R5 := Lib.hid (((Q5.out.past hv1).alloc (o := .cells #[.int .i64 0, .int .i64 0] 57)).past hb1)
          have R4 := Lib.hid (((Q4.out.past hv1).alloc (o := .cells #[.int .i64 0, .int .i64 0] 57)).past hb1)
          have T8 := Lib.hid ((Blk.new v1 57 #[.int .i64 0, .int .i64 0]).past hb1)
          have RB := Lib.hid (pt (pa (pt HQ.out hv1)) hb1)
          have ht5 : b5 < v1.heap.size := (Q5.out.past hv1).lt
          have ht4 : b4 < v1.heap.size := (Q4.out.past hv1).lt
          have ht0 : w.heap.size < v1.heap.size := (Q0.out.past hv1).lt
          clear hv1 hb1 e0 e1 e2 e3 hb0w hb1w hb2w x0 xl Q0 Q5 Q4 HQ
          generalize v1.heap.size = tb at *
          go_wp2_with ((with_reducible refine store_blk (T := 57) (x := .tmp 8) (y := .tmp 32) (vs := #[.int .i64 p1, .int .i64 p2]) T8.out ?_ ?_ ?_ ?_ ?_ ?_); (focus rfl); (focus exact range_size); (focus (simp [Value.oneCell']; done)); (focus (first | rfl | (go_simp; done))); (focus (first | rfl | (go_simp; done))); intro wa RT PT)
          have U0 := Lib.hid (R0.out.put PT (by omega))
          have U5 := Lib.hid (R5.out.put PT (by omega))
          have U4 := Lib.hid (R4.out.put PT (by omega))
          have U8 := Lib.hid RT
          have UB := Lib.hid (pp RB.out PT (by omega))
          clear R0 R5 R4 T8 RB RT PT
          refine wp_region_G 19 follows_mixed (fun W => W.cell? ⟨tb, 0, none⟩ = some (.int .i64 p1) ∧ W.cell? ⟨tb, 1, none⟩ = some (.int .i64 p2) ∧ W.cell? ⟨b5, q * 2 + 1, none⟩ = some (.int .i64 x2)) ⟨(U8.out.drew).cellAt 0 rfl, (U8.out.drew).cellAt 1 rfl, ((U5.out.drew).cell _).trans HV2.out⟩ ?_
          intro hSd inv
          have HSd := Lib.hid hSd
          clear hSd
          refine wpAnyG_take (i := 0) (v := ?_) rfl (by kernel_rfl) (by kernel_rfl) (by kernel_rfl) (by kernel_rfl) (by kernel_rfl) (by decide) (by decide) inv (fun _ _ _ h => h) (Or.inl ⟨by rfl, ?_⟩) HSd.out ?_; rotate_left; (focus (intro W y1; obtain ⟨y1, y2, y3⟩ := y1; go_simp; (first | done | with_reducible rfl))); clear inv; intro inv; simp only [List.getElem_toArray, List.getElem_cons_zero, Act.put, List.setIfInBounds_toArray, List.set_cons_zero, List.set_cons_succ]
          refine wpAnyG_take (i := 1) (v := ?_) rfl (by kernel_rfl) (by kernel_rfl) (by kernel_rfl) (by kernel_rfl) (by kernel_rfl) (by decide) (by decide) inv (fun _ _ _ h => h) (Or.inl ⟨by rfl, ?_⟩) HSd.out ?_; rotate_left; (focus (intro W y1; obtain ⟨y1, y2, y3⟩ := y1; go_simp; (first | done | with_reducible rfl))); clear inv; intro inv; simp only [List.getElem_toArray, List.getElem_cons_zero, List.getElem_cons_succ, Act.put, List.setIfInBounds_toArray, List.set_cons_zero, List.set_cons_succ]
          refine wpAnyG_take (i := 2) (v := ?_) rfl (by kernel_rfl) (by kernel_rfl) (by kernel_rfl) (by kernel_rfl) (by kernel_rfl) (by decide) (by decide) inv (fun _ _ _ h => h) (Or.inl ⟨by rfl, ?_⟩) HSd.out ?_; rotate_left; (focus (intro W y1; obtain ⟨y1, y2, y3⟩ := y1; go_simp; (first | done | with_reducible rfl))); clear inv; intro inv; simp only [List.getElem_toArray, List.getElem_cons_zero, List.getElem_cons_succ, Act.put, List.setIfInBounds_toArray, List.set_cons_zero, List.set_cons_succ]
          refine wpAnyG_take (i := 3) (v := ?_) rfl (by kernel_rfl) (by kernel_rfl) (by kernel_rfl) (by kernel_rfl) (by kernel_rfl) (by decide) (by decide) inv (fun _ _ _ h => h) (Or.inl ⟨by rfl, ?_⟩) HSd.out ?_; rotate_left; (focus (intro W y1; obtain ⟨y1, y2, y3⟩ := y1; go_simp; (first | done | with_reducible rfl))); clear inv; intro inv; simp only [List.getElem_toArray, List.getElem_cons_zero, List.getElem_cons_succ, Act.put, List.setIfInBounds_toArray, List.set_cons_zero, List.set_cons_succ]
          refine wpAnyG_take (i := 4) (v := ?_) rfl (by kernel_rfl) (by kernel_rfl) (by kernel_rfl) (by kernel_rfl) (by kernel_rfl) (by decide) (by decide) inv (fun _ _ _ h => h) (Or.inl ⟨by rfl, ?_⟩) HSd.out ?_; rotate_left; (focus (intro W y1; obtain ⟨y1, y2, y3⟩ := y1; go_simp; (first | done | with_reducible rfl))); clear inv; intro inv; simp only [List.getElem_toArray, List.getElem_cons_zero, List.getElem_cons_succ, Act.put, List.setIfInBounds_toArray, List.set_cons_zero, List.set_cons_succ]
          refine wpAnyG_take (i := 6) (v := ?_) rfl (by kernel_rfl) (by kernel_rfl) (by kernel_rfl) (by kernel_rfl) (by kernel_rfl) (by decide) (by decide) inv (fun _ _ _ h => h) (Or.inl ⟨by rfl, ?_⟩) HSd.out ?_; rotate_left; (focus (intro W y1; obtain ⟨y1, y2, y3⟩ := y1; go_simp; (first | done | with_reducible rfl))); clear inv; intro inv; simp only [List.getElem_toArray, List.getElem_cons_zero, List.getElem_cons_succ, Act.put, List.setIfInBounds_toArray, List.set_cons_zero, List.set_cons_succ]
          refine wpAnyG_take (i := 7) (v := ?_) rfl (by kernel_rfl) (by kernel_rfl) (by kernel_rfl) (by kernel_rfl) (by kernel_rfl) (by decide) (by decide) inv (fun _ _ _ h => h) (Or.inl ⟨by rfl, ?_⟩) HSd.out ?_; rotate_left; (focus (intro W y1; obtain ⟨y1, y2, y3⟩ := y1; go_simp; (first | done | with_reducible rfl))); clear inv; intro inv; simp only [List.getElem_toArray, List.getElem_cons_zero, List.getElem_cons_succ, Act.put, List.setIfInBounds_toArray, List.set_cons_zero, List.set_cons_succ]
          refine wpAnyG_take (i := 9) (v := ?_) rfl (by kernel_rfl) (by kernel_rfl) (by kernel_rfl) (by kernel_rfl) (by kernel_rfl) (by decide) (by decide) inv (fun _ _ _ h => h) (Or.inl ⟨by rfl, ?_⟩) HSd.out ?_; rotate_left; (focus (intro W y1; obtain ⟨y1, y2, y3⟩ := y1; go_simp; (first | done | with_reducible rfl))); clear inv; intro inv; simp only [List.getElem_toArray, List.getElem_cons_zero, List.getElem_cons_succ, Act.put, List.setIfInBounds_toArray, List.set_cons_zero, List.set_cons_succ]
          refine wpAnyG_take (i := 10) (v := ?_) rfl (by kernel_rfl) (by kernel_rfl) (by kernel_rfl) (by kernel_rfl) (by kernel_rfl) (by decide) (by decide) inv (fun _ _ _ h => h) (Or.inl ⟨by rfl, ?_⟩) HSd.out ?_; rotate_left; (focus (intro W y1; obtain ⟨y1, y2, y3⟩ := y1; go_simp; (first | done | with_reducible rfl))); clear inv; intro inv; simp only [List.getElem_toArray, List.getElem_cons_zero, List.getElem_cons_succ, Act.put, List.setIfInBounds_toArray, List.set_cons_zero, List.set_cons_succ]
          refine wpAnyG_take (i := 11) (v := ?_) rfl (by kernel_rfl) (by kernel_rfl) (by kernel_rfl) (by kernel_rfl) (by kernel_rfl) (by decide) (by decide) inv (fun _ _ _ h => h) (Or.inl ⟨by rfl, ?_⟩) HSd.out ?_; rotate_left; (focus (intro W y1; obtain ⟨y1, y2, y3⟩ := y1; go_simp; (first | done | with_reducible rfl))); clear inv; intro inv; simp only [List.getElem_toArray, List.getElem_cons_zero, List.getElem_cons_succ, Act.put, List.setIfInBounds_toArray, List.set_cons_zero, List.set_cons_succ]
          refine wpAnyG_take (i := 12) (v := ?_) rfl (by kernel_rfl) (by kernel_rfl) (by kernel_rfl) (by kernel_rfl) (by kernel_rfl) (by decide) (by decide) inv (fun _ _ _ h => h) (Or.inl ⟨by rfl, ?_⟩) HSd.out ?_; rotate_left; (focus (intro W y1; obtain ⟨y1, y2, y3⟩ := y1; go_simp; (first | done | with_reducible rfl))); clear inv; intro inv; simp only [List.getElem_toArray, List.getElem_cons_zero, List.getElem_cons_succ, Act.put, List.setIfInBounds_toArray, List.set_cons_zero, List.set_cons_succ]
          refine wpAnyG_take (i := 13) (v := ?_) rfl (by kernel_rfl) (by kernel_rfl) (by kernel_rfl) (by kernel_rfl) (by kernel_rfl) (by decide) (by decide) inv (fun _ _ _ h => h) (Or.inl ⟨by rfl, ?_⟩) HSd.out ?_; rotate_left; (focus (intro W y1; obtain ⟨y1, y2, y3⟩ := y1; go_simp; (first | done | with_reducible rfl))); clear inv; intro inv; simp only [List.getElem_toArray, List.getElem_cons_zero, List.getElem_cons_succ, Act.put, List.setIfInBounds_toArray, List.set_cons_zero, List.set_cons_succ]
          refine wpAnyG_take (i := 14) (v := ?_) rfl (by kernel_rfl) (by kernel_rfl) (by kernel_rfl) (by kernel_rfl) (by kernel_rfl) (by decide) (by decide) inv (fun _ _ _ h => h) (Or.inl ⟨by rfl, ?_⟩) HSd.out ?_; rotate_left; (focus (intro W y1; obtain ⟨y1, y2, y3⟩ := y1; go_simp; (first | done | with_reducible rfl))); clear inv; intro inv; simp only [List.getElem_toArray, List.getElem_cons_zero, List.getElem_cons_succ, Act.put, List.setIfInBounds_toArray, List.set_cons_zero, List.set_cons_succ]
          refine wpAnyG_take (i := 15) (v := ?_) rfl (by kernel_rfl) (by kernel_rfl) (by kernel_rfl) (by kernel_rfl) (by kernel_rfl) (by decide) (by decide) inv (fun _ _ _ h => h) (Or.inl ⟨by rfl, ?_⟩) HSd.out ?_; rotate_left; (focus (intro W y1; obtain ⟨y1, y2, y3⟩ := y1; go_simp; (first | done | with_reducible rfl))); clear inv; intro inv; simp only [List.getElem_toArray, List.getElem_cons_zero, List.getElem_cons_succ, Act.put, List.setIfInBounds_toArray, List.set_cons_zero, List.set_cons_succ]
          clear inv
          have g1 : wa.cell? ⟨b5, q * 2, none⟩ = some (.int .i64 x1) := ((U5.out).cell _).trans HV1.out
          have gl := U5.out.lt
          refine wpAnyG_one (i := 5) (by kernel_rfl) rfl rfl fun K hK => ?_
          go_simp
          refine hK.out _ _ (fun _ => HSd.out) ?_
          clear hK K
          refine wpAnyG_one (i := 8) (by kernel_rfl) rfl rfl fun K hK => ?_
          go_simp
          refine hK.out _ _ (fun _ => HSd.out) ?_
          clear hK K
          refine wpAnyG_one (i := 16) (by kernel_rfl) rfl rfl fun K hK => ?_
          go_simp
          refine hK.out _ _ (fun _ => HSd.out) ?_
          clear hK K
          refine wpAnyG_one (i := 17) (by kernel_rfl) rfl rfl fun K hK => ?_
          go_simp
          refine hK.out _ _ (fun _ => HSd.out) ?_
          clear hK K
          have f5 := U5.out.frozen (q * 2)
          refine wpAnyG_one (i := 18) (by kernel_rfl) rfl rfl fun K hK => ?_
          go_simp
          have X5 := Lib.hid ((U5.out).set_ (q * 2) (.int .i64 (x1 + p1)))
          have X8 := Lib.hid ((U8.out).far (p := ⟨b5, q * 2, none⟩) (u := .int .i64 (x1 + p1)) (by dsimp only; omega))
          have X0 := Lib.hid ((U0.out).far (p := ⟨b5, q * 2, none⟩) (u := .int .i64 (x1 + p1)) (by dsimp only; have := HN3.out; omega))
          have X4 := Lib.hid ((U4.out).far (p := ⟨b5, q * 2, none⟩) (u := .int .i64 (x1 + p1)) (by dsimp only; have := HN3.out; omega))
          have XB := Lib.hid (ps UB.out (p := ⟨b5, q * 2, none⟩) (u := .int .i64 (x1 + p1)) (by dsimp only; have := HN3.out; omega))
          have HH := Lib.hid (show (V.setIfInBounds (q * 2) (.int .i64 (x1 + p1)))[q * 2 + 1]? = some (.int .i64 x2) from (Array.getElem?_setIfInBounds_ne (by omega)).trans HV2.out)
          refine hK.out _ _ (fun _ => ⟨X8.out.drew.cellAt 0 rfl, X8.out.drew.cellAt 1 rfl, (X5.out.drew.cell _).trans HH.out⟩) ?_
          clear hK K
          clear g1 f5 gl
          generalize (wa.setCell ⟨b5, q * 2, none⟩ (.int .i64 (x1 + p1))) = wz at *
          have g2 : wz.cell? ⟨b5, q * 2 + 1, none⟩ = some (.int .i64 x2) := (X5.out.cell _).trans HH.out
          have f5 := X5.out.frozen (q * 2 + 1)
          have gl := X5.out.lt
          refine wpAnyG_one (i := 19) (by kernel_rfl) rfl rfl fun K hK => ?_
          go_simp
          refine hK.out _ _ (fun h => absurd h (by decide)) ?_
          clear hK K
          refine wpAnyG_one (i := 20) (by kernel_rfl) rfl rfl fun K hK => ?_
          go_simp
          refine hK.out _ _ (fun h => absurd h (by decide)) ?_
          clear hK K
          refine wpAnyG_one (i := 21) (by kernel_rfl) rfl rfl fun K hK => ?_
          go_simp
          refine hK.out _ _ (fun h => absurd h (by decide)) ?_
          clear hK K
          refine wpAnyG_done (by kernel_rfl) ?_
          have Y5 := Lib.hid (X5.out.set_ (q * 2 + 1) (.int .i64 (x2 + p2))).drew
          rw [HMs.out] at Y5
          have Y0 := Lib.hid (X0.out.far (p := ⟨b5, q * 2 + 1, none⟩) (u := .int .i64 (x2 + p2)) (by dsimp only; have := HN3.out; omega)).drew
          have Y4 := Lib.hid (X4.out.far (p := ⟨b5, q * 2 + 1, none⟩) (u := .int .i64 (x2 + p2)) (by dsimp only; have := HN3.out; omega)).drew
          have YB := Lib.hid (pd <| ps XB.out (p := ⟨b5, q * 2 + 1, none⟩) (u := .int .i64 (x2 + p2)) (by dsimp only; have := HN3.out; omega))
          clear g2 f5 gl X5 X8 X0 X4 XB HH HSd U0 U5 U4 U8 UB
          generalize (wz.setCell ⟨b5, q * 2 + 1, none⟩ (.int .i64 (x2 + p2))).drew = wy at *
          go_wp2
          go_roundw
          case rel => exact ⟨q + 1, by go_num, by omega, Y0.out, Y5.out, Y4.out, YB.out⟩
          case measure => simp [intOf]; omega
        · have hq66 : q = 6 := by omega
          subst hq66
          rw [mix_end] at Q5
          go_wp2
          go_roundw
          case rel => exact ⟨k + 1, by go_num, by omega, Q0.out, Q5.out, Q4.out, HQ.out⟩
          case measure => simp [intOf]; omega
    · have hkn : k = n := by omega
      subst hkn
      have r := valsC_size (valsF sl ch k)
      go_wp2_with (first
        | ((with_reducible refine load_blk (T := 58) (x := .tmp 5) Q5.out rfl rfl ?_ ?_ ?_); (focus exact valuesR_size); (focus (first | rfl | (go_simp; done))))
        | ((with_reducible refine store_blk (T := 58) (x := .tmp 4) (y := .tmp 53) (vs := valsC (valsF sl ch k)) Q4.out ?_ ?_ ?_ ?_ ?_ ?_); (focus rfl); (focus exact valuesR_size); (focus (simp [valsC, Value.oneCell']; done)); (focus (first | rfl | (go_simp; done))); (focus (first | rfl | (go_simp; done))); intro WF RF PF))
      clear r
      have r0 := RF.cellAt 0 rfl
      have r1 := RF.cellAt 1 rfl
      have r2 := RF.cellAt 2 rfl
      have r3 := RF.cellAt 3 rfl
      have r4 := RF.cellAt 4 rfl
      have r5 := RF.cellAt 5 rfl
      have r6 := RF.cellAt 6 rfl
      have r7 := RF.cellAt 7 rfl
      have r8 := RF.cellAt 8 rfl
      have r9 := RF.cellAt 9 rfl
      have r10 := RF.cellAt 10 rfl
      have r11 := RF.cellAt 11 rfl
      refine bodyPost_ret (v := .agg (valsC (valsF sl ch k))) (by simp [results, Tryz.results64, go_sem, valsC, r0, r1, r2, r3, r4, r5, r6, r7, r8, r9, r10, r11]) rfl ?_
      exact ⟨rfl, pp HQ.out PF HN3.out.1⟩

end Go.Proofs.YtnfbdkdjoekifaaGreatDoor
end

section
namespace Go.Proofs.YtnfbdkdjoekifaaGreatDoor
open Go.RowKit
attribute [local go_sem high] minI maxI
theorem int_sizeR : (Tryz.prog.info? 3).map (·.size) = some 1 := by kernel_rfl

set_option maxRecDepth 100000 in
set_option maxHeartbeats 8000000 in
theorem refSumOf_any (B : Nat) (ts : List DTerm) (A : Option Addr) (n c : Nat) (v : Int → Int × Int) (w : World) (hr : CellsIn B w A (termsC ts)) (hB : B ≤ w.heap.size) (hn : ts.length = n) (ht : TermsOk ts) (hv : ValsOk v) :
    Calls Tryz.prog 65 #[.slice A n c, valsV v] w fun e w' => e = .returned (rngV (sumT ts v)) ∧ Below w.heap.size w w' := by
  have HR := Lib.hid hr
  have HN := Lib.hid hn
  have HT := Lib.hid ht
  have HV := Lib.hid hv
  have hn8 : n ≤ 8 := by rw [← hn]; exact ht.1
  have HC := Lib.hid (show valsC v = #[.int .i64 (v 0).1, .int .i64 (v 0).2, .int .i64 (v 1).1, .int .i64 (v 1).2, .int .i64 (v 2).1, .int .i64 (v 2).2, .int .i64 (v 3).1, .int .i64 (v 3).2, .int .i64 (v 4).1, .int .i64 (v 4).2, .int .i64 (v 5).1, .int .i64 (v 5).2] from rfl)
  clear hr hn ht hv
  have HS0 := Lib.hid (show Blk (((w.alloc (.cells (valsC v) 58)).alloc (.cells #[.int .i64 0, .int .i64 0] 57)).alloc (.cells #[.int .i64 0, .int .i64 0] 57)) w.heap.size 58 (valsC v) ∧ Blk (((w.alloc (.cells (valsC v) 58)).alloc (.cells #[.int .i64 0, .int .i64 0] 57)).alloc (.cells #[.int .i64 0, .int .i64 0] 57)) (w.heap.size + 1 + 1) 57 #[.int .i64 (sumT (ts.take 0) v).1, .int .i64 (sumT (ts.take 0) v).2] ∧ (∃ cs, Blk (((w.alloc (.cells (valsC v) 58)).alloc (.cells #[.int .i64 0, .int .i64 0] 57)).alloc (.cells #[.int .i64 0, .int .i64 0] 57)) (w.heap.size + 1) 57 cs ∧ cs.size = 2) ∧ Below w.heap.size w (((w.alloc (.cells (valsC v) 58)).alloc (.cells #[.int .i64 0, .int .i64 0] 57)).alloc (.cells #[.int .i64 0, .int .i64 0] 57)) from
    ⟨((Blk.newAt (by simp)).alloc).alloc, Blk.newAt (by simp), ⟨_, (Blk.newAt (by simp)).alloc, rfl⟩, pa (pa (pa pr))⟩)
  unfold valsV rngV
  rw [show valsC v = #[.int .i64 (v 0).1, .int .i64 (v 0).2, .int .i64 (v 1).1, .int .i64 (v 1).2, .int .i64 (v 2).1, .int .i64 (v 2).2, .int .i64 (v 3).1, .int .i64 (v 3).2, .int .i64 (v 4).1, .int .i64 (v 4).2, .int .i64 (v 5).1, .int .i64 (v 5).2] from rfl]
  go_enter Tryz.func65, Tryz.ntmps65
  go_wp2
  rw [← HC.out]
  generalize (((w.alloc (.cells (valsC v) 58)).alloc (.cells #[.int .i64 0, .int .i64 0] 57)).alloc (.cells #[.int .i64 0, .int .i64 0] 57)) = v0 at *
  have HN3 := Lib.hid (show w.heap.size ≤ w.heap.size + 1 ∧ w.heap.size ≤ w.heap.size + 1 + 1 ∧ w.heap.size ≠ w.heap.size + 1 ∧ w.heap.size ≠ w.heap.size + 1 + 1 ∧ w.heap.size + 1 ≠ w.heap.size + 1 + 1 by omega)
  generalize w.heap.size + 1 + 1 = b5 at *
  generalize w.heap.size + 1 = b4 at *
  go_loopw [6] (fun iv wr => ∃ k : Nat, iv = .int .i64 (k : Int) ∧ k ≤ n ∧ Blk wr w.heap.size 58 (valsC v) ∧ Blk wr b5 57 #[.int .i64 (sumT (ts.take k) v).1, .int .i64 (sumT (ts.take k) v).2] ∧ (∃ cs, Blk wr b4 57 cs ∧ cs.size = 2) ∧ Below w.heap.size w wr) (fun iv _ => n - (intOf iv).toNat)
  case atStart => exact ⟨0, rfl, Nat.zero_le _, HS0.out⟩
  case round =>
    clear HS0
    obtain ⟨k, rfl, hk, q1, q2, ⟨cs, q3, hcs⟩, hq⟩ := hrel
    have HQ := Lib.hid hq
    have Q1 := Lib.hid q1
    have Q2 := Lib.hid q2
    have Q3 := Lib.hid q3
    have hbd := sumT_bd HV.out HT.out k (by rw [HN.out]; exact hk)
    by_cases hlt : k < n
    · obtain ⟨b, off, rfl, hb, hct⟩ := terms_at (HR.out.below (HQ.out.mono hB)) (k := k) (by rw [HN.out]; exact hlt)
      obtain ⟨c0, c1⟩ := hct k (by rw [HN.out]; exact hlt)
      have hm := HT.out.2 _ (getD_mem' (show k < ts.length by rw [HN.out]; exact hlt))
      have hst := sumT_snoc (ts.take k) (ts.getD k default) v
      rw [← take_snoc (by rw [HN.out]; exact hlt)] at hst
      have hvq := HV.out (ts.getD k default).q
      have hbw : b < wr.heap.size := Nat.lt_of_lt_of_le (Nat.lt_of_lt_of_le hb hB) HQ.out.size
      unfold stepT at hst
      generalize ts.getD k default = tm at *
      obtain ⟨f, q⟩ := tm
      dsimp only at *
      obtain ⟨qn, rfl⟩ : ∃ qn : Nat, q = (qn : Int) := ⟨q.toNat, by omega⟩
      obtain ⟨e1, e2⟩ := vals_cell v (q := qn) (by omega)
      have g1 := (Q1.out.cell _).trans e1
      have g2 := (Q1.out.cell _).trans e2
      have gl := Q1.out.lt
      generalize (v (qn : Int)).1 = lo at *
      generalize (v (qn : Int)).2 = hi at *
      have p1 := mulf_bd hm.1 hvq.1
      have p2 := mulf_bd hm.1 hvq.2
      generalize hs1 : (sumT (ts.take k) v).1 = s1 at *
      generalize hs2 : (sumT (ts.take k) v).2 = s2 at *
      have k8 : (k : Int) ≤ 8 := by omega
      have k0 : (0 : Int) ≤ (k : Int) := by omega
      have k1 : (k : Int) < (n : Int) := by omega
      have bd1 : -80000000000 ≤ s1 ∧ s1 ≤ 80000000000 := by omega
      have bd2 : -80000000000 ≤ s2 ∧ s2 ≤ 80000000000 := by omega
      have hw1 : wrap64 (f * lo) = f * lo := w64 (by omega)
      have hw2 : wrap64 (f * hi) = f * hi := w64 (by omega)
      have hw3 : wrap64 (s1 + min (f * lo) (f * hi)) = s1 + min (f * lo) (f * hi) := w64 (by omega)
      have hw4 : wrap64 (s2 + max (f * lo) (f * hi)) = s2 + max (f * lo) (f * hi) := w64 (by omega)
      have q60 : (0 : Int) ≤ (qn : Int) := by omega
      have q61 : (qn : Int) < 6 := by omega
      have HSt := Lib.hid hst
      clear hst hct hm hvq hbd p1 p2 bd1 bd2 e1 e2 hs1 hs2 q1 q2 q3
      go_wp2
      refine region_below 29 follows_mixed (by kernel_rfl) ?_
      intro C hC
      simp only [List.take_succ_cons, List.take_zero, List.drop_succ_cons, List.drop_zero]
      repeat (first
        | ((with_reducible refine quiet_plain rfl (fun K hK => ?_)); (focus (apply quiet_val; (focus (intro w' hw; obtain ⟨hcq, hfq⟩ := bcell ((hC.out _).1 hw); go_simp; (first | done | rfl))); (simp only [Act.put, List.setIfInBounds_toArray, List.set_cons_succ, List.set_cons_zero]); (with_reducible refine hK _ ?_); clear hK K)))
        | ((with_reducible refine quiet_skip ?_ ?_); (focus (first | (simp [Region.wanted, yielded]; done) | (simp [Region.wanted, yielded, undef]; done))); simp only [Act.put, List.setIfInBounds_toArray, List.set_cons_succ, List.set_cons_zero])
        | ((with_reducible refine quiet_go ?_ (fun K hK => ?_)); (focus (first | (simp [Region.wanted, yielded]; done) | (simp [Region.wanted, yielded, undef]; done))); (focus (apply quiet_val; (focus (intro w' hw; obtain ⟨hcq, hfq⟩ := bcell ((hC.out _).1 hw); go_simp; (first | done | rfl))); (simp only [Act.put, List.setIfInBounds_toArray, List.set_cons_succ, List.set_cons_zero]); (with_reducible refine hK _ ?_); clear hK K))))
      refine wpQuiet_nil ?_
      intro w1 hb1
      replace hb1 := (hC.out _).1 hb1
      clear hC C
      obtain ⟨hc1, hf1⟩ := bcell hb1
      have P1 := Lib.hid (Q1.out.past hb1)
      have P2 := Lib.hid (Q2.out.past hb1)
      have P3 := Lib.hid (Q3.out.past hb1)
      have PB := Lib.hid (pt HQ.out hb1)
      have d3 := P2.out.cellAt 0 rfl
      have d4 := P2.out.cellAt 1 rfl
      have dl2 := P2.out.lt
      clear c0 c1 g1 g2 gl hb1 hc1 hf1
      go_wp2_with (first
        | ((with_reducible refine store_sub (T := 3) (x := .tmp 55) (y := .tmp 48) (o := 0) (vs := #[.int .i64 (s1 + min (f * lo) (f * hi))]) (cs' := #[.int .i64 (s1 + min (f * lo) (f * hi)), .int .i64 s2]) P2.out ?_ ?_ ?_ ?_ ?_ ?_ ?_); (focus (first | rfl | (go_simp; done))); (focus (first | rfl | (go_simp; done))); (focus rfl); (focus (simp; done)); (focus exact int_sizeR); (focus (simp [Value.oneCell']; done)); intro wa RA' PA')
        | ((with_reducible refine store_sub (T := 3) (x := .tmp 56) (y := .tmp 54) (o := 1) (vs := #[.int .i64 (s2 + max (f * lo) (f * hi))]) (cs' := #[.int .i64 (s1 + min (f * lo) (f * hi)), .int .i64 (s2 + max (f * lo) (f * hi))]) RA' ?_ ?_ ?_ ?_ ?_ ?_ ?_); (focus (first | rfl | (go_simp; done))); (focus (first | rfl | (go_simp; done))); (focus rfl); (focus (simp; done)); (focus exact int_sizeR); (focus (simp [Value.oneCell']; done)); intro WF RF PF))
      go_roundw
      case rel =>
        obtain ⟨n1, n2, n3, n4, n5⟩ := HN3.out
        exact ⟨k + 1, by go_num, by omega, (P1.out.put PA' n4).put PF n4, by rw [HSt.out]; exact RF, ⟨cs, (P3.out.put PA' n5).put PF n5, hcs⟩, pp (pp PB.out PA' n2) PF n2⟩
      case measure => simp [intOf]; omega
    · have hkn : k = n := by omega
      subst hkn
      have ht : ts.take k = ts := List.take_of_length_le (by rw [HN.out]; exact Nat.le_refl _)
      rw [ht] at Q2
      have d1 := Q2.out.cellAt 0 rfl
      have d2 := Q2.out.cellAt 1 rfl
      have dl := Q2.out.lt
      clear q1 q2 q3 hbd ht
      go_wp2_with ((with_reducible refine store_blk (T := 57) (x := .tmp 4) (y := .tmp 57) (vs := #[.int .i64 (sumT ts v).1, .int .i64 (sumT ts v).2]) Q3.out ?_ ?_ ?_ ?_ ?_ ?_); (focus (first | rfl | exact hcs | (simp [hcs]; done))); (focus exact range_size); (focus (simp [Value.oneCell']; done)); (focus (first | rfl | (go_simp; done))); (focus (first | rfl | (go_simp; done))); intro WF RF PF)
      have r0 := RF.cellAt 0 rfl
      have r1 := RF.cellAt 1 rfl
      refine bodyPost_ret (v := .agg #[.int .i64 (sumT ts v).1, .int .i64 (sumT ts v).2]) (by simp [results, Tryz.results65, go_sem, r0, r1]) rfl ?_
      exact ⟨rfl, pp HQ.out PF HN3.out.1⟩

end Go.Proofs.YtnfbdkdjoekifaaGreatDoor
end

section
namespace Go.Proofs.YtnfbdkdjoekifaaGreatDoor
open Go.RowKit

set_option maxRecDepth 100000 in
theorem rng_eqlIn (d : Nat) (x y : Int) (W : World) : (Op.equalIn (d + 2) 57 (.agg #[.int .i64 x, .int .i64 y]) (.agg #[.int .i64 x, .int .i64 y])).run Tryz.prog W = .ok true W := by
  have hu : Tryz.prog.underlying 3 = some (.int .i64) := by kernel_rfl
  have e1 : ∀ (x : Int) (W : World), (Op.equalIn (d + 1) 3 (.int .i64 x) (.int .i64 x)).run Tryz.prog W = .ok true W := fun x W => by
    simp [Op.equalIn, run_underlying hu]
  rw [show d + 2 = (d + 1) + 1 from rfl, run_equalIn_agg W (d + 1) 57 _ _ (by kernel_rfl) (by kernel_rfl)]
  go_simp
set_option maxRecDepth 100000 in
theorem vals_eqlIn (x0 x1 x2 x3 x4 x5 x6 x7 x8 x9 x10 x11 : Int) (W : World) : (Op.equalIn 10000 58 (.agg #[.int .i64 x0, .int .i64 x1, .int .i64 x2, .int .i64 x3, .int .i64 x4, .int .i64 x5, .int .i64 x6, .int .i64 x7, .int .i64 x8, .int .i64 x9, .int .i64 x10, .int .i64 x11]) (.agg #[.int .i64 x0, .int .i64 x1, .int .i64 x2, .int .i64 x3, .int .i64 x4, .int .i64 x5, .int .i64 x6, .int .i64 x7, .int .i64 x8, .int .i64 x9, .int .i64 x10, .int .i64 x11])).run Tryz.prog W = .ok true W := by
  have h1 : Tryz.prog.underlying 58 = some (.array 6 57) := by kernel_rfl
  obtain ⟨d2, h2, h2'⟩ : ∃ d, Tryz.prog.underlying 57 = some d ∧ d.isRow = true := ⟨_, Tryz.underlying57, rfl⟩
  obtain ⟨i, hi⟩ : ∃ i, Tryz.prog.info? 57 = some i := Option.isSome_iff_exists.1 (by kernel_rfl)
  have hc : Tryz.prog.cellsOf 57 = 2 := by kernel_rfl
  have h := run_equalIn_array (P := Tryz.prog) W 9999 #[.int .i64 x0, .int .i64 x1, .int .i64 x2, .int .i64 x3, .int .i64 x4, .int .i64 x5, .int .i64 x6, .int .i64 x7, .int .i64 x8, .int .i64 x9, .int .i64 x10, .int .i64 x11] #[.int .i64 x0, .int .i64 x1, .int .i64 x2, .int .i64 x3, .int .i64 x4, .int .i64 x5, .int .i64 x6, .int .i64 x7, .int .i64 x8, .int .i64 x9, .int .i64 x10, .int .i64 x11] h1 hi
  rw [hc, show List.range 6 = [0, 1, 2, 3, 4, 5] from rfl] at h
  refine h.trans ?_
  have q : ∀ (k : Nat) (a b : Int), List.take 2 (List.drop k ([.int .i64 x0, .int .i64 x1, .int .i64 x2, .int .i64 x3, .int .i64 x4, .int .i64 x5, .int .i64 x6, .int .i64 x7, .int .i64 x8, .int .i64 x9, .int .i64 x10, .int .i64 x11] : List Value)) = [.int .i64 a, .int .i64 b] → ∀ W, (part 57 #[.int .i64 x0, .int .i64 x1, .int .i64 x2, .int .i64 x3, .int .i64 x4, .int .i64 x5, .int .i64 x6, .int .i64 x7, .int .i64 x8, .int .i64 x9, .int .i64 x10, .int .i64 x11] k).run Tryz.prog W = .ok (.agg #[.int .i64 a, .int .i64 b]) W := fun k a b he W => by
    simp [part, he]
  have q0 := q 0 x0 x1 rfl
  have q1 := q 2 x2 x3 rfl
  have q2 := q 4 x4 x5 rfl
  have q3 := q 6 x6 x7 rfl
  have q4 := q 8 x8 x9 rfl
  have q5 := q 10 x10 x11 rfl
  have e3 := fun y1 y2 W => rng_eqlIn 9997 y1 y2 W
  simp only [show 9997 + 2 = 9999 from rfl] at e3
  simp [Op.eqItems, q0, q1, q2, q3, q4, q5, e3]

end Go.Proofs.YtnfbdkdjoekifaaGreatDoor
end
