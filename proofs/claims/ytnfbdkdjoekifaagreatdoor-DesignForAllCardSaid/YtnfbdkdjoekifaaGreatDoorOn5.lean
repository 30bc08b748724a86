/- A law for a region that draws its order, whose head only reads or calls functions that leave old memory alone, and beside which a new variable is allocated at whatever moment: the head is walked once, in the order of the text. No condition.
Contract: ValuesOf (the specification of chapter 2). Printed by a program (gen_d8val.py).
Contract: sumOf (the specification of chapter 2). Printed by a program (gen_d8sum.py).
Two equal values of [6]Range: the comparison says true. -/
import Derived.Test.YtnfbdkdjoekifaaGreatDoorOa6
import Derived.Test.YtnfbdkdjoekifaaGreatDoorOn2
import Derived.Test.YtnfbdkdjoekifaaGreatDoorOb5
import Derived.Test.YtnfbdkdjoekifaaGreatDoorOb2
import Derived.Test.YtnfbdkdjoekifaaGreatDoorOb3
import Derived.DeepKeys

section
namespace Go.Proofs.YtnfbdkdjoekifaaGreatDoor
open Go.RowKit

section
variable {P : Program} {ops : Array Oper} {md : Region.Mode} {W : World}

/-- In every world that has grown out of W the operation yields v, and the world grows. -/
def GrowsIn (P : Program) (ops : Array Oper) (W : World) (o : Oper) (v : Value) (a : Act) : Prop :=
  (Region.wanted o (yielded ops a.tmps) = true ∧ ∀ w, Below W.heap.size W w → o.quietAt P a (fun w' => Below w.heap.size w w') w v) ∨
  (Region.wanted o (yielded ops a.tmps) = false ∧ v = undef)
theorem GrowsIn.of_same {o : Oper} {v : Value} {a a' : Act} (hy : GrowsIn P ops W o v a) (he : execOp a'.eval o = execOp a.eval o)
    (hw : Region.wanted o (yielded ops a'.tmps) = Region.wanted o (yielded ops a.tmps)) : GrowsIn P ops W o v a' := by
  unfold GrowsIn Oper.quietAt at *
  rw [he, hw]
  exact hy

def gOp (P : Program) (ops : Array Oper) (W : World) (i : Nat) (K : Act → Prop) (a : Act) : Prop := ∃ o v, ops[i]? = some o ∧ GrowsIn P ops W o v a ∧ K (a.put o.dst v)
theorem gOp_mono {i : Nat} {a : Act} {K K' : Act → Prop} (h : ∀ a, K a → K' a) (hh : gOp P ops W i K a) : gOp P ops W i K' a :=
  let ⟨o, v, h1, h2, h3⟩ := hh
  ⟨o, v, h1, h2, h _ h3⟩
theorem gOp_put {j : Nat} {oi oj : Oper} {v : Value} (hj : ops[j]? = some oj) (hap : oi.apart ops oj = true)
    (hsi : ∀ cs b, oi.op ≠ .select cs b) (hsj : ∀ cs b, oj.op ≠ .select cs b) {K : Act → Prop} {a : Act}
    (hy : GrowsIn P ops W oi v a) (h : gOp P ops W j K (a.put oi.dst v)) : gOp P ops W j (fun a' => GrowsIn P ops W oi v a' ∧ K (a'.put oi.dst v)) a := by
  obtain ⟨h1, h2, h3⟩ := Oper.apart_spec hap
  obtain ⟨o, u, ho, hu, hn⟩ := h
  obtain rfl : oj = o := Option.some.inj (hj.symm.trans ho)
  refine ⟨oj, u, ho, hu.of_same (execOp_put oj hsj a oi.dst v h1).symm (wanted_put oj a oi.dst v h1).symm, hy.of_same (execOp_put oi hsi a oj.dst u h3) (wanted_put oi a oj.dst u h3), ?_⟩
  rw [← Act.put_comm a v u h2]; exact hn

/-- The operations that wait for all of the first n + 1, and for one another. -/
def tailB (md : Region.Mode) (ops : Array Oper) (n : Nat) : Bool :=
  ((List.range (n + 1)).all fun i => Region.waitsFor md ops (n + 1) i) && ((List.range ops.size).all fun t => decide (t ≤ n + 1) || Region.waitsFor md ops t (t - 1))
structure TailInv (ops : Array Oper) (n : Nat) (listed : Array Bool) : Prop where
  size : listed.size = ops.size
  tail : ∀ t, n + 1 ≤ t → t < ops.size → listed.getD t true = false
theorem TailInv.set {n i : Nat} {listed : Array Bool} (inv : TailInv ops n listed) (hin : i ≤ n) : TailInv ops n (listed.setIfInBounds i true) :=
  ⟨by simp [inv.size], fun t ht ht' => by rw [getD_set_ne true (by omega)]; exact inv.tail t ht ht'⟩
theorem tail_waitsA {n : Nat} {listed : Array Bool} (hs : tailB md ops n = true) (inv : TailInv ops n listed) {i : Nat} (hi : i ≤ n) (hun : listed.getD i true = false) : ∀ t ∈ Region.ready md ops listed, t ≤ n := by
  intro t ht
  rcases Nat.lt_or_ge n t with hlt | h
  · exfalso
    simp only [tailB, Bool.and_eq_true] at hs
    obtain ⟨_, ot, hot, hall⟩ := mem_ready.1 ht
    have htl : t < ops.size := (Array.getElem?_eq_some_iff.1 hot).1
    by_cases htn : t = n + 1
    · subst htn
      have h1 := List.all_eq_true.1 hs.1 i (List.mem_range.2 (by omega))
      obtain ⟨o', ho', e, he, hb, hon⟩ := Region.waitsFor_spec h1
      obtain rfl : o' = ot := Option.some.inj (ho'.symm.trans hot)
      have h2 := hall e he hb
      rw [hon, getD_both hun] at h2
      cases h2
    · have h1 := List.all_eq_true.1 hs.2 t (List.mem_range.2 htl)
      simp only [Bool.or_eq_true, decide_eq_true_eq] at h1
      rcases h1 with h1 | h1
      · omega
      · obtain ⟨o', ho', e, he, hb, hon⟩ := Region.waitsFor_spec h1
        obtain rfl : o' = ot := Option.some.inj (ho'.symm.trans hot)
        have h2 := hall e he hb
        rw [hon, getD_both (inv.tail (t - 1) (by omega) (by omega))] at h2
        cases h2
  · exact h

/-- f operations of the head come up, in whatever order; then L. (Number n is listed already.) -/
def headG (P : Program) (md : Region.Mode) (ops : Array Oper) (W : World) (n : Nat) (L : Array Bool → Act → Prop) : Nat → Array Bool → Act → Prop
  | 0, listed, a => L listed a
  | f + 1, listed, a => Region.ready md ops listed ≠ [] ∧ ∀ i ∈ Region.ready md ops listed, i < n ∧ gOp P ops W i (headG P md ops W n L f (listed.setIfInBounds i true)) a

theorem headG_first {n i : Nat} {oi : Oper} {v : Value} {L : Array Bool → Act → Prop} (hi : ops[i]? = some oi) (hsel : ∀ (j : Nat) (o : Oper) cs b, ops[j]? = some o → o.op ≠ .select cs b)
    (hs : tailB md ops n = true) (hin : i < n) (hdone : ∀ listed a, L listed a → ∀ j ∈ Region.ready md ops listed, n < j) :
    ∀ (f : Nat) (listed : Array Bool) (a : Act), TailInv ops n listed → listed.getD n true = true →
      (∀ j oj, ops[j]? = some oj → j ≠ i → listed.getD j true = false → (∀ e ∈ oj.after, Region.binds md e = true → e.on ≠ i) → oi.apart ops oj = true) →
      i ∈ Region.ready md ops listed → GrowsIn P ops W oi v a →
      headG P md ops W n L f (listed.setIfInBounds i true) (a.put oi.dst v) → headG P md ops W n L (f + 1) listed a := by
  intro f
  induction f with
  | zero =>
    intro listed a inv hnl _ hr hy H
    have hun := (mem_ready.1 hr).1
    refine ⟨fun h => (by rw [h] at hr; cases hr), fun j hj => ?_⟩
    have hjn : j ≤ n := tail_waitsA hs inv (by omega) hun j hj
    have hjn2 : j ≠ n := fun e => by subst e; rw [(mem_ready.1 hj).1] at hnl; cases hnl
    refine ⟨by omega, ?_⟩
    by_cases hji : j = i
    · subst hji; exact ⟨oi, v, hi, hy, H⟩
    · have := hdone _ _ H j (ready_mono hj hji)
      omega
  | succ f ih =>
    intro listed a inv hnl hfree hr hy H
    have hun := (mem_ready.1 hr).1
    refine ⟨fun h => (by rw [h] at hr; cases hr), fun j hj => ?_⟩
    have hjn : j ≤ n := tail_waitsA hs inv (by omega) hun j hj
    have hjn2 : j ≠ n := fun e => by subst e; rw [(mem_ready.1 hj).1] at hnl; cases hnl
    refine ⟨by omega, ?_⟩
    by_cases hji : j = i
    · subst hji; exact ⟨oi, v, hi, hy, H⟩
    · have h1 := (H.2 j (ready_mono hj hji)).2
      obtain ⟨hjun, oj, hoj, hall⟩ := mem_ready.1 hj
      have hnot : ∀ e ∈ oj.after, Region.binds md e = true → e.on ≠ i := fun e he hb heq => by
        have h2 := hall e he hb
        rw [heq, getD_both hun] at h2
        cases h2
      have h2 := gOp_put hoj (hfree j oj hoj hji hjun hnot) (fun cs b => hsel i oi cs b hi) (fun cs b => hsel j oj cs b hoj) hy h1
      refine gOp_mono (fun a' h3 => ih (listed.setIfInBounds j true) a' (inv.set hjn) (by rw [getD_set_ne true hjn2]; exact hnl) (fun k ok hk hki hu hno => hfree k ok hk hki ?_ hno) (ready_mono hr (Ne.symm hji)) h3.1 ?_) h2
      · by_cases hjk : j = k
        · subst hjk; exact hjun
        · rw [getD_set_ne true hjk] at hu; exact hu
      · rw [Array.setIfInBounds_comm _ _ hji]
        exact h3.2

/-- The head in the order of the text. -/
def wpGrow (P : Program) (ops : Array Oper) (W : World) (Q : Act → Prop) : List Oper → Act → Prop
  | [], a => Q a
  | o :: rest, a => ∃ v, GrowsIn P ops W o v a ∧ wpGrow P ops W Q rest (a.put o.dst v)

def lexHeadA (md : Region.Mode) (ops : Array Oper) (g n : Nat) : Nat → Nat → Array Bool → Bool
  | 0, _, listed => Region.seqB md ops g (n + 1) listed
  | f + 1, k, listed => (Region.ready md ops listed).contains k && Region.free md ops listed k && lexHeadA md ops g n f (k + 1) (listed.setIfInBounds k true)

theorem headG_lex {n g : Nat} {Lq : Act → Prop} (hsel : Region.noSelect ops = true) (hs : tailB md ops n = true) :
    ∀ (l : List Oper) (k : Nat) (listed : Array Bool) (a : Act), (∀ j, j < l.length → l[j]? = ops[k + j]?) → k + l.length = n → TailInv ops n listed → listed.getD n true = true →
    lexHeadA md ops g n l.length k listed = true → wpGrow P ops W Lq l a →
    headG P md ops W n (fun listed' a' => Region.seqB md ops g (n + 1) listed' = true ∧ Lq a') l.length listed a
  | [], k, listed, a, _, hk, _, _, hB, h => ⟨by simpa [lexHeadA] using hB, h⟩
  | o :: l, k, listed, a, hl, hk, inv, hnl, hB, h => by
    have h0 : ops[k]? = some o := by simpa using (hl 0 (by simp)).symm
    simp only [List.length_cons, lexHeadA, Bool.and_eq_true] at hB
    obtain ⟨⟨hr, hf⟩, hB'⟩ := hB
    have hkn : k < n := by simp only [List.length_cons] at hk; omega
    have hr' : k ∈ Region.ready md ops listed := by simpa using hr
    obtain ⟨v, hy, hK⟩ := h
    exact headG_first h0 (Region.noSelect_spec hsel) hs hkn (fun listed' a' hL j hj => by have := seqB_ready hL.1 j hj; omega) l.length listed a inv hnl (Region.free_spec h0 hf) hr' hy
      (headG_lex hsel hs l (k + 1) _ _ (fun j hj => by have := hl (j + 1) (by simp; omega); simpa [Nat.add_assoc, Nat.add_comm 1 j] using this) (by simp only [List.length_cons] at hk; omega) (inv.set (by omega)) (by rw [getD_set_ne true (by omega)]; exact hnl) hB' hK)

theorem wpOp_of_grows {i : Nat} {o : Oper} {v : Value} {a : Act} {w : World} {K : Act → World → Prop} {Q : Exit → Act → World → Prop} (hi : ops[i]? = some o) (hw : Below W.heap.size W w) (hy : GrowsIn P ops W o v a)
    (h : ∀ w', Below w.heap.size w w' → K (a.put o.dst v) w') : wpOp P ops Q i K a w := by
  unfold wpOp
  simp only [hi]
  rcases hy with ⟨h1, h2⟩ | ⟨h1, rfl⟩
  · rw [if_pos h1]
    have h3 := h2 w hw
    refine .inl ?_
    unfold Oper.quietAt at h3
    unfold Oper.wp
    generalize (execOp a.eval o).run P w = r at *
    cases r with
    | ok n w' =>
      cases n <;> simp only [Oper.quietUpon] at h3 <;> simp only [Oper.upon]
      case value u =>
        obtain ⟨e1, e2⟩ := h3
        rw [e1, e2]
        exact h _ (Below.refl _ _)
      case skip =>
        obtain ⟨e1, e2⟩ := h3
        rw [e1, ← e2]
        exact h _ (Below.refl _ _)
      case enter f args =>
        obtain ⟨e1, hc⟩ := h3
        rw [e1]
        exact hc.mono fun e w'' ⟨he, hw''⟩ => by subst he; exact h _ hw''
    | halt x w' => simp only [Oper.quietUpon] at h3
  · rw [if_neg (by rw [h1]; exact Bool.false_ne_true)]
    exact h _ (Below.refl _ _)

theorem below_step {W w w' : World} (h : Below W.heap.size W w) (h2 : Below w.heap.size w w') : Below W.heap.size W w' := h.trans (h2.mono h.size)

/-- The variable is there already: what is left of the head; then the tail. -/
theorem any_of_headG {n g : Nat} {L : Array Bool → Act → Prop} {Q : Exit → Act → World → Prop} {al : Oper} {p : Value} (hsel : Region.noSelect ops = true)
    (hap : ∀ i o, i < n → ops[i]? = some o → al.apart ops o = true) {w0 : World} (hw0 : Below W.heap.size W w0)
    (hL : ∀ listed a w, Below w0.heap.size w0 w → L listed a → wpAny P md ops Q g listed (a.put al.dst p) w) :
    ∀ (f : Nat) (listed : Array Bool) (a : Act) (w : World), Below w0.heap.size w0 w → headG P md ops W n L f listed a → wpAny P md ops Q (f + g) listed (a.put al.dst p) w
  | 0, listed, a, w, hw, h => by rw [Nat.zero_add]; exact hL _ _ _ hw h
  | f + 1, listed, a, w, hw, h => by
    rw [show f + 1 + g = (f + g) + 1 by omega]
    refine ⟨fun h0 => absurd h0 h.1, fun i hi => ?_⟩
    obtain ⟨hin, o, v, ho, hy, hK⟩ := h.2 i hi
    obtain ⟨h1, h2, h3⟩ := Oper.apart_spec (hap i o hin ho)
    have hso : ∀ cs b, o.op ≠ .select cs b := fun cs b => Region.noSelect_spec hsel i o cs b ho
    refine wpOp_of_grows ho (below_step hw0 hw) (hy.of_same (execOp_put o hso a al.dst p h1) (wanted_put o a al.dst p h1)) fun w' hw' => ?_
    rw [Act.put_comm a p v h2]
    exact any_of_headG hsel hap hw0 hL f _ _ w' (below_step hw hw') hK

/-- The variable is not there yet. -/
theorem any_of_headA {n g : Nat} {L : Array Bool → Act → Prop} {Q : Exit → Act → World → Prop} {al : Oper} {zc : Obj} (hsel : Region.noSelect ops = true) (hs : tailB md ops n = true)
    (hal : ops[n]? = some al) (hgd : al.guard = none) (haf : al.after.all (fun e => !Region.binds md e) = true)
    (hex : ∀ (ev : Operand → Value) (w : World), (execOp ev al).run P w = .ok (.value (.pointer (some ⟨w.heap.size, 0, none⟩))) (w.alloc zc))
    (hap : ∀ i o, i < n → ops[i]? = some o → al.apart ops o = true)
    (hdone : ∀ listed a, L listed a → ∀ j ∈ Region.ready md ops listed, n < j)
    (hL : ∀ (w0 : World) listed a w, Below W.heap.size W w0 → Below (w0.alloc zc).heap.size (w0.alloc zc) w → L listed a → wpAny P md ops Q g listed (a.put al.dst (.pointer (some ⟨w0.heap.size, 0, none⟩))) w) :
    ∀ (f : Nat) (listed : Array Bool) (a : Act) (w : World), Below W.heap.size W w → TailInv ops n listed → listed.getD n true = false → headG P md ops W n L f (listed.setIfInBounds n true) a →
      wpAny P md ops Q (f + 1 + g) listed a w := by
  intro f
  induction f with
  | zero =>
    intro listed a w hw inv hun H
    have hrn : n ∈ Region.ready md ops listed := mem_ready.2 ⟨hun, al, hal, fun e he hb => by
      have := (Array.all_eq_true_iff_forall_mem.1 haf) e he
      simp [hb] at this⟩
    rw [show 0 + 1 + g = g + 1 by omega]
    refine ⟨fun h => (by rw [h] at hrn; cases hrn), fun i hi => ?_⟩
    have hin : i ≤ n := tail_waitsA hs inv (Nat.le_refl _) hun i hi
    by_cases hne : i = n
    · subst hne
      unfold wpOp
      simp only [hal]
      rw [if_pos (by simp [Region.wanted, hgd])]
      refine .inl ?_
      unfold Oper.wp
      rw [hex]
      exact hL w _ _ _ hw (Below.refl _ _) H
    · have := hdone _ _ H i (ready_mono hi hne)
      omega
  | succ f ih =>
    intro listed a w hw inv hun H
    have hrn : n ∈ Region.ready md ops listed := mem_ready.2 ⟨hun, al, hal, fun e he hb => by
      have := (Array.all_eq_true_iff_forall_mem.1 haf) e he
      simp [hb] at this⟩
    rw [show f + 1 + 1 + g = (f + 1 + g) + 1 by omega]
    refine ⟨fun h => (by rw [h] at hrn; cases hrn), fun i hi => ?_⟩
    have hin : i ≤ n := tail_waitsA hs inv (Nat.le_refl _) hun i hi
    by_cases hne : i = n
    · subst hne
      unfold wpOp
      simp only [hal]
      rw [if_pos (by simp [Region.wanted, hgd])]
      refine .inl ?_
      unfold Oper.wp
      rw [hex]
      show wpAny P md ops Q (f + 1 + g) _ _ _
      exact any_of_headG hsel hap (w0 := w.alloc zc) (hw.alloc hw.size _) (fun listed' a' w' hw' hl => hL w listed' a' w' hw hw' hl) (f + 1) _ a _ (Below.refl _ _) H
    · obtain ⟨_, o, v, ho, hy, hK⟩ := H.2 i (ready_mono hi hne)
      refine wpOp_of_grows ho hw hy fun w' hw' => ?_
      refine ih _ _ w' (below_step hw hw') (inv.set hin) (by rw [getD_set_ne true hne]; exact hun) ?_
      rw [Array.setIfInBounds_comm _ _ hne]
      exact hK

/-- What is asked of the region, as one Bool. -/
def allocB (md : Region.Mode) (ops : Array Oper) (n : Nat) : Bool :=
  Region.noSelect ops && decide (n + 1 < ops.size) && tailB md ops n && lexHeadA md ops (ops.size - (n + 1)) n n 0 ((Array.replicate ops.size false).setIfInBounds n true) &&
  (match ops[n]? with
   | some al => al.guard.isNone && al.after.all (fun e => !Region.binds md e) && (List.range n).all fun i => ((ops[i]?).map fun o => al.apart ops o).getD true
   | none => false)

theorem region_alloc {id : Nat} {Q : Exit → Act → World → Prop} {a : Act} {w : World} {l : List Oper} {dst : Option Tmp} {T ty : TypeId} {pos : String} {af : Array Edge} {zc : Obj} (n : Nat) (hm : P.follows .mixedOrders = true) (hB : allocB .any l.toArray n = true)
    (hal : l[n]? = some { dst := dst, op := .alloc T, type := ty, pos := pos, after := af, guard := none })
    (hex : ∀ (ev : Operand → Value) (w : World), (execOp ev { dst := dst, op := .alloc T, type := ty, pos := pos, after := af, guard := none }).run P w = .ok (.value (.pointer (some ⟨w.heap.size, 0, none⟩))) (w.alloc zc))
    (h : wpGrow P l.toArray w (fun a' => ∀ v w', Below w.heap.size w v → Below (v.alloc zc).heap.size (v.alloc zc) w' → wpList P l.toArray Q (l.drop (n + 1)) (a'.put dst (.pointer (some ⟨v.heap.size, 0, none⟩))) w') (l.take n) a) : (Code.region id l.toArray true).wp P Q a w := by
  simp only [allocB, Bool.and_eq_true, decide_eq_true_eq] at hB
  obtain ⟨⟨⟨⟨hsel, hn⟩, hs⟩, hlex⟩, hrest⟩ := hB
  have hn' : n + 1 < l.length := by simpa using hn
  have htl : (l.take n).length = n := by simp; omega
  have hdl : (l.drop (n + 1)).length = l.toArray.size - (n + 1) := by simp
  have hal' : l.toArray[n]? = some { dst := dst, op := .alloc T, type := ty, pos := pos, after := af, guard := none } := by simpa using hal
  rw [hal'] at hrest
  simp only [Option.isNone_none, Bool.true_and, Bool.and_eq_true] at hrest
  obtain ⟨haf, hap⟩ := hrest
  have inv0 : TailInv l.toArray n (Array.replicate l.toArray.size false) := ⟨by simp, fun t _ ht => getD_in (by simpa using ht) (getD_replicate_false _ _)⟩
  have hun0 : (Array.replicate l.toArray.size false).getD n true = false := getD_in (by simp; omega) (getD_replicate_false _ _)
  have hset : ((Array.replicate l.toArray.size false).setIfInBounds n true).getD n true = true := by
    simp
  have H := headG_lex (md := .any) (g := l.toArray.size - (n + 1)) hsel hs (l.take n) 0 _ a (fun j hj => by
    have hj' : j < n := by rw [htl] at hj; exact hj
    simp [hj']) (by simpa using htl) (inv0.set (Nat.le_refl _)) hset (by rw [htl]; exact hlex) h
  refine wp_region_any hm ?_
  have H2 := any_of_headA (md := .any) (g := l.toArray.size - (n + 1)) (Q := Q) hsel hs hal' rfl haf hex
    (fun i o hi ho => by
      have := List.all_eq_true.1 hap i (List.mem_range.2 hi)
      rw [ho] at this
      simpa using this)
    (fun listed' a' hL j hj => by have := seqB_ready hL.1 j hj; omega)
    (fun w0 listed' a' w' hw0 hw' hL => by
      have := wpAny_of_seq (md := .any) (Q' := Q) (l.drop (n + 1)) (n + 1) listed' _ w' (fun j => by simp [List.getElem?_drop]) (by rw [hdl]; exact hL.1) (hL.2 w0 w' hw0 hw')
      rwa [hdl] at this) _ _ a w.drew (Below.refl _ _).drew inv0 hun0 H
  rw [htl, show n + 1 + (l.toArray.size - (n + 1)) = l.toArray.size by omega] at H2
  exact H2

/-! One operation of the head. -/
section
variable {Q : Act → Prop} {a : Act} {o : Oper} {rest : List Oper}
theorem grow_nil (h : Q a) : wpGrow P ops W Q [] a := h
theorem grow_plain (v : Value) (hg : o.guard = none) (h : ∀ w, Below W.heap.size W w → o.quietAt P a (fun w' => Below w.heap.size w w') w v) (hK : wpGrow P ops W Q rest (a.put o.dst v)) : wpGrow P ops W Q (o :: rest) a :=
  ⟨v, .inl ⟨by simp [Region.wanted, hg], h⟩, hK⟩
theorem grow_go (v : Value) (hw : Region.wanted o (yielded ops a.tmps) = true) (h : ∀ w, Below W.heap.size W w → o.quietAt P a (fun w' => Below w.heap.size w w') w v) (hK : wpGrow P ops W Q rest (a.put o.dst v)) : wpGrow P ops W Q (o :: rest) a :=
  ⟨v, .inl ⟨hw, h⟩, hK⟩
theorem grow_skip (hw : Region.wanted o (yielded ops a.tmps) = false) (hK : wpGrow P ops W Q rest (a.put o.dst undef)) : wpGrow P ops W Q (o :: rest) a :=
  ⟨undef, .inr ⟨hw, rfl⟩, hK⟩
end
end

end Go.Proofs.YtnfbdkdjoekifaaGreatDoor
end

section
namespace Go.Proofs.YtnfbdkdjoekifaaGreatDoor
open Go.RowKit
end Go.Proofs.YtnfbdkdjoekifaaGreatDoor
end

section
namespace Go.Proofs.YtnfbdkdjoekifaaGreatDoor
open Go.RowKit
attribute [local go_sem high] minI maxI
end Go.Proofs.YtnfbdkdjoekifaaGreatDoor
end

section
namespace Go.Proofs.YtnfbdkdjoekifaaGreatDoor
open Go.RowKit

set_option maxRecDepth 100000 in
theorem rng_eqlIn (d : Nat) (x y : Int) (W : World) : (Op.equalIn (d + 2) 57 (.agg #[.int .i64 x, .int .i64 y]) (.agg #[.int .i64 x, .int .i64 y])).run Tryz.prog W = .ok true W := by
  have hu : Tryz.prog.underlying 3 = some (.int .i64) := by kernel_rfl
  have e1 : ∀ (x : Int) (W : World), (Op.equalIn (d + 1) 3 (.int .i64 x) (.int .i64 x)).run Tryz.prog W = .ok true W := fun x W => by
    simp [Op.equalIn, run_underlying hu]
  rw [show d + 2 = (d + 1) + 1 from rfl, run_equalIn_agg W (d + 1) 57 _ _ (by kernel_rfl) (by kernel_rfl)]
  go_simp
set_option maxRecDepth 100000 in
theorem vals_eqlIn (x0 x1 x2 x3 x4 x5 x6 x7 x8 x9 x10 x11 : Int) (W : World) : (Op.equalIn 10000 58 (.agg #[.int .i64 x0, .int .i64 x1, .int .i64 x2, .int .i64 x3, .int .i64 x4, .int .i64 x5, .int .i64 x6, .int .i64 x7, .int .i64 x8, .int .i64 x9, .int .i64 x10, .int .i64 x11]) (.agg #[.int .i64 x0, .int .i64 x1, .int .i64 x2, .int .i64 x3, .int .i64 x4, .int .i64 x5, .int .i64 x6, .int .i64 x7, .int .i64 x8, .int .i64 x9, .int .i64 x10, .int .i64 x11])).run Tryz.prog W = .ok true W := by
  have h1 : Tryz.prog.underlying 58 = some (.array 6 57) := by kernel_rfl
  obtain ⟨d2, h2, h2'⟩ : ∃ d, Tryz.prog.underlying 57 = some d ∧ d.isRow = true := ⟨_, Tryz.underlying57, rfl⟩
  obtain ⟨i, hi⟩ : ∃ i, Tryz.prog.info? 57 = some i := Option.isSome_iff_exists.1 (by kernel_rfl)
  have hc : Tryz.prog.cellsOf 57 = 2 := by kernel_rfl
  have h := run_equalIn_array (P := Tryz.prog) W 9999 #[.int .i64 x0, .int .i64 x1, .int .i64 x2, .int .i64 x3, .int .i64 x4, .int .i64 x5, .int .i64 x6, .int .i64 x7, .int .i64 x8, .int .i64 x9, .int .i64 x10, .int .i64 x11] #[.int .i64 x0, .int .i64 x1, .int .i64 x2, .int .i64 x3, .int .i64 x4, .int .i64 x5, .int .i64 x6, .int .i64 x7, .int .i64 x8, .int .i64 x9, .int .i64 x10, .int .i64 x11] h1 hi
  rw [hc, show List.range 6 = [0, 1, 2, 3, 4, 5] from rfl] at h
  refine h.trans ?_
  have q : ∀ (k : Nat) (a b : Int), List.take 2 (List.drop k ([.int .i64 x0, .int .i64 x1, .int .i64 x2, .int .i64 x3, .int .i64 x4, .int .i64 x5, .int .i64 x6, .int .i64 x7, .int .i64 x8, .int .i64 x9, .int .i64 x10, .int .i64 x11] : List Value)) = [.int .i64 a, .int .i64 b] → ∀ W, (part 57 #[.int .i64 x0, .int .i64 x1, .int .i64 x2, .int .i64 x3, .int .i64 x4, .int .i64 x5, .int .i64 x6, .int .i64 x7, .int .i64 x8, .int .i64 x9, .int .i64 x10, .int .i64 x11] k).run Tryz.prog W = .ok (.agg #[.int .i64 a, .int .i64 b]) W := fun k a b he W => by
    simp [part, he]
  have q0 := q 0 x0 x1 rfl
  have q1 := q 2 x2 x3 rfl
  have q2 := q 4 x4 x5 rfl
  have q3 := q 6 x6 x7 rfl
  have q4 := q 8 x8 x9 rfl
  have q5 := q 10 x10 x11 rfl
  have e3 := fun y1 y2 W => rng_eqlIn 9997 y1 y2 W
  simp only [show 9997 + 2 = 9999 from rfl] at e3
  simp [Op.eqItems, q0, q1, q2, q3, q4, q5, e3]

end Go.Proofs.YtnfbdkdjoekifaaGreatDoor
end
