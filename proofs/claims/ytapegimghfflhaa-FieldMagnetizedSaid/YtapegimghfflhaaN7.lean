/- A law for a region that draws its order, whose head only reads or calls functions that leave old memory alone, and beside which several new variables are allocated at whatever moments: the head is walked once, in the order of the text. No condition. -/
import Derived.Test.YtapegimghfflhaaN6

section
namespace Go.Proofs.Ytapegimghfflhaa
open Go.RowKit

section
variable {P : Program} {ops : Array Oper} {md : Region.Mode} {W : World}

/-- The operations behind number m wait for all up to m (some through others), and for one another. -/
structure Tl (md : Region.Mode) (ops : Array Oper) (m : Nat) : Prop where
  sink : Region.sinkB md ops (m + 1) = true
  chain : Region.chainB md ops (m + 1) = true
  lt : m + 1 < ops.size
theorem head_waits {m : Nat} {listed : Array Bool} (hs : Tl md ops m) (inv : HeadInv md ops (m + 1) listed) {i : Nat} (hi : i ≤ m) (hun : listed.getD i true = false) : ∀ t ∈ Region.ready md ops listed, t ≤ m := fun t ht => by
  rcases Nat.lt_or_ge t (m + 1) with h | h
  · omega
  · exact absurd ht (tail_waits hs.sink hs.chain hs.lt inv _ i rfl (by omega) hun t h)

/-- A variable that waits for nothing: its number, its operation, what is laid. -/
structure NewOp (P : Program) (md : Region.Mode) (ops : Array Oper) (n m : Nat) where
  i : Nat
  o : Oper
  zc : Obj
  lo : n ≤ i
  hi : i ≤ m
  at_ : ops[i]? = some o
  free : o.guard = none
  soon : o.after.all (fun e => !Region.binds md e) = true
  exec : ∀ (ev : Operand → Value) (w : World), (execOp ev o).run P w = .ok (.value (.pointer (some ⟨w.heap.size, 0, none⟩))) (w.alloc zc)
  apart : ∀ j q, j < n → ops[j]? = some q → o.apart ops q = true

theorem NewOp.ready {n m : Nat} (e : NewOp P md ops n m) {listed : Array Bool} (hun : listed.getD e.i true = false) : e.i ∈ Region.ready md ops listed :=
  mem_ready.2 ⟨hun, e.o, e.at_, fun x hx hb => by
    have := (Array.all_eq_true_iff_forall_mem.1 e.soon) x hx
    simp [hb] at this⟩

/-- What stands in the frame besides does not touch the head. -/
structure Beside (ops : Array Oper) (n : Nat) (F : Act → Act) : Prop where
  exec : ∀ j q, j < n → ops[j]? = some q → ∀ a, execOp (F a).eval q = execOp a.eval q ∧ Region.wanted q (yielded ops (F a).tmps) = Region.wanted q (yielded ops a.tmps) ∧ ∀ v, (F a).put q.dst v = F (a.put q.dst v)

/-- f operations of the head and all that is new: which are listed. -/
structure Marked {n m : Nat} (pend : List (NewOp P md ops n m)) (listed M : Array Bool) : Prop where
  size : M.size = listed.size
  at_ : ∀ j, M.getD j true = (listed.getD j true || (pend.map (·.i)).contains j)

theorem bool_ext {A B : Array Bool} (hs : A.size = B.size) (h : ∀ j, A.getD j true = B.getD j true) : A = B := by
  apply Array.ext hs
  intro j h1 h2
  have := h j
  simpa [Array.getD, h1, h2] using this
theorem getD_set_self {A : Array Bool} (i : Nat) : (A.setIfInBounds i true).getD i true = true := by
  by_cases h : i < A.size <;> simp [Array.getD, h]
theorem getD_set_any {A : Array Bool} (i j : Nat) : (A.setIfInBounds i true).getD j true = (A.getD j true || decide (j = i)) := by
  by_cases h : i = j
  · subst h; rw [getD_set_self]; simp
  · rw [getD_set_ne true h]; simp [Ne.symm h]

theorem Marked.head {n m : Nat} {pend : List (NewOp P md ops n m)} {listed M : Array Bool} (h : Marked pend listed M) (i : Nat) : Marked pend (listed.setIfInBounds i true) (M.setIfInBounds i true) :=
  ⟨by simp [h.size], fun j => by rw [getD_set_any, getD_set_any, h.at_]; cases listed.getD j true <;> cases (pend.map (·.i)).contains j <;> simp⟩

def Fin (n : Nat) {m : Nat} (L : Array Bool → Act → Prop) (Q : Exit → Act → World → Prop) (g : Nat) : List (NewOp P md ops n m) → Nat → (Act → Act) → World → Prop
  | _, 0, F, V => ∀ listed a w, Below V.heap.size V w → L listed a → wpAny P md ops Q g listed (F a) w
  | pend, k + 1, F, V => ∀ (l r : List (NewOp P md ops n m)) (e : NewOp P md ops n m), pend = l ++ e :: r → ∀ w0, Below V.heap.size V w0 → Fin n L Q g (l ++ r) k (fun a => (F a).put e.o.dst (.pointer (some ⟨w0.heap.size, 0, none⟩))) (w0.alloc e.zc)

theorem Beside.more {n m : Nat} {F : Act → Act} (h : Beside ops n F) (hsel : Region.noSelect ops = true) (e : NewOp P md ops n m) (p : Value) : Beside ops n (fun a => (F a).put e.o.dst p) := ⟨fun j q hj hq a => by
  obtain ⟨h1, h2, h3⟩ := h.exec j q hj hq a
  obtain ⟨a1, a2, a3⟩ := Oper.apart_spec (e.apart j q hj hq)
  have hso : ∀ cs b, q.op ≠ .select cs b := fun cs b => Region.noSelect_spec hsel j q cs b hq
  refine ⟨(execOp_put q hso (F a) e.o.dst p a1).trans h1, (wanted_put q (F a) e.o.dst p a1).trans h2, fun v => ?_⟩
  rw [Act.put_comm _ p v a2, h3]⟩

theorem Marked.ready {n m : Nat} {pend : List (NewOp P md ops n m)} {listed M : Array Bool} (h : Marked pend listed M) {j : Nat} (hj : j ∈ Region.ready md ops listed) (hn : (pend.map (·.i)).contains j = false) : j ∈ Region.ready md ops M := by
  rw [mem_ready] at *
  obtain ⟨h0, o, ho, hall⟩ := hj
  refine ⟨by rw [h.at_, h0, hn]; rfl, o, ho, fun e he hb => ?_⟩
  have h1 := hall e he hb
  have h2 := h.at_ e.on
  have h3 := h.size
  have hlt : e.on < listed.size := by
    rcases Nat.lt_or_ge e.on listed.size with h4 | h4
    · exact h4
    · simp [Array.getElem?_eq_none h4] at h1
  have hlt' : e.on < M.size := by omega
  simp [hlt] at h1
  simp [hlt, hlt', h1] at h2
  simp [hlt', h2]

theorem any_of_headN {n m g : Nat} {L : Array Bool → Act → Prop} {Q : Exit → Act → World → Prop} (hsel : Region.noSelect ops = true) (hs : Tl md ops m) (hnm : n ≤ m)
    (hdone : ∀ listed a, L listed a → ∀ j ∈ Region.ready md ops listed, m < j) :
    ∀ (k : Nat) (pend : List (NewOp P md ops n m)) (F : Act → Act) (V : World), pend.length = k → Beside ops n F → Below W.heap.size W V → Fin n L Q g pend k F V →
    ∀ (f : Nat) (listed M : Array Bool) (a : Act) (w : World), Below V.heap.size V w → HeadInv md ops (m + 1) listed → Marked pend listed M → (∀ e ∈ pend, listed.getD e.i true = false) → (pend.map (·.i)).Nodup →
      headG P md ops W n L f M a → wpAny P md ops Q (f + k + g) listed (F a) w := by
  intro k
  induction k with
  | zero =>
    intro pend F V hlen hF hV hfin f
    obtain rfl : pend = [] := List.eq_nil_of_length_eq_zero hlen
    induction f with
    | zero =>
      intro listed M a w hw inv hM _ _ H
      have : M = listed := bool_ext hM.size (fun j => by rw [hM.at_]; simp)
      subst this
      rw [show 0 + 0 + g = g by omega]
      exact hfin _ _ _ hw H
    | succ f ih =>
      intro listed M a w hw inv hM hpn hnd H
      have : M = listed := bool_ext hM.size (fun j => by rw [hM.at_]; simp)
      subst this
      rw [show f + 1 + 0 + g = (f + 0 + g) + 1 by omega]
      refine ⟨fun h0 => absurd h0 H.1, fun i hi => ?_⟩
      obtain ⟨hin, o, v, ho, hy, hK⟩ := H.2 i hi
      obtain ⟨h1, h2, h3⟩ := hF.exec i o hin ho a
      refine wpOp_of_grows ho (below_step hV hw) (hy.of_same h1 h2) fun w' hw' => ?_
      rw [h3]
      exact ih _ _ _ w' (below_step hw hw') (inv.set hi (by omega)) (hM.head i) (fun _ h => by cases h) hnd hK
  | succ k ihk =>
    intro pend F V hlen hF hV hfin f
    -- a variable is laid
    have lay : ∀ (f : Nat) (listed M : Array Bool) (a : Act) (w : World), Below V.heap.size V w → HeadInv md ops (m + 1) listed → Marked pend listed M → (∀ e ∈ pend, listed.getD e.i true = false) → (pend.map (·.i)).Nodup →
        headG P md ops W n L f M a → ∀ e ∈ pend, wpOp P ops Q e.i (fun a' w' => wpAny P md ops Q (f + k + g) (listed.setIfInBounds e.i true) a' w') (F a) w := by
      intro f listed M a w hw inv hM hpn hnd H e he
      obtain ⟨l, r, rfl⟩ := List.append_of_mem he
      unfold wpOp
      simp only [e.at_]
      rw [if_pos (by simp [Region.wanted, e.free])]
      refine .inl ?_
      unfold Oper.wp
      rw [e.exec]
      have hne : ∀ e' ∈ l ++ r, e'.i ≠ e.i := fun e' he' heq => by
        simp only [List.map_append, List.map_cons, List.nodup_append, List.nodup_cons, List.mem_cons] at hnd
        obtain ⟨_, ⟨h2, _⟩, h3⟩ := hnd
        rcases List.mem_append.1 he' with h | h
        · exact h3 _ (List.mem_map_of_mem h) _ (.inl rfl) heq
        · exact h2 (heq ▸ List.mem_map_of_mem h)
      have hw0 : Below W.heap.size W (w.alloc e.zc) := (hV.trans (hw.mono hV.size)).alloc (Nat.le_trans hV.size hw.size) _
      refine ihk (l ++ r) _ (w.alloc e.zc) (by simp at hlen ⊢; omega) (hF.more hsel e _) hw0 (hfin l r e rfl w hw) f (listed.setIfInBounds e.i true) M a _ (Below.refl _ _) (inv.set (e.ready (hpn e (by simp))) (by have := e.hi; omega)) ⟨by simp [hM.size], fun j => ?_⟩ ?_ ?_ H
      · rw [hM.at_, getD_set_any]
        simp only [List.map_append, List.map_cons, List.contains_append, List.contains_cons]
        cases listed.getD j true <;> cases (l.map (·.i)).contains j <;> cases (r.map (·.i)).contains j <;> by_cases hj : j = e.i <;> simp [hj]
      · intro e' he'
        rw [getD_set_ne true (Ne.symm (hne e' he'))]
        refine hpn e' ?_
        rcases List.mem_append.1 he' with h | h
        · exact List.mem_append.2 (.inl h)
        · exact List.mem_append.2 (.inr (List.mem_cons_of_mem _ h))
      · simp only [List.map_append, List.map_cons, List.nodup_append, List.nodup_cons, List.mem_cons] at hnd ⊢
        exact ⟨hnd.1, hnd.2.1.2, fun x hx y hy => hnd.2.2 x hx y (.inr hy)⟩
    obtain ⟨e0, he0⟩ : ∃ e0, e0 ∈ pend := by
      cases pend with
      | nil => simp at hlen
      | cons e0 r => exact ⟨e0, List.mem_cons_self⟩
    have some_ : ∀ j, (pend.map (·.i)).contains j = true → ∃ e ∈ pend, e.i = j := fun j h => by
      simpa using h
    induction f with
    | zero =>
      intro listed M a w hw inv hM hpn hnd H
      have hun := hpn e0 he0
      have hr0 : e0.i ∈ Region.ready md ops listed := mem_ready.2 ⟨hun, e0.o, e0.at_, fun e he hb => by
        have := (Array.all_eq_true_iff_forall_mem.1 e0.soon) e he
        simp [hb] at this⟩
      rw [show 0 + (k + 1) + g = (0 + k + g) + 1 by omega]
      refine ⟨fun h => (by rw [h] at hr0; cases hr0), fun i hi => ?_⟩
      have him : i ≤ m := head_waits hs inv e0.hi hun i hi
      cases hc : (pend.map (·.i)).contains i with
      | true =>
        obtain ⟨e, he, rfl⟩ := some_ i hc
        exact lay 0 listed M a w hw inv hM hpn hnd H e he
      | false =>
        have := hdone _ _ H i (hM.ready hi hc)
        omega
    | succ f ih =>
      intro listed M a w hw inv hM hpn hnd H
      have hun := hpn e0 he0
      have hr0 : e0.i ∈ Region.ready md ops listed := mem_ready.2 ⟨hun, e0.o, e0.at_, fun e he hb => by
        have := (Array.all_eq_true_iff_forall_mem.1 e0.soon) e he
        simp [hb] at this⟩
      rw [show f + 1 + (k + 1) + g = (f + 1 + k + g) + 1 by omega]
      refine ⟨fun h => (by rw [h] at hr0; cases hr0), fun i hi => ?_⟩
      cases hc : (pend.map (·.i)).contains i with
      | true =>
        obtain ⟨e, he, rfl⟩ := some_ i hc
        exact lay (f + 1) listed M a w hw inv hM hpn hnd H e he
      | false =>
        obtain ⟨hin, o, v, ho, hy, hK⟩ := H.2 i (hM.ready hi hc)
        obtain ⟨h1, h2, h3⟩ := hF.exec i o hin ho a
        refine wpOp_of_grows ho (below_step hV hw) (hy.of_same h1 h2) fun w' hw' => ?_
        rw [h3, show f + 1 + k + g = f + (k + 1) + g by omega]
        refine ih _ _ _ w' (below_step hw hw') (inv.set hi (by omega)) (hM.head i) (fun e he => ?_) hnd hK
        rw [getD_set_ne true (fun h => ?_)]
        · exact hpn e he
        · subst h
          have : (pend.map (·.i)).contains e.i = true := by simpa using ⟨e, he, rfl⟩
          rw [this] at hc; cases hc

/-! The head in the order of the text. -/
theorem headG_firstN {n m i : Nat} {oi : Oper} {v : Value} {L : Array Bool → Act → Prop} (hi : ops[i]? = some oi) (hsel : ∀ (j : Nat) (o : Oper) cs b, ops[j]? = some o → o.op ≠ .select cs b)
    (hs : Tl md ops m) (hnm : n ≤ m) (hin : i < n) (hdone : ∀ listed a, L listed a → ∀ j ∈ Region.ready md ops listed, m < j) :
    ∀ (f : Nat) (listed : Array Bool) (a : Act), HeadInv md ops (m + 1) listed → (∀ j, n ≤ j → j ≤ m → listed.getD j true = true) →
      (∀ j oj, ops[j]? = some oj → j ≠ i → listed.getD j true = false → (∀ e ∈ oj.after, Region.binds md e = true → e.on ≠ i) → oi.apart ops oj = true) →
      i ∈ Region.ready md ops listed → GrowsIn P ops W oi v a →
      headG P md ops W n L f (listed.setIfInBounds i true) (a.put oi.dst v) → headG P md ops W n L (f + 1) listed a := by
  intro f
  induction f with
  | zero =>
    intro listed a inv hnl _ hr hy H
    have hun := (mem_ready.1 hr).1
    refine ⟨fun h => (by rw [h] at hr; cases hr), fun j hj => ?_⟩
    have hjm : j ≤ m := head_waits hs inv (by omega) hun j hj
    have hjn : j < n := (Nat.lt_or_ge j n).resolve_right fun h => by
      have := hnl j h hjm
      rw [(mem_ready.1 hj).1] at this; cases this
    refine ⟨hjn, ?_⟩
    by_cases hji : j = i
    · subst hji; exact ⟨oi, v, hi, hy, H⟩
    · have := hdone _ _ H j (ready_mono hj hji)
      omega
  | succ f ih =>
    intro listed a inv hnl hfree hr hy H
    have hun := (mem_ready.1 hr).1
    refine ⟨fun h => (by rw [h] at hr; cases hr), fun j hj => ?_⟩
    have hjm : j ≤ m := head_waits hs inv (by omega) hun j hj
    have hjn : j < n := (Nat.lt_or_ge j n).resolve_right fun h => by
      have := hnl j h hjm
      rw [(mem_ready.1 hj).1] at this; cases this
    refine ⟨hjn, ?_⟩
    by_cases hji : j = i
    · subst hji; exact ⟨oi, v, hi, hy, H⟩
    · have h1 := (H.2 j (ready_mono hj hji)).2
      obtain ⟨hjun, oj, hoj, hall⟩ := mem_ready.1 hj
      have hnot : ∀ e ∈ oj.after, Region.binds md e = true → e.on ≠ i := fun e he hb heq => by
        have h2 := hall e he hb
        rw [heq, getD_both hun] at h2
        cases h2
      have h2 := gOp_put hoj (hfree j oj hoj hji hjun hnot) (fun cs b => hsel i oi cs b hi) (fun cs b => hsel j oj cs b hoj) hy h1
      refine gOp_mono (fun a' h3 => ih (listed.setIfInBounds j true) a' (inv.set hj (by omega)) (fun q h4 h5 => by rw [getD_set_ne true (by omega)]; exact hnl q h4 h5) (fun k ok hk hki hu hno => hfree k ok hk hki ?_ hno) (ready_mono hr (Ne.symm hji)) h3.1 ?_) h2
      · by_cases hjk : j = k
        · subst hjk; exact hjun
        · rw [getD_set_ne true hjk] at hu; exact hu
      · rw [Array.setIfInBounds_comm _ _ hji]
        exact h3.2

def lexHeadN (md : Region.Mode) (ops : Array Oper) (g m : Nat) : Nat → Nat → Array Bool → Bool
  | 0, _, listed => Region.seqB md ops g (m + 1) listed
  | f + 1, k, listed => (Region.ready md ops listed).contains k && Region.free md ops listed k && lexHeadN md ops g m f (k + 1) (listed.setIfInBounds k true)

theorem headG_lexN {n m g : Nat} {Lq : Act → Prop} (hsel : Region.noSelect ops = true) (hs : Tl md ops m) (hnm : n ≤ m) :
    ∀ (l : List Oper) (k : Nat) (listed : Array Bool) (a : Act), (∀ j, j < l.length → l[j]? = ops[k + j]?) → k + l.length = n → HeadInv md ops (m + 1) listed → (∀ j, n ≤ j → j ≤ m → listed.getD j true = true) →
    lexHeadN md ops g m l.length k listed = true → wpGrow P ops W Lq l a →
    headG P md ops W n (fun listed' a' => Region.seqB md ops g (m + 1) listed' = true ∧ Lq a') l.length listed a
  | [], k, listed, a, _, hk, _, _, hB, h => ⟨by simpa [lexHeadN] using hB, h⟩
  | o :: l, k, listed, a, hl, hk, inv, hnl, hB, h => by
    have h0 : ops[k]? = some o := by simpa using (hl 0 (by simp)).symm
    simp only [List.length_cons, lexHeadN, Bool.and_eq_true] at hB
    obtain ⟨⟨hr, hf⟩, hB'⟩ := hB
    have hkn : k < n := by simp only [List.length_cons] at hk; omega
    have hr' : k ∈ Region.ready md ops listed := by simpa using hr
    obtain ⟨v, hy, hK⟩ := h
    exact headG_firstN h0 (Region.noSelect_spec hsel) hs hnm hkn (fun listed' a' hL j hj => by have := seqB_ready hL.1 j hj; omega) l.length listed a inv hnl (Region.free_spec h0 hf) hr' hy
      (headG_lexN hsel hs hnm l (k + 1) _ _ (fun j hj => by have := hl (j + 1) (by simp; omega); simpa [Nat.add_assoc, Nat.add_comm 1 j] using this) (by simp only [List.length_cons] at hk; omega) (inv.set hr' (by omega)) (fun q h4 h5 => by rw [getD_set_ne true (by omega)]; exact hnl q h4 h5) hB' hK)

/-- What is asked of one variable, as a Bool. -/
def newB (md : Region.Mode) (ops : Array Oper) (n i : Nat) : Bool := match ops[i]? with
  | some al => al.after.all (fun e => !Region.binds md e) && (List.range n).all fun j => ((ops[j]?).map fun o => al.apart ops o).getD true
  | none => false
def apartB (ops : Array Oper) (i j : Nat) : Bool := match ops[i]?, ops[j]? with
  | some a, some b => a.apart ops b
  | _, _ => false

def allocB3 (md : Region.Mode) (ops : Array Oper) (n : Nat) : Bool :=
  Region.noSelect ops && decide (n + 3 < ops.size) && (Region.sinkB md ops (n + 3) && Region.chainB md ops (n + 3)) && lexHeadN md ops (ops.size - (n + 3)) (n + 2) n 0 ((((Array.replicate ops.size false).setIfInBounds n true).setIfInBounds (n + 1) true).setIfInBounds (n + 2) true) &&
  newB md ops n n && newB md ops n (n + 1) && newB md ops n (n + 2) && apartB ops n (n + 1) && apartB ops n (n + 2) && apartB ops (n + 1) (n + 2)

def mkNew {md : Region.Mode} {ops : Array Oper} {n m i : Nat} {o : Oper} {zc : Obj} (lo : n ≤ i) (hi : i ≤ m) (hal : ops[i]? = some o) (hg : o.guard = none) (hB : newB md ops n i = true)
    (hex : ∀ (ev : Operand → Value) (w : World), (execOp ev o).run P w = .ok (.value (.pointer (some ⟨w.heap.size, 0, none⟩))) (w.alloc zc)) : NewOp P md ops n m :=
  { i := i, o := o, zc := zc, lo := lo, hi := hi, at_ := hal, free := hg
    soon := by unfold newB at hB; rw [hal] at hB; simp only [Bool.and_eq_true] at hB; exact hB.1
    exec := hex
    apart := fun j q hj hq => by
      unfold newB at hB; rw [hal] at hB; simp only [Bool.and_eq_true] at hB
      have := List.all_eq_true.1 hB.2 j (List.mem_range.2 hj)
      rw [hq] at this
      simpa using this }

theorem newBox_keep {W w w' : World} {b : Nat} {zc : Obj} (h : NewBox W w b zc) (hb : Below w.heap.size w w') : NewBox W w' b zc :=
  ⟨h.ge, (hb.block _ (Array.getElem?_eq_some_iff.1 h.at_).1).trans h.at_⟩
theorem NewBox.lt {W w : World} {b : Nat} {zc : Obj} (h : NewBox W w b zc) : b < w.heap.size := (Array.getElem?_eq_some_iff.1 h.at_).1
theorem NewBox.new {W w : World} {zc : Obj} (h : Below W.heap.size W w) : NewBox W (w.alloc zc) w.heap.size zc := ⟨h.size, heap_alloc_new _ _⟩

theorem split2 {α : Type} {a b e : α} {l r : List α} (h : [a, b] = l ++ e :: r) : (l = [] ∧ e = a ∧ r = [b]) ∨ (l = [a] ∧ e = b ∧ r = []) := by
  rcases l with _ | ⟨x, _ | ⟨y, l⟩⟩ <;> simp_all
theorem split1 {α : Type} {a e : α} {l r : List α} (h : [a] = l ++ e :: r) : l = [] ∧ e = a ∧ r = [] := by
  rcases l with _ | ⟨x, l⟩ <;> simp_all

end

end Go.Proofs.Ytapegimghfflhaa
end
