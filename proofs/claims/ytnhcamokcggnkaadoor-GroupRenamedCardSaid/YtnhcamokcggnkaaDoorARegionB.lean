/- A law for a region that draws its order, whose head only reads or calls functions that leave old memory alone, and beside which two new variables are allocated at whatever moments: the head is walked once, in the order of the text. No condition. -/
import Derived.Test.YtnhcamokcggnkaaDoorARegionA
namespace Go.Proofs.YtnhcamokcggnkaaDoor
open Go.RowKit

section
variable {P : Program} {ops : Array Oper} {md : Region.Mode} {W : World}

theorem headG_first2 {n i : Nat} {oi : Oper} {v : Value} {L : Array Bool → Act → Prop} (hi : ops[i]? = some oi) (hsel : ∀ (j : Nat) (o : Oper) cs b, ops[j]? = some o → o.op ≠ .select cs b)
    (hs : tailB md ops (n + 1) = true) (hin : i < n) (hdone : ∀ listed a, L listed a → ∀ j ∈ Region.ready md ops listed, n + 1 < j) :
    ∀ (f : Nat) (listed : Array Bool) (a : Act), TailInv ops (n + 1) listed → listed.getD n true = true → listed.getD (n + 1) true = true →
      (∀ j oj, ops[j]? = some oj → j ≠ i → listed.getD j true = false → (∀ e ∈ oj.after, Region.binds md e = true → e.on ≠ i) → oi.apart ops oj = true) →
      i ∈ Region.ready md ops listed → GrowsIn P ops W oi v a →
      headG P md ops W n L f (listed.setIfInBounds i true) (a.put oi.dst v) → headG P md ops W n L (f + 1) listed a := by
  intro f
  induction f with
  | zero =>
    intro listed a inv hnl hnl' _ hr hy H
    have hun := (mem_ready.1 hr).1
    refine ⟨fun h => (by rw [h] at hr; cases hr), fun j hj => ?_⟩
    have hjn : j ≤ n + 1 := tail_waitsA hs inv (by omega) hun j hj
    have hjn2 : j ≠ n := fun e => by subst e; rw [(mem_ready.1 hj).1] at hnl; cases hnl
    have hjn3 : j ≠ n + 1 := fun e => by subst e; rw [(mem_ready.1 hj).1] at hnl'; cases hnl'
    refine ⟨by omega, ?_⟩
    by_cases hji : j = i
    · subst hji; exact ⟨oi, v, hi, hy, H⟩
    · have := hdone _ _ H j (ready_mono hj hji)
      omega
  | succ f ih =>
    intro listed a inv hnl hnl' hfree hr hy H
    have hun := (mem_ready.1 hr).1
    refine ⟨fun h => (by rw [h] at hr; cases hr), fun j hj => ?_⟩
    have hjn : j ≤ n + 1 := tail_waitsA hs inv (by omega) hun j hj
    have hjn2 : j ≠ n := fun e => by subst e; rw [(mem_ready.1 hj).1] at hnl; cases hnl
    have hjn3 : j ≠ n + 1 := fun e => by subst e; rw [(mem_ready.1 hj).1] at hnl'; cases hnl'
    refine ⟨by omega, ?_⟩
    by_cases hji : j = i
    · subst hji; exact ⟨oi, v, hi, hy, H⟩
    · have h1 := (H.2 j (ready_mono hj hji)).2
      obtain ⟨hjun, oj, hoj, hall⟩ := mem_ready.1 hj
      have hnot : ∀ e ∈ oj.after, Region.binds md e = true → e.on ≠ i := fun e he hb heq => by
        have h2 := hall e he hb
        rw [heq, getD_both hun] at h2
        cases h2
      have h2 := gOp_put hoj (hfree j oj hoj hji hjun hnot) (fun cs b => hsel i oi cs b hi) (fun cs b => hsel j oj cs b hoj) hy h1
      refine gOp_mono (fun a' h3 => ih (listed.setIfInBounds j true) a' (inv.set hjn) (by rw [getD_set_ne true hjn2]; exact hnl) (by rw [getD_set_ne true hjn3]; exact hnl') (fun k ok hk hki hu hno => hfree k ok hk hki ?_ hno) (ready_mono hr (Ne.symm hji)) h3.1 ?_) h2
      · by_cases hjk : j = k
        · subst hjk; exact hjun
        · rw [getD_set_ne true hjk] at hu; exact hu
      · rw [Array.setIfInBounds_comm _ _ hji]
        exact h3.2

def lexHead2 (md : Region.Mode) (ops : Array Oper) (g n : Nat) : Nat → Nat → Array Bool → Bool
  | 0, _, listed => Region.seqB md ops g (n + 1 + 1) listed
  | f + 1, k, listed => (Region.ready md ops listed).contains k && Region.free md ops listed k && lexHead2 md ops g n f (k + 1) (listed.setIfInBounds k true)

theorem headG_lex2 {n g : Nat} {Lq : Act → Prop} (hsel : Region.noSelect ops = true) (hs : tailB md ops (n + 1) = true) :
    ∀ (l : List Oper) (k : Nat) (listed : Array Bool) (a : Act), (∀ j, j < l.length → l[j]? = ops[k + j]?) → k + l.length = n → TailInv ops (n + 1) listed → listed.getD n true = true → listed.getD (n + 1) true = true →
    lexHead2 md ops g n l.length k listed = true → wpGrow P ops W Lq l a →
    headG P md ops W n (fun listed' a' => Region.seqB md ops g (n + 1 + 1) listed' = true ∧ Lq a') l.length listed a
  | [], k, listed, a, _, hk, _, _, _, hB, h => ⟨by simpa [lexHead2] using hB, h⟩
  | o :: l, k, listed, a, hl, hk, inv, hnl, hnl', hB, h => by
    have h0 : ops[k]? = some o := by simpa using (hl 0 (by simp)).symm
    simp only [List.length_cons, lexHead2, Bool.and_eq_true] at hB
    obtain ⟨⟨hr, hf⟩, hB'⟩ := hB
    have hkn : k < n := by simp only [List.length_cons] at hk; omega
    have hr' : k ∈ Region.ready md ops listed := by simpa using hr
    obtain ⟨v, hy, hK⟩ := h
    exact headG_first2 h0 (Region.noSelect_spec hsel) hs hkn (fun listed' a' hL j hj => by have := seqB_ready hL.1 j hj; omega) l.length listed a inv hnl hnl' (Region.free_spec h0 hf) hr' hy
      (headG_lex2 hsel hs l (k + 1) _ _ (fun j hj => by have := hl (j + 1) (by simp; omega); simpa [Nat.add_assoc, Nat.add_comm 1 j] using this) (by simp only [List.length_cons] at hk; omega) (inv.set (by omega)) (by rw [getD_set_ne true (by omega)]; exact hnl) (by rw [getD_set_ne true (by omega)]; exact hnl') hB' hK)

/-- Both variables are there already. -/
theorem any_of_headG2 {n g : Nat} {L : Array Bool → Act → Prop} {Q : Exit → Act → World → Prop} {al al' : Oper} {p p' : Value} (hsel : Region.noSelect ops = true)
    (hap : ∀ i o, i < n → ops[i]? = some o → al.apart ops o = true) (hap' : ∀ i o, i < n → ops[i]? = some o → al'.apart ops o = true) {w0 : World} (hw0 : Below W.heap.size W w0)
    (hL : ∀ listed a w, Below w0.heap.size w0 w → L listed a → wpAny P md ops Q g listed ((a.put al.dst p).put al'.dst p') w) :
    ∀ (f : Nat) (listed : Array Bool) (a : Act) (w : World), Below w0.heap.size w0 w → headG P md ops W n L f listed a → wpAny P md ops Q (f + g) listed ((a.put al.dst p).put al'.dst p') w
  | 0, listed, a, w, hw, h => by rw [Nat.zero_add]; exact hL _ _ _ hw h
  | f + 1, listed, a, w, hw, h => by
    rw [show f + 1 + g = (f + g) + 1 by omega]
    refine ⟨fun h0 => absurd h0 h.1, fun i hi => ?_⟩
    obtain ⟨hin, o, v, ho, hy, hK⟩ := h.2 i hi
    obtain ⟨h1, h2, h3⟩ := Oper.apart_spec (hap i o hin ho)
    obtain ⟨h1', h2', h3'⟩ := Oper.apart_spec (hap' i o hin ho)
    have hso : ∀ cs b, o.op ≠ .select cs b := fun cs b => Region.noSelect_spec hsel i o cs b ho
    have y1 := hy.of_same (execOp_put o hso a al.dst p h1) (wanted_put o a al.dst p h1)
    refine wpOp_of_grows ho (below_step hw0 hw) (y1.of_same (execOp_put o hso _ al'.dst p' h1') (wanted_put o _ al'.dst p' h1')) fun w' hw' => ?_
    rw [Act.put_comm _ p' v h2', Act.put_comm a p v h2]
    exact any_of_headG2 hsel hap hap' hw0 hL f _ _ w' (below_step hw hw') hK

/-- One variable is there, the other is not yet. -/
theorem any_of_head1 {n g k : Nat} {L : Array Bool → Act → Prop} {Q : Exit → Act → World → Prop} {al alx : Oper} {px : Value} {zc : Obj} (hsel : Region.noSelect ops = true) (hs : tailB md ops (n + 1) = true) (hk : k ≤ n + 1) (hkn : n ≤ k)
    (hal : ops[k]? = some al) (hgd : al.guard = none) (haf : al.after.all (fun e => !Region.binds md e) = true)
    (hex : ∀ (ev : Operand → Value) (w : World), (execOp ev al).run P w = .ok (.value (.pointer (some ⟨w.heap.size, 0, none⟩))) (w.alloc zc))
    (hap : ∀ i o, i < n → ops[i]? = some o → al.apart ops o = true) (hapx : ∀ i o, i < n → ops[i]? = some o → alx.apart ops o = true)
    (hdone : ∀ listed a, L listed a → ∀ j ∈ Region.ready md ops listed, n + 1 < j)
    {V0 : World} (hV0 : Below W.heap.size W V0)
    (hL : ∀ (w0 : World) listed a w, Below V0.heap.size V0 w0 → Below (w0.alloc zc).heap.size (w0.alloc zc) w → L listed a → wpAny P md ops Q g listed ((a.put alx.dst px).put al.dst (.pointer (some ⟨w0.heap.size, 0, none⟩))) w) :
    ∀ (f : Nat) (listed : Array Bool) (a : Act) (w : World), Below V0.heap.size V0 w → TailInv ops (n + 1) listed → listed.getD k true = false → headG P md ops W n L f (listed.setIfInBounds k true) a →
      wpAny P md ops Q (f + 1 + g) listed (a.put alx.dst px) w := by
  intro f
  induction f with
  | zero =>
    intro listed a w hw inv hun H
    have hrn : k ∈ Region.ready md ops listed := mem_ready.2 ⟨hun, al, hal, fun e he hb => by
      have := (Array.all_eq_true_iff_forall_mem.1 haf) e he
      simp [hb] at this⟩
    rw [show 0 + 1 + g = g + 1 by omega]
    refine ⟨fun h => (by rw [h] at hrn; cases hrn), fun i hi => ?_⟩
    have hin : i ≤ n + 1 := tail_waitsA hs inv hk hun i hi
    by_cases hne : i = k
    · subst hne
      unfold wpOp
      simp only [hal]
      rw [if_pos (by simp [Region.wanted, hgd])]
      refine .inl ?_
      unfold Oper.wp
      rw [hex]
      exact hL w _ _ _ hw (Below.refl _ _) H
    · have := hdone _ _ H i (ready_mono hi hne)
      omega
  | succ f ih =>
    intro listed a w hw inv hun H
    have hrn : k ∈ Region.ready md ops listed := mem_ready.2 ⟨hun, al, hal, fun e he hb => by
      have := (Array.all_eq_true_iff_forall_mem.1 haf) e he
      simp [hb] at this⟩
    rw [show f + 1 + 1 + g = (f + 1 + g) + 1 by omega]
    refine ⟨fun h => (by rw [h] at hrn; cases hrn), fun i hi => ?_⟩
    have hin : i ≤ n + 1 := tail_waitsA hs inv hk hun i hi
    by_cases hne : i = k
    · subst hne
      unfold wpOp
      simp only [hal]
      rw [if_pos (by simp [Region.wanted, hgd])]
      refine .inl ?_
      unfold Oper.wp
      rw [hex]
      show wpAny P md ops Q (f + 1 + g) _ _ _
      exact any_of_headG2 hsel hapx hap (w0 := w.alloc zc) ((hV0.trans (hw.mono hV0.size)).alloc (Nat.le_trans hV0.size hw.size) _) (fun listed' a' w' hw' hl => hL w listed' a' w' hw hw' hl) (f + 1) _ a _ (Below.refl _ _) H
    · obtain ⟨hin2, o, v, ho, hy, hK⟩ := H.2 i (ready_mono hi hne)
      obtain ⟨h1, h2, h3⟩ := Oper.apart_spec (hapx i o hin2 ho)
      have hso : ∀ cs b, o.op ≠ .select cs b := fun cs b => Region.noSelect_spec hsel i o cs b ho
      refine wpOp_of_grows ho (below_step hV0 hw) (hy.of_same (execOp_put o hso a alx.dst px h1) (wanted_put o a alx.dst px h1)) fun w' hw' => ?_
      rw [Act.put_comm a px v h2]
      refine ih _ _ w' (below_step hw hw') (inv.set hin) (by rw [getD_set_ne true hne]; exact hun) ?_
      rw [Array.setIfInBounds_comm _ _ hne]
      exact hK

/-- A new variable lies at b, below it all is as it was. -/
structure NewBox (W w : World) (b : Nat) (zc : Obj) : Prop where
  ge : W.heap.size ≤ b
  at_ : w.heap[b]? = some zc
theorem newBox_of {W w0 w : World} {zc : Obj} (h0 : Below W.heap.size W w0) (h : Below (w0.alloc zc).heap.size (w0.alloc zc) w) : NewBox W w w0.heap.size zc :=
  ⟨h0.size, (h.block _ (by simp)).trans (heap_alloc_new _ _)⟩

/-- Neither variable is there yet. -/
theorem any_of_head0 {n g : Nat} {L : Array Bool → Act → Prop} {Q : Exit → Act → World → Prop} {al al' : Oper} {zc zc' : Obj} (hsel : Region.noSelect ops = true) (hs : tailB md ops (n + 1) = true)
    (hal : ops[n]? = some al) (hgd : al.guard = none) (haf : al.after.all (fun e => !Region.binds md e) = true)
    (hal' : ops[n + 1]? = some al') (hgd' : al'.guard = none) (haf' : al'.after.all (fun e => !Region.binds md e) = true)
    (hex : ∀ (ev : Operand → Value) (w : World), (execOp ev al).run P w = .ok (.value (.pointer (some ⟨w.heap.size, 0, none⟩))) (w.alloc zc))
    (hex' : ∀ (ev : Operand → Value) (w : World), (execOp ev al').run P w = .ok (.value (.pointer (some ⟨w.heap.size, 0, none⟩))) (w.alloc zc'))
    (hap : ∀ i o, i < n → ops[i]? = some o → al.apart ops o = true) (hap' : ∀ i o, i < n → ops[i]? = some o → al'.apart ops o = true) (haa : al.apart ops al' = true)
    (hdone : ∀ listed a, L listed a → ∀ j ∈ Region.ready md ops listed, n + 1 < j)
    (hL : ∀ (b b' : Nat) listed a w, Below W.heap.size W w → NewBox W w b zc → NewBox W w b' zc' → b ≠ b' → L listed a → wpAny P md ops Q g listed ((a.put al.dst (.pointer (some ⟨b, 0, none⟩))).put al'.dst (.pointer (some ⟨b', 0, none⟩))) w) :
    ∀ (f : Nat) (listed : Array Bool) (a : Act) (w : World), Below W.heap.size W w → TailInv ops (n + 1) listed → listed.getD n true = false → listed.getD (n + 1) true = false → headG P md ops W n L f ((listed.setIfInBounds n true).setIfInBounds (n + 1) true) a →
      wpAny P md ops Q (f + 1 + 1 + g) listed a w := by
  have hd : Act.put_comm = Act.put_comm := rfl
  obtain ⟨_, hdst, _⟩ := Oper.apart_spec haa
  -- the second one first
  have L1 : ∀ w1 : World, Below W.heap.size W w1 → ∀ (w0 : World) listed a w, Below (w1.alloc zc).heap.size (w1.alloc zc) w0 → Below (w0.alloc zc').heap.size (w0.alloc zc') w → L listed a →
      wpAny P md ops Q g listed ((a.put al.dst (.pointer (some ⟨w1.heap.size, 0, none⟩))).put al'.dst (.pointer (some ⟨w0.heap.size, 0, none⟩))) w := fun w1 h1 w0 listed a w h2 h3 hl => by
    have hz : w1.heap.size + 1 ≤ w0.heap.size := by simpa using h2.size
    have h4 : Below W.heap.size W w0 := (h1.alloc h1.size _).trans (h2.mono (by have := h1.size; simp; omega))
    have h5 : Below w0.heap.size w0 w := ((Below.refl _ w0).alloc (Nat.le_refl _) _).trans (h3.mono (by simp))
    have h6 : Below (w1.alloc zc).heap.size (w1.alloc zc) w := h2.trans (h5.mono h2.size)
    exact hL _ _ listed a w (h4.trans (h5.mono h4.size)) (newBox_of h1 h6) (newBox_of h4 h3) (by omega) hl
  have L2 : ∀ w1 : World, Below W.heap.size W w1 → ∀ (w0 : World) listed a w, Below (w1.alloc zc').heap.size (w1.alloc zc') w0 → Below (w0.alloc zc).heap.size (w0.alloc zc) w → L listed a →
      wpAny P md ops Q g listed ((a.put al'.dst (.pointer (some ⟨w1.heap.size, 0, none⟩))).put al.dst (.pointer (some ⟨w0.heap.size, 0, none⟩))) w := fun w1 h1 w0 listed a w h2 h3 hl => by
    have hz : w1.heap.size + 1 ≤ w0.heap.size := by simpa using h2.size
    have h4 : Below W.heap.size W w0 := (h1.alloc h1.size _).trans (h2.mono (by have := h1.size; simp; omega))
    have h5 : Below w0.heap.size w0 w := ((Below.refl _ w0).alloc (Nat.le_refl _) _).trans (h3.mono (by simp))
    have h6 : Below (w1.alloc zc').heap.size (w1.alloc zc') w := h2.trans (h5.mono h2.size)
    rw [← Act.put_comm a _ _ hdst]
    exact hL _ _ listed a w (h4.trans (h5.mono h4.size)) (newBox_of h4 h3) (newBox_of h1 h6) (by omega) hl
  intro f
  induction f with
  | zero =>
    intro listed a w hw inv hun hun' H
    have hrn : n ∈ Region.ready md ops listed := mem_ready.2 ⟨hun, al, hal, fun e he hb => by
      have := (Array.all_eq_true_iff_forall_mem.1 haf) e he
      simp [hb] at this⟩
    rw [show 0 + 1 + 1 + g = (0 + 1 + g) + 1 by omega]
    refine ⟨fun h => (by rw [h] at hrn; cases hrn), fun i hi => ?_⟩
    have hin : i ≤ n + 1 := tail_waitsA hs inv (by omega) hun i hi
    by_cases hne : i = n
    · subst hne
      unfold wpOp
      simp only [hal]
      rw [if_pos (by simp [Region.wanted, hgd])]
      refine .inl ?_
      unfold Oper.wp
      rw [hex]
      exact any_of_head1 hsel hs (Nat.le_refl _) (by omega) hal' hgd' haf' hex' hap' hap hdone (V0 := w.alloc zc) (hw.alloc hw.size _) (L1 w hw) 0 _ a _ (Below.refl _ _) (inv.set (by omega)) (by rw [getD_set_ne true (by omega)]; exact hun') H
    · by_cases hne' : i = n + 1
      · subst hne'
        unfold wpOp
        simp only [hal']
        rw [if_pos (by simp [Region.wanted, hgd'])]
        refine .inl ?_
        unfold Oper.wp
        rw [hex']
        exact any_of_head1 hsel hs (k := n) (by omega) (Nat.le_refl _) hal hgd haf hex hap hap' hdone (V0 := w.alloc zc') (hw.alloc hw.size _) (L2 w hw) 0 _ a _ (Below.refl _ _) (inv.set (by omega)) (by rw [getD_set_ne true (by omega)]; exact hun) (by rw [Array.setIfInBounds_comm _ _ (by omega)]; exact H)
      · have := hdone _ _ H i (ready_mono (ready_mono hi hne) hne')
        omega
  | succ f ih =>
    intro listed a w hw inv hun hun' H
    have hrn : n ∈ Region.ready md ops listed := mem_ready.2 ⟨hun, al, hal, fun e he hb => by
      have := (Array.all_eq_true_iff_forall_mem.1 haf) e he
      simp [hb] at this⟩
    rw [show f + 1 + 1 + 1 + g = (f + 1 + 1 + g) + 1 by omega]
    refine ⟨fun h => (by rw [h] at hrn; cases hrn), fun i hi => ?_⟩
    have hin : i ≤ n + 1 := tail_waitsA hs inv (by omega) hun i hi
    by_cases hne : i = n
    · subst hne
      unfold wpOp
      simp only [hal]
      rw [if_pos (by simp [Region.wanted, hgd])]
      refine .inl ?_
      unfold Oper.wp
      rw [hex]
      show wpAny P md ops Q (f + 1 + 1 + g) _ _ _
      exact any_of_head1 hsel hs (Nat.le_refl _) (by omega) hal' hgd' haf' hex' hap' hap hdone (V0 := w.alloc zc) (hw.alloc hw.size _) (L1 w hw) (f + 1) _ a _ (Below.refl _ _) (inv.set (by omega)) (by rw [getD_set_ne true (by omega)]; exact hun') H
    · by_cases hne' : i = n + 1
      · subst hne'
        unfold wpOp
        simp only [hal']
        rw [if_pos (by simp [Region.wanted, hgd'])]
        refine .inl ?_
        unfold Oper.wp
        rw [hex']
        show wpAny P md ops Q (f + 1 + 1 + g) _ _ _
        exact any_of_head1 hsel hs (k := n) (by omega) (Nat.le_refl _) hal hgd haf hex hap hap' hdone (V0 := w.alloc zc') (hw.alloc hw.size _) (L2 w hw) (f + 1) _ a _ (Below.refl _ _) (inv.set (by omega)) (by rw [getD_set_ne true (by omega)]; exact hun) (by rw [Array.setIfInBounds_comm _ _ (by omega)]; exact H)
      · obtain ⟨_, o, v, ho, hy, hK⟩ := H.2 i (ready_mono (ready_mono hi hne) hne')
        refine wpOp_of_grows ho hw hy fun w' hw' => ?_
        refine ih _ _ w' (below_step hw hw') (inv.set hin) (by rw [getD_set_ne true hne]; exact hun) (by rw [getD_set_ne true hne']; exact hun') ?_
        rw [Array.setIfInBounds_comm _ _ hne, Array.setIfInBounds_comm _ _ hne']
        exact hK

/-- What is asked of the region, as one Bool. -/
def allocB2 (md : Region.Mode) (ops : Array Oper) (n : Nat) : Bool :=
  Region.noSelect ops && decide (n + 1 + 1 < ops.size) && tailB md ops (n + 1) && lexHead2 md ops (ops.size - (n + 1 + 1)) n n 0 (((Array.replicate ops.size false).setIfInBounds n true).setIfInBounds (n + 1) true) &&
  (match ops[n]?, ops[n + 1]? with
   | some al, some al' => (al.after.all (fun e => !Region.binds md e) && al'.after.all (fun e => !Region.binds md e)) && al.apart ops al' && ((List.range n).all fun i => ((ops[i]?).map fun o => al.apart ops o).getD true) && ((List.range n).all fun i => ((ops[i]?).map fun o => al'.apart ops o).getD true)
   | _, _ => false)

theorem region_alloc2 {id : Nat} {Q : Exit → Act → World → Prop} {a : Act} {w : World} {l : List Oper} {dst dst' : Option Tmp} {T T' ty ty' : TypeId} {pos pos' : String} {af af' : Array Edge} {zc zc' : Obj} (n : Nat) (hm : P.follows .mixedOrders = true) (hB : allocB2 .any l.toArray n = true)
    (hal : l[n]? = some { dst := dst, op := .alloc T, type := ty, pos := pos, after := af, guard := none })
    (hal' : l[n + 1]? = some { dst := dst', op := .alloc T', type := ty', pos := pos', after := af', guard := none })
    (hex : ∀ (ev : Operand → Value) (w : World), (execOp ev { dst := dst, op := .alloc T, type := ty, pos := pos, after := af, guard := none }).run P w = .ok (.value (.pointer (some ⟨w.heap.size, 0, none⟩))) (w.alloc zc))
    (hex' : ∀ (ev : Operand → Value) (w : World), (execOp ev { dst := dst', op := .alloc T', type := ty', pos := pos', after := af', guard := none }).run P w = .ok (.value (.pointer (some ⟨w.heap.size, 0, none⟩))) (w.alloc zc'))
    (h : wpGrow P l.toArray w (fun a' => ∀ b b' w', Below w.heap.size w w' → NewBox w w' b zc → NewBox w w' b' zc' → b ≠ b' → wpList P l.toArray Q (l.drop (n + 1 + 1)) ((a'.put dst (.pointer (some ⟨b, 0, none⟩))).put dst' (.pointer (some ⟨b', 0, none⟩))) w') (l.take n) a) : (Code.region id l.toArray true).wp P Q a w := by
  simp only [allocB2, Bool.and_eq_true, decide_eq_true_eq] at hB
  obtain ⟨⟨⟨⟨hsel, hn⟩, hs⟩, hlex⟩, hrest⟩ := hB
  have hn' : n + 1 + 1 < l.length := by simpa using hn
  have htl : (l.take n).length = n := by simp; omega
  have hdl : (l.drop (n + 1 + 1)).length = l.toArray.size - (n + 1 + 1) := by simp
  have hal1 : l.toArray[n]? = some { dst := dst, op := .alloc T, type := ty, pos := pos, after := af, guard := none } := by simpa using hal
  have hal2 : l.toArray[n + 1]? = some { dst := dst', op := .alloc T', type := ty', pos := pos', after := af', guard := none } := by simpa using hal'
  rw [hal1, hal2] at hrest
  simp only [Bool.and_eq_true] at hrest
  obtain ⟨⟨⟨⟨haf, haf'⟩, haa⟩, hap⟩, hap'⟩ := hrest
  have inv0 : TailInv l.toArray (n + 1) (Array.replicate l.toArray.size false) := ⟨by simp, fun t _ ht => getD_in (by simpa using ht) (getD_replicate_false _ _)⟩
  have hun0 : (Array.replicate l.toArray.size false).getD n true = false := getD_in (by simp; omega) (getD_replicate_false _ _)
  have hun1 : (Array.replicate l.toArray.size false).getD (n + 1) true = false := getD_in (by simp; omega) (getD_replicate_false _ _)
  have hset : (((Array.replicate l.toArray.size false).setIfInBounds n true).setIfInBounds (n + 1) true).getD n true = true := by
    rw [getD_set_ne true (by omega)]; simp
  have hset' : (((Array.replicate l.toArray.size false).setIfInBounds n true).setIfInBounds (n + 1) true).getD (n + 1) true = true := by
    simp
  have H := headG_lex2 (md := .any) (g := l.toArray.size - (n + 1 + 1)) hsel hs (l.take n) 0 _ a (fun j hj => by
    have hj' : j < n := by rw [htl] at hj; exact hj
    simp [hj']) (by simpa using htl) ((inv0.set (by omega)).set (Nat.le_refl _)) hset hset' (by rw [htl]; exact hlex) h
  refine wp_region_any hm ?_
  have H2 := any_of_head0 (md := .any) (g := l.toArray.size - (n + 1 + 1)) (Q := Q) hsel hs hal1 rfl haf hal2 rfl haf' hex hex'
    (fun i o hi ho => by
      have := List.all_eq_true.1 hap i (List.mem_range.2 hi)
      rw [ho] at this
      simpa using this)
    (fun i o hi ho => by
      have := List.all_eq_true.1 hap' i (List.mem_range.2 hi)
      rw [ho] at this
      simpa using this) haa
    (fun listed' a' hL j hj => by have := seqB_ready hL.1 j hj; omega)
    (fun b b' listed' a' w' hw' hb hb' hne hL => by
      have := wpAny_of_seq (md := .any) (Q' := Q) (l.drop (n + 1 + 1)) (n + 1 + 1) listed' _ w' (fun j => by simp [List.getElem?_drop]) (by rw [hdl]; exact hL.1) (hL.2 b b' w' hw' hb hb' hne)
      rwa [hdl] at this) _ _ a w.drew (Below.refl _ _).drew inv0 hun0 hun1 H
  rw [htl, show n + 1 + 1 + (l.toArray.size - (n + 1 + 1)) = l.toArray.size by omega] at H2
  exact H2
end

end Go.Proofs.YtnhcamokcggnkaaDoor
