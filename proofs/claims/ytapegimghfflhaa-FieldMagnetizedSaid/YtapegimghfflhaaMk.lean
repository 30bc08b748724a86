/- Plain facts on networks: the two nodes of a branch belong to one part (chapter 3). No condition. -/
import Derived.Test.YtapegimghfflhaaM5

section
namespace Go.Proofs.Ytapegimghfflhaa

def Inc (bs : List FBr) (i v : Nat) : Prop := (bs.getD i default).a = (v : Int) ∨ (bs.getD i default).b = (v : Int)
/-- While a part is gathered: nodes before k are done, those from start on belong to it. -/
structure Phase (bs : List FBr) (s : Fst) (start k : Nat) (root : Int) : Prop where
  done : ∀ p v, p < k → s.order[p]? = some v → ∀ i, i < bs.length → Inc bs i v → otherN (bs.getD i default) v ∈ s.order ∧ s.low.getD (otherN (bs.getD i default) v) 0 = s.low.getD v 0
  cur : ∀ p v, start ≤ p → s.order[p]? = some v → s.low.getD v 0 = root
  old : ∀ p v, p < start → s.order[p]? = some v → ∀ i, i < bs.length → Inc bs i v → ∃ q, q < start ∧ s.order[q]? = some (otherN (bs.getD i default) v)
section
variable {N : Nat} {bs : List FBr} {s : Fst} {start k : Nat} {root : Int}
theorem inc_not {i v : Nat} (h : Inc bs i v) : ¬ ((bs.getD i default).a ≠ (v : Int) ∧ (bs.getD i default).b ≠ (v : Int)) := fun h2 => by
  rcases h with h | h
  · exact h2.1 h
  · exact h2.2 h
/-- The node that is looked at, and the branches before i are done. -/
structure Grow (bs : List FBr) (s : Fst) (start k i v : Nat) (root : Int) : Prop where
  ph : Phase bs s start k root
  at_ : s.order[k]? = some v
  brs : ∀ j, j < i → Inc bs j v → otherN (bs.getD j default) v ∈ s.order ∧ s.low.getD (otherN (bs.getD j default) v) 0 = root
theorem growStep_grow (hn : NetOk N bs) (hs : FstOk N bs s) (hk : start ≤ k) {i v : Nat} (hi : i < bs.length) (h : Grow bs s start k i v root) : Grow bs (growStep bs v i s) start k (i + 1) v root := by
  have hv : v ∈ s.order := List.mem_of_getElem? h.at_
  have hkl := (List.getElem?_eq_some_iff.1 h.at_).1
  have hlow : s.low.getD v 0 = root := h.ph.cur k v hk h.at_
  unfold growStep
  dsimp only
  by_cases hx : (bs.getD i default).a ≠ (v : Int) ∧ (bs.getD i default).b ≠ (v : Int)
  · rw [if_pos hx]
    refine ⟨h.ph, h.at_, fun j hj hI => ?_⟩
    by_cases e : j = i
    · subst e; exact absurd hx (inc_not hI)
    · exact h.brs j (by omega) hI
  · rw [if_neg hx]
    obtain ⟨o1, o2, o3, o4, o5⟩ := other_ok hn hi hx
    have ho5 : Inc bs i (otherN (bs.getD i default) v) := o5
    by_cases h0 : s.low.getD (otherN (bs.getD i default) v) 0 = -1
    · rw [if_pos h0]
      have hnew : otherN (bs.getD i default) v ∉ s.order := fun hm => ((hs.mem _).1 hm).2 h0
      have keep : ∀ u, u ∈ s.order → (s.low.set (otherN (bs.getD i default) v) (s.low.getD v 0)).getD u 0 = s.low.getD u 0 := fun u hu => by
        rw [getD_set, if_neg (by rintro ⟨e, _⟩; subst e; exact hnew hu)]
      have hset : (s.low.set (otherN (bs.getD i default) v) (s.low.getD v 0)).getD (otherN (bs.getD i default) v) 0 = root := by
        rw [getD_set, if_pos ⟨rfl, by rw [hs.ll]; exact o1⟩]
        exact hlow
      have app : ∀ p u, p < s.order.length → (s.order ++ [otherN (bs.getD i default) v])[p]? = some u → s.order[p]? = some u := fun p u hp he => by
        rwa [List.getElem?_append_left hp] at he
      refine ⟨⟨fun p u hp he j hj hI => ?_, fun p u hp he => ?_, fun p u hp he j hj hI => ?_⟩, ?_, fun j hj hI => ?_⟩
      · have he' := app p u (by omega) he
        obtain ⟨g1, g2⟩ := h.ph.done p u hp he' j hj hI
        refine ⟨List.mem_append_left _ g1, ?_⟩
        dsimp only
        rw [keep _ g1, keep _ (List.mem_of_getElem? he')]
        exact g2
      · dsimp only at he ⊢
        by_cases hlt : p < s.order.length
        · have he' := app p u hlt he
          rw [keep _ (List.mem_of_getElem? he')]
          exact h.ph.cur p u hp he'
        · rw [List.getElem?_append_right (by omega)] at he
          have h6 := List.mem_of_getElem? he
          rw [List.mem_singleton] at h6
          rw [h6]
          exact hset
      · have he' := app p u (by omega) he
        obtain ⟨q, g1, g2⟩ := h.ph.old p u hp he' j hj hI
        exact ⟨q, g1, by dsimp only; rw [List.getElem?_append_left (List.getElem?_eq_some_iff.1 g2).1]; exact g2⟩
      · dsimp only
        rw [List.getElem?_append_left hkl]
        exact h.at_
      · dsimp only
        by_cases e : j = i
        · subst e
          exact ⟨List.mem_append_right _ (List.mem_singleton.2 rfl), hset⟩
        · obtain ⟨g1, g2⟩ := h.brs j (by omega) hI
          exact ⟨List.mem_append_left _ g1, by rw [keep _ g1]; exact g2⟩
    · rw [if_neg h0]
      refine ⟨h.ph, h.at_, fun j hj hI => ?_⟩
      by_cases e : j = i
      · subst e
        have hm : otherN (bs.getD j default) v ∈ s.order := (hs.mem _).2 ⟨o1, h0⟩
        refine ⟨hm, ?_⟩
        obtain ⟨p, hp, hpe⟩ := List.getElem_of_mem hm
        have hp2 : s.order[p]? = some (otherN (bs.getD j default) v) := by rw [List.getElem?_eq_getElem hp, hpe]
        by_cases hps : p < start
        · obtain ⟨q, g1, g2⟩ := h.ph.old p _ hps hp2 j hi ho5
          rw [o4] at g2
          have h7 := (List.getElem?_eq_some_iff.1 g2)
          have h8 := (List.getElem?_eq_some_iff.1 h.at_)
          obtain ⟨h7, h9⟩ := h7
          obtain ⟨h8, h10⟩ := h8
          have := nodup_inj hs.nodup h7 h8 (h9.trans h10.symm)
          omega
        · exact h.ph.cur p _ (by omega) hp2
      · exact h.brs j (by omega) hI
theorem growTo_grow (hn : NetOk N bs) (hs : FstOk N bs s) (hk : start ≤ k) {v : Nat} (h : Grow bs s start k 0 v root) : ∀ {i : Nat}, i ≤ bs.length → Grow bs (growTo bs v i s) start k i v root
  | 0, _ => h
  | _ + 1, hi => growStep_grow hn (growTo_ok hn hs (List.mem_of_getElem? h.at_) (Nat.le_of_succ_le hi)) hk hi (growTo_grow hn hs hk h (Nat.le_of_succ_le hi))
theorem grow_done (hn : NetOk N bs) (hs : FstOk N bs s) (hk : start ≤ k) {v : Nat} (h : Phase bs s start k root) (hv : s.order[k]? = some v) : Phase bs (growV bs v s) start (k + 1) root := by
  have h1 := growTo_grow hn hs hk (v := v) ⟨h, hv, fun j hj => absurd hj (Nat.not_lt_zero _)⟩ (Nat.le_refl _)
  have hk2 : (growV bs v s).order[k]? = some v := h1.at_
  refine ⟨fun p u hp he i hi hI => ?_, h1.ph.cur, h1.ph.old⟩
  by_cases e : p = k
  · subst e
    have e2 : v = u := Option.some.inj (hk2.symm.trans he)
    subst e2
    obtain ⟨g1, g2⟩ := h1.brs i hi hI
    exact ⟨g1, g2.trans (h1.ph.cur p v hk hk2).symm⟩
  · exact h1.ph.done p u (by omega) he i hi hI
theorem queue_done (hn : NetOk N bs) : ∀ {f k : Nat} {s : Fst}, FstOk N bs s → start ≤ k → N ≤ f + k → k ≤ s.order.length → Phase bs s start k root → Phase bs (queueV bs f k s) start (queueV bs f k s).order.length root
  | 0, k, s, hs, _, hf, hl, h => by
    have := hs.len
    rw [queueV, show s.order.length = k by omega]
    exact h
  | f + 1, k, s, hs, hk, hf, hl, h => by
    rw [queueV]
    by_cases hlt : k < s.order.length
    · rw [if_pos hlt]
      have hv : s.order[k]? = some (s.order.getD k 0) := by rw [List.getD_eq_getElem?_getD, List.getElem?_eq_getElem hlt]; rfl
      refine queue_done hn (growTo_ok hn hs (List.mem_of_getElem? hv) (Nat.le_refl _)) (by omega) (by omega) ?_ (grow_done hn hs hk h hv)
      exact Nat.le_trans hlt (growTo_pre bs _ s bs.length).length_le
    · rw [if_neg hlt]
      rw [show s.order.length = k by omega]
      exact h
/-- All nodes so far are done, and their neighbours are there. -/
def Closed (bs : List FBr) (s : Fst) : Prop := ∀ v, v ∈ s.order → ∀ i, i < bs.length → Inc bs i v → otherN (bs.getD i default) v ∈ s.order ∧ s.low.getD (otherN (bs.getD i default) v) 0 = s.low.getD v 0
theorem rootsTo_closed (hn : NetOk N bs) : ∀ {k : Nat}, k ≤ N → Closed bs (rootsTo bs N k)
  | 0, _ => fun v hv => by simp [rootsTo] at hv
  | k + 1, hk => by
    have ih := rootsTo_closed hn (show k ≤ N by omega)
    have ok := rootsTo_ok hn (show k ≤ N by omega)
    rw [rootsTo, rootStep]
    by_cases h0 : (rootsTo bs N k).low.getD k 0 = -1
    · rw [if_neg (by simpa using h0)]
      generalize rootsTo bs N k = s at *
      have hnew : k ∉ s.order := fun hm => ((ok.mem _).1 hm).2 h0
      have keep : ∀ u, u ∈ s.order → (s.low.set k (k : Int)).getD u 0 = s.low.getD u 0 := fun u hu => by
        rw [getD_set, if_neg (by rintro ⟨e, _⟩; subst e; exact hnew hu)]
      have app : ∀ p u, p < s.order.length → (s.order ++ [k])[p]? = some u → s.order[p]? = some u := fun p u hp he => by
        rwa [List.getElem?_append_left hp] at he
      have hP : Phase bs ⟨s.low.set k (k : Int), s.hangs, s.order ++ [k]⟩ s.order.length s.order.length (k : Int) := by
        refine ⟨fun p u hp he i hi hI => ?_, fun p u hp he => ?_, fun p u hp he i hi hI => ?_⟩
        · have he' := app p u hp he
          obtain ⟨g1, g2⟩ := ih u (List.mem_of_getElem? he') i hi hI
          refine ⟨List.mem_append_left _ g1, ?_⟩
          dsimp only
          rw [keep _ g1, keep _ (List.mem_of_getElem? he')]
          exact g2
        · dsimp only at he ⊢
          rw [List.getElem?_append_right hp] at he
          have h6 := List.mem_of_getElem? he
          rw [List.mem_singleton] at h6
          rw [h6, getD_set, if_pos ⟨rfl, by rw [ok.ll]; omega⟩]
        · have he' := app p u hp he
          obtain ⟨g1, _⟩ := ih u (List.mem_of_getElem? he') i hi hI
          obtain ⟨q, hq, hqe⟩ := List.getElem_of_mem g1
          exact ⟨q, hq, by dsimp only; rw [List.getElem?_append_left hq, List.getElem?_eq_getElem hq, hqe]⟩
      have hD := queue_done hn (f := N) (ok.root (by omega) h0) (Nat.le_refl _) (by omega) (by simp) hP
      intro v hv i hi hI
      obtain ⟨p, hp, hpe⟩ := List.getElem_of_mem hv
      exact hD.done p v hp (by rw [List.getElem?_eq_getElem hp, hpe]) i hi hI
    · rw [if_pos h0]
      exact ih
/-- Both nodes of a branch belong to one part. -/
theorem forest_low (hn : NetOk N bs) {x : FBr} (hx : x ∈ bs) : (forestV bs N).low.getD x.a.toNat 0 = (forestV bs N).low.getD x.b.toNat 0 := by
  obtain ⟨i, hi, e⟩ := List.getElem_of_mem hx
  have e2 : bs.getD i default = x := by rw [List.getD_eq_getElem?_getD, List.getElem?_eq_getElem hi]; exact e
  obtain ⟨h1, h2, h3, _⟩ := hn.br x hx
  have hI : Inc bs i x.a.toNat := by unfold Inc; rw [e2]; left; omega
  have h4 := (rootsTo_closed hn (Nat.le_refl N) x.a.toNat (forest_all hn (by omega)) i hi hI).2
  have h5 : otherN (bs.getD i default) x.a.toNat = x.b.toNat := by rw [e2]; unfold otherN; omega
  rw [h5] at h4
  exact h4.symm
end
/-- A node that hangs on no branch is the lowest one of its part. -/
def RootOk (N : Nat) (s : Fst) : Prop := ∀ k, k < N → s.low.getD k 0 ≠ -1 → s.hangs.getD k 0 = -1 → s.low.getD k 0 = (k : Int)
section
variable {N : Nat} {bs : List FBr} {s : Fst}
theorem growStep_root (hn : NetOk N bs) (hs : FstOk N bs s) (h : RootOk N s) {v i : Nat} (hi : i < bs.length) : RootOk N (growStep bs v i s) := by
  unfold growStep
  dsimp only
  by_cases hx : (bs.getD i default).a ≠ (v : Int) ∧ (bs.getD i default).b ≠ (v : Int)
  · rw [if_pos hx]; exact h
  · rw [if_neg hx]
    by_cases h0 : s.low.getD (otherN (bs.getD i default) v) 0 = -1
    · rw [if_pos h0]
      obtain ⟨o1, _⟩ := other_ok hn hi hx
      intro k hk h1 h2
      dsimp only at h1 h2 ⊢
      rw [getD_set] at h1 h2 ⊢
      by_cases e : otherN (bs.getD i default) v = k
      · rw [if_pos ⟨e, by rw [hs.hl]; exact o1⟩] at h2
        omega
      · rw [if_neg fun h3 => e h3.1] at h1 h2 ⊢
        exact h k hk h1 h2
    · rw [if_neg h0]; exact h
theorem growTo_root (hn : NetOk N bs) (hs : FstOk N bs s) (h : RootOk N s) {v : Nat} (hv : v ∈ s.order) : ∀ {i : Nat}, i ≤ bs.length → RootOk N (growTo bs v i s)
  | 0, _ => h
  | _ + 1, hi => growStep_root hn (growTo_ok hn hs hv (Nat.le_of_succ_le hi)) (growTo_root hn hs h hv (Nat.le_of_succ_le hi)) hi
theorem queueV_root (hn : NetOk N bs) : ∀ {f k : Nat} {s : Fst}, FstOk N bs s → RootOk N s → RootOk N (queueV bs f k s)
  | 0, _, _, _, h => h
  | f + 1, k, s, hs, h => by
    rw [queueV]
    by_cases hk : k < s.order.length
    · rw [if_pos hk]
      have hv : s.order.getD k 0 ∈ s.order := by
        rw [List.getD_eq_getElem?_getD, List.getElem?_eq_getElem hk]
        exact List.getElem_mem hk
      exact queueV_root hn (growTo_ok hn hs hv (Nat.le_refl _)) (growTo_root hn hs h hv (Nat.le_refl _))
    · rw [if_neg hk]
      exact h
theorem rootsTo_root (hn : NetOk N bs) : ∀ {k : Nat}, k ≤ N → RootOk N (rootsTo bs N k)
  | 0, _ => fun j hj h1 _ => by simp [rootsTo, List.getD, hj] at h1
  | k + 1, hk => by
    have ih := rootsTo_root hn (show k ≤ N by omega)
    have ok := rootsTo_ok hn (show k ≤ N by omega)
    rw [rootsTo, rootStep]
    by_cases h0 : (rootsTo bs N k).low.getD k 0 = -1
    · rw [if_neg (by simpa using h0)]
      refine queueV_root hn (ok.root (by omega) h0) fun j hj h1 h2 => ?_
      dsimp only at h1 h2 ⊢
      rw [getD_set] at h1 ⊢
      by_cases e : k = j ∧ k < (rootsTo bs N k).low.length
      · rw [if_pos e, e.1]
      · rw [if_neg e] at h1 ⊢
        exact ih j hj h1 h2
    · rw [if_pos h0]
      exact ih
theorem low_root (hn : NetOk N bs) {k : Nat} (hk : k < N) (h : (forestV bs N).hangs.getD k 0 = -1) : (forestV bs N).low.getD k 0 = (k : Int) :=
  rootsTo_root hn (Nat.le_refl N) k hk (((forest_ok hn).mem k).1 (forest_all hn hk)).2 h
end
end Go.Proofs.Ytapegimghfflhaa
end
