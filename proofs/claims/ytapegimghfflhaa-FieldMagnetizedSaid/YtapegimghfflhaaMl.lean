/- Plain facts on networks: each loop has a branch of its own; its numbers are -1, 0 or 1; it has no other branches than those of the forest (chapter 3). No condition. -/
import Derived.Test.YtapegimghfflhaaMk

section
namespace Go.Proofs.Ytapegimghfflhaa

/-- What the climb adds to the number of a branch, but for the sign. -/
def wayV (bs : List FBr) (hangs : List Int) (j : Nat) : Nat → Nat → Int
  | 0, _ => 0
  | f + 1, at_ => if hangs.getD at_ 0 = -1 then 0 else
      (if (hangs.getD at_ 0).toNat = j then (if (bs.getD j default).a = (at_ : Int) then 1 else -1) else 0) + wayV bs hangs j f (otherN (bs.getD (hangs.getD at_ 0).toNat default) at_)
section
variable {N : Nat} {bs : List FBr} {s : Fst}
theorem climb_way (h : FstOk N bs s) (sg : Int) {j : Nat} (hj : j < bs.length) : ∀ (f : Nat) (v : List Int) {at_ p : Nat}, v.length = bs.length → s.order[p]? = some at_ → (climbV bs s.hangs sg f v at_).getD j 0 = v.getD j 0 + sg * wayV bs s.hangs j f at_
  | 0, v, _, _, _, _ => by simp [climbV, wayV]
  | f + 1, v, at_, p, hv, hp => by
    rw [climbV, wayV]
    by_cases h0 : s.hangs.getD at_ 0 = -1
    · rw [if_pos h0, if_pos h0]; omega
    · rw [if_neg h0, if_neg h0]
      obtain ⟨i, g1, g2, g3, g4, q, g5, g6⟩ := climb_next h hp h0
      rw [g1, Int.toNat_natCast]
      rw [climb_way h sg hj f _ (by rw [List.length_set]; exact hv) g6, getD_set]
      by_cases e : i = j
      · subst e
        rw [if_pos ⟨rfl, by omega⟩, if_pos rfl]
        split <;> grind
      · rw [if_neg fun h2 => e h2.1, if_neg e]
        grind
/-- One node at most hangs on a branch. -/
theorem hang_one (h : FstOk N bs s) {k k' p p' : Nat} {i : Nat} (hk : s.order[p]? = some k) (hk' : s.order[p']? = some k') (e : s.hangs.getD k 0 = (i : Int)) (e' : s.hangs.getD k' 0 = (i : Int)) : k = k' := by
  have hm := (h.mem k).1 (List.mem_of_getElem? hk)
  have hm' := (h.mem k').1 (List.mem_of_getElem? hk')
  rcases h.hang k hm.1 with h2 | ⟨i1, j1, p1, g1, g2, g3, g4, g5, g6⟩
  · omega
  rcases h.hang k' hm'.1 with h2 | ⟨i2, j2, p2, f1, f2, f3, f4, f5, f6⟩
  · omega
  obtain rfl : i1 = i := by omega
  obtain rfl : i2 = i1 := by omega
  by_cases heq : k = k'
  · exact heq
  · exfalso
    have hother : otherN (bs.getD i2 default) k = k' := by unfold otherN; omega
    have hother' : otherN (bs.getD i2 default) k' = k := by unfold otherN; omega
    rw [hother] at g5
    rw [hother'] at f5
    have a1 := List.getElem?_eq_some_iff.1 g3
    have a2 := List.getElem?_eq_some_iff.1 f5
    have a3 := List.getElem?_eq_some_iff.1 g5
    have a4 := List.getElem?_eq_some_iff.1 f3
    obtain ⟨a1, b1⟩ := a1
    obtain ⟨a2, b2⟩ := a2
    obtain ⟨a3, b3⟩ := a3
    obtain ⟨a4, b4⟩ := a4
    have c1 := nodup_inj h.nodup a1 a2 (b1.trans b2.symm)
    have c2 := nodup_inj h.nodup a3 a4 (b3.trans b4.symm)
    omega
/-- A climb from before a node does not pass the branch it hangs on. -/
theorem way_before (h : FstOk N bs s) {j k pk : Nat} (hk : s.order[pk]? = some k) (e : s.hangs.getD k 0 = (j : Int)) : ∀ (f : Nat) {at_ p : Nat}, s.order[p]? = some at_ → p < pk → wayV bs s.hangs j f at_ = 0
  | 0, _, _, _, _ => rfl
  | f + 1, at_, p, hp, hlt => by
    rw [wayV]
    by_cases h0 : s.hangs.getD at_ 0 = -1
    · rw [if_pos h0]
    · rw [if_neg h0]
      obtain ⟨i, g1, g2, g3, g4, q, g5, g6⟩ := climb_next h hp h0
      rw [g1, Int.toNat_natCast, way_before h hk e f g6 (by omega)]
      by_cases e2 : i = j
      · subst e2
        have e3 := hang_one h hp hk g1 e
        subst e3
        obtain ⟨a1, b1⟩ := List.getElem?_eq_some_iff.1 hp
        obtain ⟨a2, b2⟩ := List.getElem?_eq_some_iff.1 hk
        have := nodup_inj h.nodup a1 a2 (b1.trans b2.symm)
        omega
      · rw [if_neg e2]; rfl
theorem way_off (h : FstOk N bs s) {j : Nat} (hj : ∀ k, k < N → s.hangs.getD k 0 ≠ (j : Int)) : ∀ (f : Nat) {at_ p : Nat}, s.order[p]? = some at_ → wayV bs s.hangs j f at_ = 0
  | 0, _, _, _ => rfl
  | f + 1, at_, p, hp => by
    rw [wayV]
    by_cases h0 : s.hangs.getD at_ 0 = -1
    · rw [if_pos h0]
    · rw [if_neg h0]
      obtain ⟨i, g1, g2, g3, g4, q, g5, g6⟩ := climb_next h hp h0
      have hne : i ≠ j := fun e => hj at_ g3 (by rw [g1, e])
      rw [g1, Int.toNat_natCast, way_off h hj f g6, if_neg hne]
      rfl
theorem way_on (h : FstOk N bs s) {j k pk : Nat} (hk : s.order[pk]? = some k) (e : s.hangs.getD k 0 = (j : Int)) : ∀ (f : Nat) {at_ p : Nat}, s.order[p]? = some at_ → wayV bs s.hangs j f at_ = 0 ∨ wayV bs s.hangs j f at_ = if (bs.getD j default).a = (k : Int) then 1 else -1
  | 0, _, _, _ => .inl rfl
  | f + 1, at_, p, hp => by
    rw [wayV]
    by_cases h0 : s.hangs.getD at_ 0 = -1
    · rw [if_pos h0]; exact .inl rfl
    · rw [if_neg h0]
      obtain ⟨i, g1, g2, g3, g4, q, g5, g6⟩ := climb_next h hp h0
      rw [g1, Int.toNat_natCast]
      by_cases e2 : i = j
      · subst e2
        have e3 := hang_one h hp hk g1 e
        subst e3
        obtain ⟨a1, b1⟩ := List.getElem?_eq_some_iff.1 hp
        obtain ⟨a2, b2⟩ := List.getElem?_eq_some_iff.1 hk
        have e4 := nodup_inj h.nodup a1 a2 (b1.trans b2.symm)
        rw [if_pos rfl, way_before h hk e f g6 (by omega), Int.add_zero]
        exact .inr rfl
      · rw [if_neg e2, Int.zero_add]
        exact way_on h hk e f g6
theorem loop_way (h : FstOk N bs s) {i j pa pb : Nat} (hj : j < bs.length) (ha : s.order[pa]? = some (bs.getD i default).a.toNat) (hb : s.order[pb]? = some (bs.getD i default).b.toNat) : (loopV bs s.hangs N i).getD j 0 = (if i = j then 1 else 0) + wayV bs s.hangs j N (bs.getD i default).b.toNat - wayV bs s.hangs j N (bs.getD i default).a.toNat := by
  unfold loopV
  rw [climb_way h (-1) hj N _ (by rw [climb_len, List.length_set, List.length_replicate]) ha, climb_way h 1 hj N _ (by rw [List.length_set, List.length_replicate]) hb, getD_set]
  have h1 : (List.replicate bs.length (0 : Int)).getD j 0 = 0 := by
    simp only [List.getD, List.getElem?_replicate]
    split <;> rfl
  rw [h1, List.length_replicate]
  by_cases e : i = j
  · rw [if_pos ⟨e, by omega⟩, if_pos e]; omega
  · rw [if_neg fun h2 => e h2.1, if_neg e]; omega
theorem br_pos (hn : NetOk N bs) {i : Nat} (hi : i < bs.length) : ∃ pa pb : Nat, (forestV bs N).order[pa]? = some (bs.getD i default).a.toNat ∧ (forestV bs N).order[pb]? = some (bs.getD i default).b.toNat := by
  have hm : bs.getD i default ∈ bs := by
    rw [List.getD_eq_getElem?_getD, List.getElem?_eq_getElem hi]
    exact List.getElem_mem hi
  obtain ⟨h1, h2, _⟩ := hn.br _ hm
  obtain ⟨p, hp, e⟩ := List.getElem_of_mem (forest_all hn (show (bs.getD i default).a.toNat < N by omega))
  obtain ⟨q, hq, e2⟩ := List.getElem_of_mem (forest_all hn (show (bs.getD i default).b.toNat < N by omega))
  exact ⟨p, q, by rw [List.getElem?_eq_getElem hp, e], by rw [List.getElem?_eq_getElem hq, e2]⟩
theorem has_iff (l : List Int) (n : Int) : hasC l n = true ↔ n ∈ l := by
  unfold hasC
  rw [List.any_eq_true]
  constructor
  · rintro ⟨x, hx, e⟩
    rw [beq_iff_eq] at e
    exact e ▸ hx
  · exact fun h => ⟨n, h, beq_self_eq_true n⟩
theorem not_has (h : FstOk N bs s) {j : Nat} (hj : hasC s.hangs (j : Int) = false) : ∀ k, k < N → s.hangs.getD k 0 ≠ (j : Int) := fun k hk e => by
  have h1 : (j : Int) ∈ s.hangs := by
    rw [List.getD_eq_getElem?_getD, List.getElem?_eq_getElem (by rw [h.hl]; exact hk)] at e
    exact e ▸ List.getElem_mem _
  rw [(has_iff _ _).2 h1] at hj
  cases hj
theorem has_node (h : FstOk N bs s) {j : Nat} (hj : hasC s.hangs (j : Int) = true) : ∃ k pk : Nat, s.order[pk]? = some k ∧ s.hangs.getD k 0 = (j : Int) := by
  obtain ⟨k, hk, e⟩ := List.getElem_of_mem ((has_iff _ _).1 hj)
  have hk' : k < N := by rw [← h.hl]; exact hk
  have e2 : s.hangs.getD k 0 = (j : Int) := by rw [List.getD_eq_getElem?_getD, List.getElem?_eq_getElem hk]; exact e
  rcases h.hang k hk' with h2 | ⟨i, j', p, g1, g2, g3, g4, g5, g6⟩
  · omega
  · exact ⟨k, p, g3, e2⟩
/-- At a branch on which no node hangs a loop has 1 for its own, else 0; everywhere -1, 0 or 1. -/
theorem loop_chord (hn : NetOk N bs) {i j : Nat} (hi : i < bs.length) (hj : j < bs.length) (hc : hasC (forestV bs N).hangs (j : Int) = false) : (loopV bs (forestV bs N).hangs N i).getD j 0 = if i = j then 1 else 0 := by
  obtain ⟨pa, pb, ha, hb⟩ := br_pos hn hi
  rw [loop_way (forest_ok hn) hj ha hb, way_off (forest_ok hn) (not_has (forest_ok hn) hc) N ha, way_off (forest_ok hn) (not_has (forest_ok hn) hc) N hb]
  omega
theorem loop_tree (hn : NetOk N bs) {i j : Nat} (hi : i < bs.length) (hci : hasC (forestV bs N).hangs (i : Int) = false) (hj : j < bs.length) : -1 ≤ (loopV bs (forestV bs N).hangs N i).getD j 0 ∧ (loopV bs (forestV bs N).hangs N i).getD j 0 ≤ 1 := by
  cases hc : hasC (forestV bs N).hangs (j : Int) with
  | false =>
    rw [loop_chord hn hi hj hc]
    split <;> decide
  | true =>
    obtain ⟨pa, pb, ha, hb⟩ := br_pos hn hi
    obtain ⟨k, pk, hk, e⟩ := has_node (forest_ok hn) hc
    have hne : ¬ i = j := fun e2 => by rw [e2, hc] at hci; cases hci
    rw [loop_way (forest_ok hn) hj ha hb, if_neg hne]
    rcases way_on (forest_ok hn) hk e N ha with h1 | h1 <;> rcases way_on (forest_ok hn) hk e N hb with h2 | h2 <;> rw [h1, h2] <;> first | decide | (split <;> decide)
/-- The branches of the loops. -/
def chordsTo (hangs : List Int) : Nat → List Nat
  | 0 => []
  | i + 1 => if hasC hangs (i : Int) then chordsTo hangs i else chordsTo hangs i ++ [i]
theorem loopsTo_map (bs : List FBr) (hangs : List Int) (N : Nat) : ∀ k, loopsTo bs hangs N k = (chordsTo hangs k).map (loopV bs hangs N)
  | 0 => rfl
  | k + 1 => by
    rw [loopsTo, chordsTo, loopsTo_map bs hangs N k]
    split
    · rfl
    · rw [List.map_append]; rfl
theorem chordsTo_mem (hangs : List Int) : ∀ {k i : Nat}, i ∈ chordsTo hangs k ↔ i < k ∧ hasC hangs (i : Int) = false
  | 0, i => by simp [chordsTo]
  | k + 1, i => by
    rw [chordsTo]
    cases hc : hasC hangs (k : Int) with
    | true =>
      rw [if_pos rfl, chordsTo_mem hangs]
      constructor
      · exact fun h => ⟨by omega, h.2⟩
      · rintro ⟨h1, h2⟩
        have : i ≠ k := fun e => by rw [e, hc] at h2; cases h2
        exact ⟨by omega, h2⟩
    | false =>
      rw [if_neg (by decide), List.mem_append, List.mem_singleton, chordsTo_mem hangs]
      constructor
      · rintro (h | h)
        · exact ⟨by omega, h.2⟩
        · rw [h]; exact ⟨by omega, hc⟩
      · rintro ⟨h1, h2⟩
        by_cases e : i = k
        · exact .inr e
        · exact .inl ⟨by omega, h2⟩
theorem chordsTo_nodup (hangs : List Int) : ∀ k, (chordsTo hangs k).Nodup
  | 0 => List.nodup_nil
  | k + 1 => by
    rw [chordsTo]
    split
    · exact chordsTo_nodup hangs k
    · rw [List.nodup_append]
      refine ⟨chordsTo_nodup hangs k, by simp, fun a ha b hb e => ?_⟩
      rw [List.mem_singleton] at hb
      have := ((chordsTo_mem hangs).1 ha).1
      omega
/-- The number of branches on which a node hangs. -/
def treeTo (hangs : List Int) : Nat → Nat
  | 0 => 0
  | i + 1 => treeTo hangs i + if hasC hangs (i : Int) then 1 else 0
theorem chords_tree (hangs : List Int) : ∀ k, (chordsTo hangs k).length + treeTo hangs k = k
  | 0 => rfl
  | k + 1 => by
    have := chords_tree hangs k
    rw [chordsTo, treeTo]
    split
    · omega
    · rw [List.length_append, List.length_singleton]; omega
theorem loopsV_len (bs : List FBr) (N : Nat) : (loopsV bs N).length = (chordsTo (forestV bs N).hangs bs.length).length := by
  unfold loopsV
  rw [loopsTo_map, List.length_map]
theorem loopsV_at (bs : List FBr) (N : Nat) {p : Nat} (hp : p < (loopsV bs N).length) : (loopsV bs N).getD p [] = loopV bs (forestV bs N).hangs N ((chordsTo (forestV bs N).hangs bs.length).getD p 0) := by
  have hp2 : p < (chordsTo (forestV bs N).hangs bs.length).length := by rw [← loopsV_len]; exact hp
  unfold loopsV
  rw [loopsTo_map, List.getD_eq_getElem?_getD, List.getElem?_map, List.getD_eq_getElem?_getD, List.getElem?_eq_getElem hp2]
  rfl
theorem chord_at (bs : List FBr) (N : Nat) {p : Nat} (hp : p < (loopsV bs N).length) : (chordsTo (forestV bs N).hangs bs.length).getD p 0 < bs.length ∧ hasC (forestV bs N).hangs (((chordsTo (forestV bs N).hangs bs.length).getD p 0 : Nat) : Int) = false := by
  have hp2 : p < (chordsTo (forestV bs N).hangs bs.length).length := by rw [← loopsV_len]; exact hp
  refine (chordsTo_mem _).1 ?_
  rw [List.getD_eq_getElem?_getD, List.getElem?_eq_getElem hp2]
  exact List.getElem_mem hp2
theorem chord_inj (bs : List FBr) (N : Nat) {p q : Nat} (hp : p < (loopsV bs N).length) (hq : q < (loopsV bs N).length) (e : (chordsTo (forestV bs N).hangs bs.length).getD p 0 = (chordsTo (forestV bs N).hangs bs.length).getD q 0) : p = q := by
  have hp2 : p < (chordsTo (forestV bs N).hangs bs.length).length := by rw [← loopsV_len]; exact hp
  have hq2 : q < (chordsTo (forestV bs N).hangs bs.length).length := by rw [← loopsV_len]; exact hq
  rw [List.getD_eq_getElem?_getD, List.getD_eq_getElem?_getD, List.getElem?_eq_getElem hp2, List.getElem?_eq_getElem hq2] at e
  exact nodup_inj (chordsTo_nodup _ _) hp2 hq2 e
/-- A network with branches has a node that hangs on one. -/
theorem tree_pos (hn : NetOk N bs) (hm : 0 < bs.length) : 0 < treeTo (forestV bs N).hangs bs.length := by
  have hall : ∀ k, treeTo (forestV bs N).hangs k = 0 → ∀ i, i < k → hasC (forestV bs N).hangs (i : Int) = false := by
    intro k
    induction k with
    | zero => exact fun _ i hi => absurd hi (Nat.not_lt_zero _)
    | succ k ih =>
      intro h i hi
      rw [treeTo] at h
      by_cases e : i = k
      · subst e
        cases hc : hasC (forestV bs N).hangs (i : Int) with
        | false => rfl
        | true => rw [hc] at h; simp at h
      · exact ih (by omega) i (by omega)
  refine Nat.pos_of_ne_zero fun h0 => ?_
  have hx : bs.getD 0 default ∈ bs := by
    rw [List.getD_eq_getElem?_getD, List.getElem?_eq_getElem hm]
    exact List.getElem_mem hm
  obtain ⟨h1, h2, h3, _⟩ := hn.br _ hx
  have hlow := forest_low hn hx
  have hroot : ∀ k, k < N → (forestV bs N).low.getD k 0 = (k : Int) := fun k hk => low_root hn hk (by
    rcases (forest_ok hn).hang k hk with h | ⟨i, j, p, g1, g2, _⟩
    · exact h
    · exact absurd g1 (not_has (forest_ok hn) (hall _ h0 i g2) k hk))
  rw [hroot _ (by omega), hroot _ (by omega)] at hlow
  omega
end
end Go.Proofs.Ytapegimghfflhaa
end
