/- Plain facts on networks: errors, the forest, loops, fluxes (chapter 3). No condition.
Plain facts on networks: loops, sums, elimination, fluxes, the solution (chapter 3). No condition. -/
import Derived.Test.YtapegimghfflhaaM4

section
namespace Go.Proofs.Ytapegimghfflhaa

/-- A branch: from, to, reluctance, ampere turns. -/
structure FBr where
  a : Int
  b : Int
  r : Int
  t : Int
deriving Inhabited
def isNodeB (N k : Int) : Bool := withinB k 0 (N - 1)
def netE1 (N : Int) (m : Nat) : Int := firstV [unlessV (withinB N 1 5) 2, unlessV (decide ((m : Int) ≤ 7)) 8]
def brErr (N : Int) (x : FBr) : Int := firstV [unlessV (isNodeB N x.a && isNodeB N x.b) 6, unlessV (x.a != x.b) 3, unlessV (withinB x.r 1 20 && withinB x.t (-50) 50) 2]
/-- A valid network. -/
structure NetOk (N : Nat) (bs : List FBr) : Prop where
  n : 1 ≤ N ∧ N ≤ 5
  m : bs.length ≤ 7
  br : ∀ x ∈ bs, (0 ≤ x.a ∧ x.a < (N : Int)) ∧ (0 ≤ x.b ∧ x.b < (N : Int)) ∧ x.a ≠ x.b ∧ (1 ≤ x.r ∧ x.r ≤ 20) ∧ -50 ≤ x.t ∧ x.t ≤ 50

/-- The forest while it grows. -/
structure Fst where
  low : List Int
  hangs : List Int
  order : List Nat
deriving Inhabited
def otherN (x : FBr) (at_ : Nat) : Nat := (x.a + x.b - (at_ : Int)).toNat
def growStep (bs : List FBr) (at_ i : Nat) (s : Fst) : Fst :=
  let x := bs.getD i default
  if x.a ≠ (at_ : Int) ∧ x.b ≠ (at_ : Int) then s
  else if s.low.getD (otherN x at_) 0 = -1 then ⟨s.low.set (otherN x at_) (s.low.getD at_ 0), s.hangs.set (otherN x at_) (i : Int), s.order ++ [otherN x at_]⟩ else s
def growTo (bs : List FBr) (at_ : Nat) : Nat → Fst → Fst
  | 0, s => s
  | i + 1, s => growStep bs at_ i (growTo bs at_ i s)
def growV (bs : List FBr) (at_ : Nat) (s : Fst) : Fst := growTo bs at_ bs.length s
def queueV (bs : List FBr) : Nat → Nat → Fst → Fst
  | 0, _, s => s
  | f + 1, k, s => if k < s.order.length then queueV bs f (k + 1) (growV bs (s.order.getD k 0) s) else s
def rootStep (bs : List FBr) (N root : Nat) (s : Fst) : Fst :=
  if s.low.getD root 0 ≠ -1 then s else queueV bs N s.order.length ⟨s.low.set root (root : Int), s.hangs, s.order ++ [root]⟩
def rootsTo (bs : List FBr) (N : Nat) : Nat → Fst
  | 0 => ⟨List.replicate N (-1), List.replicate N (-1), []⟩
  | k + 1 => rootStep bs N k (rootsTo bs N k)
def forestV (bs : List FBr) (N : Nat) : Fst := rootsTo bs N N

/-- What holds of the forest while it grows. -/
structure FstOk (N : Nat) (bs : List FBr) (s : Fst) : Prop where
  ll : s.low.length = N
  hl : s.hangs.length = N
  low : ∀ k, k < N → s.low.getD k 0 = -1 ∨ (0 ≤ s.low.getD k 0 ∧ s.low.getD k 0 < (N : Int))
  nodup : s.order.Nodup
  mem : ∀ k, k ∈ s.order ↔ k < N ∧ s.low.getD k 0 ≠ -1
  hang : ∀ k, k < N → s.hangs.getD k 0 = -1 ∨ ∃ i j p : Nat, s.hangs.getD k 0 = (i : Int) ∧ i < bs.length ∧ s.order[p]? = some k ∧ j < p ∧ s.order[j]? = some (otherN (bs.getD i default) k) ∧ (((bs.getD i default).a = (k : Int)) ∨ (bs.getD i default).b = (k : Int))
section
variable {N : Nat} {bs : List FBr} {s : Fst}
theorem other_ok (h : NetOk N bs) {i at_ : Nat} (hi : i < bs.length) (hx : ¬ ((bs.getD i default).a ≠ (at_ : Int) ∧ (bs.getD i default).b ≠ (at_ : Int))) : otherN (bs.getD i default) at_ < N ∧ ((otherN (bs.getD i default) at_ : Nat) : Int) = (bs.getD i default).a + (bs.getD i default).b - (at_ : Int) ∧ otherN (bs.getD i default) at_ ≠ at_ ∧ otherN (bs.getD i default) (otherN (bs.getD i default) at_) = at_ ∧ (((bs.getD i default).a = ((otherN (bs.getD i default) at_ : Nat) : Int)) ∨ (bs.getD i default).b = ((otherN (bs.getD i default) at_ : Nat) : Int)) := by
  have hm : bs.getD i default ∈ bs := by
    rw [List.getD_eq_getElem?_getD, List.getElem?_eq_getElem hi]
    exact List.getElem_mem hi
  obtain ⟨h1, h2, h3, _, _⟩ := h.br _ hm
  generalize bs.getD i default = x at *
  unfold otherN
  omega
theorem getD_set (l : List Int) (k j : Nat) (v d : Int) : (l.set k v).getD j d = if k = j ∧ k < l.length then v else l.getD j d := by
  rw [List.getD_eq_getElem?_getD, List.getElem?_set, List.getD_eq_getElem?_getD]
  by_cases h : k = j
  · subst h
    by_cases h2 : k < l.length
    · simp [h2]
    · simp [h2]
  · simp [h]
theorem nodup_bound : ∀ {N : Nat} {l : List Nat}, l.Nodup → (∀ k ∈ l, k < N) → l.length ≤ N
  | 0, l, _, h => by
    cases l with
    | nil => exact Nat.le_refl _
    | cons x l => exact absurd (h x (List.mem_cons_self ..)) (Nat.not_lt_zero _)
  | N + 1, l, hd, h => by
    have h1 := nodup_bound (N := N) (hd.erase N) fun k hk => by
      have h2 := (hd.mem_erase_iff).1 hk
      have := h k h2.2
      omega
    have h3 := List.length_erase_le (a := N) (l := l)
    have h4 := List.length_erase (a := N) (l := l)
    split at h4 <;> omega
theorem FstOk.len (h : FstOk N bs s) : s.order.length ≤ N := by
  exact nodup_bound h.nodup fun k hk => ((h.mem k).1 hk).1
/-- A new node that hangs on a branch of a node that is there. -/
theorem FstOk.add (hn : NetOk N bs) (h : FstOk N bs s) {at_ i : Nat} (hi : i < bs.length) (hat : at_ ∈ s.order) : FstOk N bs (growStep bs at_ i s) := by
  unfold growStep
  by_cases hx : (bs.getD i default).a ≠ (at_ : Int) ∧ (bs.getD i default).b ≠ (at_ : Int)
  · simp only [hx, ne_eq, not_false_eq_true, and_self, if_true]
    exact h
  · obtain ⟨o1, o2, o3, o4, o5⟩ := other_ok hn hi hx
    dsimp only
    rw [if_neg hx]
    generalize otherN (bs.getD i default) at_ = k at *
    by_cases hk : s.low.getD k 0 = -1
    · rw [if_pos hk]
      have hnew : k ∉ s.order := fun hm => ((h.mem k).1 hm).2 hk
      have hlat := ((h.mem at_).1 hat)
      refine ⟨by rw [List.length_set]; exact h.ll, by rw [List.length_set]; exact h.hl, fun j hj => ?_, ?_, fun j => ?_, fun j hj => ?_⟩
      · dsimp only
        rw [getD_set]
        by_cases e : k = j ∧ k < s.low.length
        · rw [if_pos e]
          exact h.low at_ hlat.1
        · rw [if_neg e]
          exact h.low j hj
      · dsimp only
        rw [List.nodup_append]
        exact ⟨h.nodup, by simp, fun a ha b hb e => hnew (by rw [List.mem_singleton] at hb; rw [← hb, ← e]; exact ha)⟩
      · dsimp only
        rw [List.mem_append, List.mem_singleton, getD_set, h.mem]
        by_cases e : k = j
        · subst e
          rw [if_pos ⟨rfl, by rw [h.ll]; exact o1⟩]
          exact ⟨fun _ => ⟨o1, hlat.2⟩, fun _ => .inr rfl⟩
        · rw [if_neg fun h2 => e h2.1]
          exact ⟨fun h2 => h2.resolve_right fun h3 => e h3.symm, .inl⟩
      · dsimp only
        rw [getD_set]
        by_cases e : k = j
        · subst e
          rw [if_pos ⟨rfl, by rw [h.hl]; exact o1⟩]
          obtain ⟨p, hp, hpe⟩ := List.getElem_of_mem hat
          exact .inr ⟨i, p, s.order.length, rfl, hi, by simp, hp, by rw [List.getElem?_append_left hp, o4, List.getElem?_eq_getElem hp, hpe], o5⟩
        · rw [if_neg fun h2 => e h2.1]
          rcases h.hang j hj with h2 | ⟨i', j', p, g1, g2, g3, g4, g5, g6⟩
          · exact .inl h2
          · have hp := (List.getElem?_eq_some_iff.1 g3).1
            exact .inr ⟨i', j', p, g1, g2, by rw [List.getElem?_append_left hp]; exact g3, g4, by rw [List.getElem?_append_left (by omega)]; exact g5, g6⟩
    · rw [if_neg hk]
      exact h
theorem growStep_pre (bs : List FBr) (at_ i : Nat) (s : Fst) : s.order <+: (growStep bs at_ i s).order := by
  unfold growStep
  dsimp only
  split
  · exact List.prefix_refl _
  · split
    · exact List.prefix_append _ _
    · exact List.prefix_refl _
theorem growTo_pre (bs : List FBr) (at_ : Nat) (s : Fst) : ∀ i, s.order <+: (growTo bs at_ i s).order
  | 0 => List.prefix_refl _
  | i + 1 => (growTo_pre bs at_ s i).trans (growStep_pre bs at_ i _)
theorem growTo_ok (hn : NetOk N bs) (h : FstOk N bs s) {at_ : Nat} (hat : at_ ∈ s.order) : ∀ {i : Nat}, i ≤ bs.length → FstOk N bs (growTo bs at_ i s)
  | 0, _ => h
  | i + 1, hi => FstOk.add hn (growTo_ok hn h hat (Nat.le_of_succ_le hi)) hi ((growTo_pre bs at_ s i).subset hat)
theorem queueV_ok (hn : NetOk N bs) : ∀ {f k : Nat} {s : Fst}, FstOk N bs s → FstOk N bs (queueV bs f k s)
  | 0, _, _, h => h
  | f + 1, k, s, h => by
    rw [queueV]
    by_cases hk : k < s.order.length
    · rw [if_pos hk]
      refine queueV_ok hn (growTo_ok hn h ?_ (Nat.le_refl _))
      rw [List.getD_eq_getElem?_getD, List.getElem?_eq_getElem hk]
      exact List.getElem_mem hk
    · rw [if_neg hk]
      exact h
theorem FstOk.root (h : FstOk N bs s) {k : Nat} (hk : k < N) (h0 : s.low.getD k 0 = -1) : FstOk N bs ⟨s.low.set k (k : Int), s.hangs, s.order ++ [k]⟩ := by
  have hnew : k ∉ s.order := fun hm => ((h.mem k).1 hm).2 h0
  refine ⟨by rw [List.length_set]; exact h.ll, h.hl, fun j hj => ?_, ?_, fun j => ?_, fun j hj => ?_⟩
  · dsimp only
    rw [getD_set]
    by_cases e : k = j ∧ k < s.low.length
    · rw [if_pos e]
      omega
    · rw [if_neg e]
      exact h.low j hj
  · dsimp only
    rw [List.nodup_append]
    exact ⟨h.nodup, by simp, fun a ha b hb e => hnew (by rw [List.mem_singleton] at hb; rw [← hb, ← e]; exact ha)⟩
  · dsimp only
    rw [List.mem_append, List.mem_singleton, getD_set, h.mem]
    by_cases e : k = j
    · subst e
      rw [if_pos ⟨rfl, by rw [h.ll]; exact hk⟩]
      exact ⟨fun _ => ⟨hk, by omega⟩, fun _ => .inr rfl⟩
    · rw [if_neg fun h2 => e h2.1]
      exact ⟨fun h2 => h2.resolve_right fun h3 => e h3.symm, .inl⟩
  · dsimp only
    rcases h.hang j hj with h2 | ⟨i', j', p, g1, g2, g3, g4, g5, g6⟩
    · exact .inl h2
    · have hp := (List.getElem?_eq_some_iff.1 g3).1
      exact .inr ⟨i', j', p, g1, g2, by rw [List.getElem?_append_left hp]; exact g3, g4, by rw [List.getElem?_append_left (by omega)]; exact g5, g6⟩
/-- What is not there hangs on nothing. -/
theorem FstOk.free (h : FstOk N bs s) {k : Nat} (hk : k < N) (h0 : s.low.getD k 0 = -1) : s.hangs.getD k 0 = -1 := by
  rcases h.hang k hk with h2 | ⟨i', j', p, g1, g2, g3, g4, g5, g6⟩
  · exact h2
  · exact absurd h0 ((h.mem k).1 (List.mem_of_getElem? g3)).2
theorem rootsTo_ok (hn : NetOk N bs) : ∀ {k : Nat}, k ≤ N → FstOk N bs (rootsTo bs N k)
  | 0, _ => by
    refine ⟨List.length_replicate .., List.length_replicate .., fun j hj => .inl ?_, List.nodup_nil, fun j => ?_, fun j hj => .inl ?_⟩
    · simp [rootsTo, List.getD, hj]
    · simp only [rootsTo, List.not_mem_nil, false_iff, not_and, Decidable.not_not]
      intro hj
      simp [List.getD, hj]
    · simp [rootsTo, List.getD, hj]
  | k + 1, hk => by
    have ih := rootsTo_ok hn (show k ≤ N by omega)
    rw [rootsTo, rootStep]
    by_cases h0 : (rootsTo bs N k).low.getD k 0 = -1
    · rw [if_neg (by simpa using h0)]
      exact queueV_ok hn (ih.root (by omega) h0)
    · rw [if_pos h0]
      exact ih
theorem forest_ok (hn : NetOk N bs) : FstOk N bs (forestV bs N) := rootsTo_ok hn (Nat.le_refl _)
end
end Go.Proofs.Ytapegimghfflhaa
end

section
namespace Go.Proofs.Ytapegimghfflhaa

/-- The way from a node to the root of its part, added with a sign. -/
def climbV (bs : List FBr) (hangs : List Int) (sg : Int) : Nat → List Int → Nat → List Int
  | 0, v, _ => v
  | f + 1, v, at_ => if hangs.getD at_ 0 = -1 then v else
      climbV bs hangs sg f (v.set (hangs.getD at_ 0).toNat (if (bs.getD (hangs.getD at_ 0).toNat default).a = (at_ : Int) then v.getD (hangs.getD at_ 0).toNat 0 + sg else v.getD (hangs.getD at_ 0).toNat 0 - sg)) (otherN (bs.getD (hangs.getD at_ 0).toNat default) at_)
def loopV (bs : List FBr) (hangs : List Int) (N i : Nat) : List Int :=
  climbV bs hangs (-1) N (climbV bs hangs 1 N ((List.replicate bs.length 0).set i 1) (bs.getD i default).b.toNat) (bs.getD i default).a.toNat
def hasC (l : List Int) (n : Int) : Bool := l.any fun x => x == n
def loopsTo (bs : List FBr) (hangs : List Int) (N : Nat) : Nat → List (List Int)
  | 0 => []
  | i + 1 => if hasC hangs (i : Int) then loopsTo bs hangs N i else loopsTo bs hangs N i ++ [loopV bs hangs N i]
def loopsV (bs : List FBr) (N : Nat) : List (List Int) := loopsTo bs (forestV bs N).hangs N bs.length
def dotTo (v w : List Int) : Nat → Int
  | 0 => 0
  | k + 1 => dotTo v w k + v.getD k 0 * w.getD k 0
def dotV (v w : List Int) : Int := dotTo v w v.length
def matTo (l m r : List Int) : Nat → Int
  | 0 => 0
  | j + 1 => matTo l m r j + l.getD j 0 * m.getD j 0 * r.getD j 0
/-- The equations: one row for each loop, its last number by the ampere turns. -/
def eqV (L : List (List Int)) (r t : List Int) (i : Nat) : List Int := (List.range L.length).map (fun k => matTo (L.getD i []) (L.getD k []) r r.length) ++ [dotV (L.getD i []) t]
def eqsV (L : List (List Int)) (r t : List Int) : List (List Int) := (List.range L.length).map (eqV L r t)
/-- One column is eliminated from a row. -/
def elimR (p last : Int) (k : Nat) (row rk : List Int) : List Int := (List.range row.length).map fun j => (p * row.getD j 0 - row.getD k 0 * rk.getD j 0).tdiv last
def elimS (last : Int) (k : Nat) (M : List (List Int)) : List (List Int) := (List.range M.length).map fun i => if i = k then M.getD i [] else elimR ((M.getD k []).getD k 0) last k (M.getD i []) (M.getD k [])
def elimTo (M : List (List Int)) : Nat → List (List Int) × Int
  | 0 => (M, 1)
  | k + 1 => (elimS (elimTo M k).2 k (elimTo M k).1, ((elimTo M k).1.getD k []).getD k 0)
def elimV (M : List (List Int)) : List (List Int) × Int := elimTo M M.length
def flowTo (L M : List (List Int)) (c j : Nat) : Nat → Int
  | 0 => 0
  | i + 1 => flowTo L M c j i + (L.getD i []).getD j 0 * (M.getD i []).getD c 0
/-- The fluxes by ampere turns, over their denominator. -/
def fluxesV (L : List (List Int)) (r t : List Int) : List Int × Int :=
  ((List.range t.length).map fun j => flowTo L (elimV (eqsV L r t)).1 L.length j L.length, (elimV (eqsV L r t)).2)
def relV (bs : List FBr) : List Int := bs.map (·.r)
def trnV (bs : List FBr) : List Int := bs.map (·.t)
/-- The potentials, one node after the other. -/
def potStep (bs : List FBr) (hangs fl : List Int) (den : Int) (at_ : Nat) (p : List Int) : List Int :=
  if hangs.getD at_ 0 = -1 then p else
    if (bs.getD (hangs.getD at_ 0).toNat default).a = (at_ : Int) then p.set at_ (p.getD (bs.getD (hangs.getD at_ 0).toNat default).b.toNat 0 + ((bs.getD (hangs.getD at_ 0).toNat default).r * fl.getD (hangs.getD at_ 0).toNat 0 - (bs.getD (hangs.getD at_ 0).toNat default).t * den))
    else p.set at_ (p.getD (bs.getD (hangs.getD at_ 0).toNat default).a.toNat 0 - ((bs.getD (hangs.getD at_ 0).toNat default).r * fl.getD (hangs.getD at_ 0).toNat 0 - (bs.getD (hangs.getD at_ 0).toNat default).t * den))
def potTo (bs : List FBr) (N : Nat) (hangs fl : List Int) (den : Int) (order : List Nat) : Nat → List Int
  | 0 => List.replicate N 0
  | k + 1 => potStep bs hangs fl den (order.getD k 0) (potTo bs N hangs fl den order k)
def gcdTo (g : Int) (l : List Int) : Nat → Int
  | 0 => g
  | k + 1 => gcdI (gcdTo g l k) (l.getD k 0)
/-- The reduced solution: denominator, potentials, fluxes. -/
def solvedV (bs : List FBr) (N : Nat) : Int × List Int × List Int :=
  let F := fluxesV (loopsV bs N) (relV bs) (trnV bs)
  let P := potTo bs N (forestV bs N).hangs F.1 F.2 (forestV bs N).order (forestV bs N).order.length
  let g := gcdTo (gcdTo F.2 P P.length) F.1 F.1.length
  (F.2.tdiv g, P.map (·.tdiv g), F.1.map (·.tdiv g))
/-- The energy by the ampere turns of two windings, as a fraction. -/
def energyF (bs : List FBr) (N : Nat) (a b : List Int) : Int × Int := (dotV (fluxesV (loopsV bs N) (relV bs) a).1 b, (fluxesV (loopsV bs N) (relV bs) a).2)
def ringN : List FBr := [⟨0, 1, 3, 10⟩, ⟨1, 0, 2, 0⟩]
def threeN : List FBr := [⟨0, 1, 3, 10⟩, ⟨1, 0, 2, 0⟩, ⟨0, 1, 6, 0⟩]
section
variable {N : Nat} {bs : List FBr} {s : Fst} {hangs : List Int}
theorem queueV_pre (bs : List FBr) : ∀ (f k : Nat) (s : Fst), s.order <+: (queueV bs f k s).order
  | 0, _, _ => List.prefix_refl _
  | f + 1, k, s => by
    rw [queueV]
    by_cases hk : k < s.order.length
    · rw [if_pos hk]
      exact (growTo_pre bs _ s bs.length).trans (queueV_pre bs f (k + 1) _)
    · rw [if_neg hk]
      exact List.prefix_refl _
theorem rootsTo_all (hn : NetOk N bs) : ∀ {k : Nat}, k ≤ N → ∀ j, j < k → j ∈ (rootsTo bs N k).order
  | 0, _, j, hj => absurd hj (Nat.not_lt_zero _)
  | k + 1, hk, j, hj => by
    have ih := rootsTo_all hn (show k ≤ N by omega)
    have ok := rootsTo_ok hn (show k ≤ N by omega)
    rw [rootsTo, rootStep]
    by_cases h0 : (rootsTo bs N k).low.getD k 0 = -1
    · rw [if_neg (by simpa using h0)]
      refine (queueV_pre bs _ _ _).subset ?_
      dsimp only
      rw [List.mem_append, List.mem_singleton]
      by_cases e : j = k
      · exact .inr e
      · exact .inl (ih j (by omega))
    · rw [if_pos h0]
      by_cases e : j = k
      · rw [e]; exact (ok.mem k).2 ⟨by omega, h0⟩
      · exact ih j (by omega)
/-- The whole forest: each node stands in the order. -/
theorem forest_all (hn : NetOk N bs) {k : Nat} (hk : k < N) : k ∈ (forestV bs N).order := rootsTo_all hn (Nat.le_refl _) k hk
theorem climb_len (bs : List FBr) (hangs : List Int) (sg : Int) : ∀ (f : Nat) (v : List Int) (at_ : Nat), (climbV bs hangs sg f v at_).length = v.length
  | 0, _, _ => rfl
  | f + 1, v, at_ => by
    rw [climbV]
    by_cases h : hangs.getD at_ 0 = -1
    · rw [if_pos h]
    · rw [if_neg h, climb_len bs hangs sg f]
      exact List.length_set ..
theorem climb_bd (bs : List FBr) (hangs : List Int) {sg : Int} (hs : sg = 1 ∨ sg = -1) : ∀ (f : Nat) (v : List Int) (at_ : Nat) (C : Int), 0 ≤ C → (∀ j, -C ≤ v.getD j 0 ∧ v.getD j 0 ≤ C) → ∀ j, -(C + f) ≤ (climbV bs hangs sg f v at_).getD j 0 ∧ (climbV bs hangs sg f v at_).getD j 0 ≤ C + f
  | 0, v, _, C, _, h, j => by have := h j; rw [climbV]; omega
  | f + 1, v, at_, C, hC, h, j => by
    rw [climbV]
    by_cases h0 : hangs.getD at_ 0 = -1
    · rw [if_pos h0]
      have := h j
      omega
    · rw [if_neg h0]
      have ih := climb_bd bs hangs hs f (v.set (hangs.getD at_ 0).toNat (if (bs.getD (hangs.getD at_ 0).toNat default).a = (at_ : Int) then v.getD (hangs.getD at_ 0).toNat 0 + sg else v.getD (hangs.getD at_ 0).toNat 0 - sg)) (otherN (bs.getD (hangs.getD at_ 0).toNat default) at_) (C + 1) (by omega) (fun i => by
        rw [getD_set]
        have h1 := h i
        have h2 := h (hangs.getD at_ 0).toNat
        split
        · split <;> omega
        · omega) j
      omega
theorem loopV_len (bs : List FBr) (hangs : List Int) (N i : Nat) : (loopV bs hangs N i).length = bs.length := by
  unfold loopV
  rw [climb_len, climb_len, List.length_set, List.length_replicate]
theorem loopV_bd (bs : List FBr) (hangs : List Int) {N : Nat} (hN : N ≤ 5) (i : Nat) (j : Nat) : -11 ≤ (loopV bs hangs N i).getD j 0 ∧ (loopV bs hangs N i).getD j 0 ≤ 11 := by
  unfold loopV
  have h := climb_bd bs hangs (sg := -1) (.inr rfl) N (climbV bs hangs 1 N ((List.replicate bs.length 0).set i 1) (bs.getD i default).b.toNat) (bs.getD i default).a.toNat (1 + N) (by omega) (fun k => climb_bd bs hangs (sg := 1) (.inl rfl) N ((List.replicate bs.length 0).set i 1) (bs.getD i default).b.toNat 1 (by decide) (fun q => by
    rw [getD_set]
    split
    · decide
    · simp only [List.getD, List.getElem?_replicate]
      split <;> decide) k) j
  omega
theorem nodup_inj {l : List Nat} (h : l.Nodup) {i j : Nat} (hi : i < l.length) (hj : j < l.length) (e : l[i] = l[j]) : i = j := by
  rcases Nat.lt_trichotomy i j with h1 | h1 | h1
  · exact absurd e ((List.pairwise_iff_getElem.1 h) i j hi hj h1)
  · exact h1
  · exact absurd e.symm ((List.pairwise_iff_getElem.1 h) j i hj hi h1)
/-- One step of the climb: while a node hangs on a branch, the next one is earlier in the order. -/
theorem climb_next (h : FstOk N bs s) {p at_ : Nat} (hp : s.order[p]? = some at_) (h0 : s.hangs.getD at_ 0 ≠ -1) : ∃ i : Nat, s.hangs.getD at_ 0 = (i : Int) ∧ i < bs.length ∧ at_ < N ∧ otherN (bs.getD i default) at_ < N ∧ ∃ j, j < p ∧ s.order[j]? = some (otherN (bs.getD i default) at_) := by
  have hm := (h.mem at_).1 (List.mem_of_getElem? hp)
  rcases h.hang at_ hm.1 with h2 | ⟨i, j, p', g1, g2, g3, g4, g5, g6⟩
  · exact absurd h2 h0
  · have hp1 := (List.getElem?_eq_some_iff.1 hp)
    have hp2 := (List.getElem?_eq_some_iff.1 g3)
    obtain ⟨q1, q2⟩ := hp1
    obtain ⟨q3, q4⟩ := hp2
    have e : p = p' := nodup_inj h.nodup q1 q3 (q2.trans q4.symm)
    subst e
    exact ⟨i, g1, g2, hm.1, ((h.mem _).1 (List.mem_of_getElem? g5)).1, j, g4, g5⟩
theorem loopsTo_mem (bs : List FBr) (hangs : List Int) (N : Nat) : ∀ (k : Nat) (l : List Int), l ∈ loopsTo bs hangs N k → ∃ i, i < k ∧ l = loopV bs hangs N i
  | 0, l, h => by simp [loopsTo] at h
  | k + 1, l, h => by
    rw [loopsTo] at h
    split at h
    · obtain ⟨i, hi, e⟩ := loopsTo_mem bs hangs N k l h
      exact ⟨i, by omega, e⟩
    · rw [List.mem_append, List.mem_singleton] at h
      rcases h with h | h
      · obtain ⟨i, hi, e⟩ := loopsTo_mem bs hangs N k l h
        exact ⟨i, by omega, e⟩
      · exact ⟨k, Nat.lt_succ_self _, h⟩
theorem loopsTo_len (bs : List FBr) (hangs : List Int) (N : Nat) : ∀ k : Nat, (loopsTo bs hangs N k).length ≤ k
  | 0 => Nat.le_refl _
  | k + 1 => by
    have := loopsTo_len bs hangs N k
    rw [loopsTo]
    split
    · omega
    · rw [List.length_append, List.length_singleton]; omega
/-- Loops: at most so many, each with a number for each branch. -/
structure LoopsOk (L : List (List Int)) (m : Nat) : Prop where
  cnt : L.length ≤ 7
  len : ∀ l ∈ L, l.length = m
  bd : ∀ l ∈ L, ∀ j, -11 ≤ l.getD j 0 ∧ l.getD j 0 ≤ 11
theorem loopsV_ok (hn : NetOk N bs) : LoopsOk (loopsV bs N) bs.length := by
  refine ⟨Nat.le_trans (loopsTo_len ..) hn.m, fun l hl => ?_, fun l hl j => ?_⟩
  · obtain ⟨i, _, rfl⟩ := loopsTo_mem _ _ _ _ _ hl
    exact loopV_len ..
  · obtain ⟨i, _, rfl⟩ := loopsTo_mem _ _ _ _ _ hl
    exact loopV_bd _ _ hn.n.2 _ _
/-- The difference that is divided. -/
def diffE (M : List (List Int)) (k i j : Nat) : Int := ((elimTo M k).1.getD k []).getD k 0 * ((elimTo M k).1.getD i []).getD j 0 - ((elimTo M k).1.getD i []).getD k 0 * ((elimTo M k).1.getD k []).getD j 0
/-- All numbers of the elimination fit. -/
def ElimSm (M : List (List Int)) : Prop := ∀ k, k < M.length → (elimTo M k).2 ≠ 0 ∧ ∀ i, i < M.length → i ≠ k → ∀ j, j ≤ M.length → -9200000000000000000 ≤ diffE M k i j ∧ diffE M k i j ≤ 9200000000000000000
/-- All numbers of the fluxes fit. -/
structure FlxSm (L : List (List Int)) (r t : List Int) : Prop where
  elim : ElimSm (eqsV L r t)
  den : 1 ≤ (elimV (eqsV L r t)).2 ∧ (elimV (eqsV L r t)).2 ≤ 10000000000
  sol : ∀ i, i < L.length → -1000000000000 ≤ ((elimV (eqsV L r t)).1.getD i []).getD L.length 0 ∧ ((elimV (eqsV L r t)).1.getD i []).getD L.length 0 ≤ 1000000000000
theorem eqsV_len (L : List (List Int)) (r t : List Int) : (eqsV L r t).length = L.length := by simp [eqsV]
theorem eqV_len (L : List (List Int)) (r t : List Int) (i : Nat) : (eqV L r t i).length = L.length + 1 := by simp [eqV]
end
end Go.Proofs.Ytapegimghfflhaa
end
