/- Plain law on networks: all numbers of the elimination fit (chapter 3). No condition. -/
import Derived.Test.YtapegimghfflhaaMu

section
namespace Go.Proofs.Ytapegimghfflhaa

theorem sq_le {x C : Rat} (hC : 0 ≤ C) (h : x * x ≤ C * C) : -C ≤ x ∧ x ≤ C := by
  constructor
  · refine Rat.not_lt.1 fun hlt => ?_
    have h1 := Rat.mul_pos (a := -x - C) (b := -x + C) (by grind) (by grind)
    grind
  · refine Rat.not_lt.1 fun hlt => ?_
    have h1 := Rat.mul_pos (a := x - C) (b := x + C) (by grind) (by grind)
    grind
theorem sum_ind (c : Nat) (x : Rat) (hx : 0 ≤ x) : ∀ n, sumR (fun j => if j = c then x else 0) n ≤ x
  | 0 => hx
  | n + 1 => by
    rw [sumR]
    by_cases e : n = c
    · subst e
      rw [if_pos rfl, sumR_zero n fun k hk => if_neg (by omega)]
      grind
    · rw [if_neg e]
      have := sum_ind c x hx n
      grind
theorem sum_tree (hangs : List Int) (x : Rat) : ∀ n, sumR (fun j => if hasC hangs (j : Int) = true then x else 0) n = x * (((treeTo hangs n : Nat) : Int) : Rat)
  | 0 => by rw [sumR, treeTo]; grind
  | n + 1 => by
    rw [sumR, treeTo, sum_tree hangs x n]
    split
    · rw [show (((treeTo hangs n + 1 : Nat) : Int) : Rat) = (((treeTo hangs n : Nat) : Int) : Rat) + 1 by push_cast; rfl]
      grind
    · grind
section
variable {N : Nat} {bs : List FBr} {t : List Int}
/-- The number of branches on which a node hangs. -/
def treeN (bs : List FBr) (N : Nat) : Nat := treeTo (forestV bs N).hangs bs.length
theorem loops_tree (bs : List FBr) (N : Nat) : (loopsV bs N).length + treeN bs N = bs.length := by
  rw [loopsV_len]
  exact chords_tree _ _
theorem l_bd (hn : NetOk N bs) {p j : Nat} (hp : p < (loopsV bs N).length) (hj : j < bs.length) : -1 ≤ lR (loopsV bs N) p j ∧ lR (loopsV bs N) p j ≤ 1 := by
  unfold lR
  rw [loopsV_at bs N hp]
  obtain ⟨h1, h2⟩ := loop_tree hn (chord_at bs N hp).1 (chord_at bs N hp).2 hj
  exact ⟨cast_le h1, cast_le h2⟩
theorem l_off (hn : NetOk N bs) {p j : Nat} (hp : p < (loopsV bs N).length) (hj : j < bs.length) (h : hasC (forestV bs N).hangs (j : Int) = false) : lR (loopsV bs N) p j = if j = chordN bs N p then 1 else 0 := by
  unfold lR
  rw [loopsV_at bs N hp, loop_chord hn (chord_at bs N hp).1 hj h]
  by_cases e : j = chordN bs N p
  · rw [if_pos e, if_pos (show (chordsTo (forestV bs N).hangs bs.length).getD p 0 = j from e.symm)]; rfl
  · rw [if_neg e, if_neg (show ¬ (chordsTo (forestV bs N).hangs bs.length).getD p 0 = j from fun e2 => e e2.symm)]; rfl
theorem cast_sq {a : Int} (h : a * a = 1) : ((a : Int) : Rat) * ((a : Int) : Rat) = 1 := by rw [← Rat.intCast_mul, h]; rfl
theorem sq_one {x : Rat} (h : -1 ≤ x ∧ x ≤ 1) : x * x ≤ 1 := by
  have h1 := Rat.mul_nonneg (a := 1 - x) (b := 1 + x) (by grind) (by grind)
  grind
theorem r_mul (hn : NetOk N bs) {j : Nat} (hj : j < bs.length) {x y : Rat} (h0 : 0 ≤ x) (h : x ≤ y) : rR (relV bs) j * x ≤ 20 * y := by
  obtain ⟨h1, h2⟩ := rel_bd hn hj
  have h3 := Rat.mul_nonneg (a := 20 - rR (relV bs) j) (b := x) (by grind) h0
  grind
/-- The energy of a loop. -/
theorem loop_energy (hn : NetOk N bs) {p : Nat} (hp : p < (loopsV bs N).length) : sumR (fun j => rR (relV bs) j * (lR (loopsV bs N) p j * lR (loopsV bs N) p j)) bs.length ≤ 20 + 20 * (((treeN bs N : Nat) : Int) : Rat) := by
  have h1 := sum_ind (chordN bs N p) 20 (by decide) bs.length
  have h2 := sum_tree (forestV bs N).hangs 20 bs.length
  have h3 : sumR (fun j => rR (relV bs) j * (lR (loopsV bs N) p j * lR (loopsV bs N) p j)) bs.length ≤ sumR (fun j => (if j = chordN bs N p then (20 : Rat) else 0) + (if hasC (forestV bs N).hangs (j : Int) = true then 20 else 0)) bs.length := by
    refine sumR_le fun j hj => ?_
    have hs := sq_pos (lR (loopsV bs N) p j)
    cases hc : hasC (forestV bs N).hangs (j : Int) with
    | true =>
      have := r_mul hn hj hs (sq_one (l_bd hn hp hj))
      split <;> grind
    | false =>
      rw [l_off hn hp hj hc]
      have := r_mul hn hj (x := 1) (y := 1) (by decide) (by decide)
      split <;> grind
  rw [sumR_add] at h3
  unfold treeN
  grind
theorem flow_none (l : Nat → Nat → Rat) (j : Nat) : ∀ k, flowR l (fun _ => 0) k j = 0
  | 0 => rfl
  | k + 1 => by
    have := flow_none l j k
    unfold flowR at this ⊢
    rw [sumR, this]
    grind
theorem flow_last (l : Nat → Nat → Rat) (w : Rat) (j k : Nat) : flowR l (fun p => if p = k then w else 0) (k + 1) j = w * l k j := by
  have h : ∀ i, i ≤ k → flowR l (fun p => if p = k then w else 0) i j = 0 := by
    intro i
    induction i with
    | zero => exact fun _ => rfl
    | succ i ih =>
      intro hi
      have := ih (by omega)
      unfold flowR at this ⊢
      rw [sumR, this]
      dsimp only
      rw [if_neg (by omega)]
      grind
  have := h k (Nat.le_refl _)
  unfold flowR at this ⊢
  rw [sumR, this]
  dsimp only
  rw [if_pos rfl]
  grind
theorem pivot_bd (hn : NetOk N bs) {k : Nat} (hk : k < (loopsV bs N).length) : gj (aR (loopsV bs N) (relV bs) t) k k k ≤ 20 + 20 * (((treeN bs N : Nat) : Int) : Rat) := by
  have h1 := pivot_le (loops_mat (t := t) hn) (loops_chords hn) hk (fun _ => 0)
  rw [sumR_congr (g := fun j => rR (relV bs) j * (lR (loopsV bs N) k j * lR (loopsV bs N) k j)) fun j _ => by rw [flow_none]; grind] at h1
  have h2 := loop_energy hn hk
  grind
/-- With one branch on which a node hangs each loop goes through it. -/
theorem one_tree (hn : NetOk N bs) (h1 : treeN bs N = 1) : ∃ e, e < bs.length ∧ (∀ j, j < bs.length → (hasC (forestV bs N).hangs (j : Int) = true ↔ j = e)) ∧ ∀ p, p < (loopsV bs N).length → lR (loopsV bs N) p e * lR (loopsV bs N) p e = 1 := by
  have hz : ∀ n, treeTo (forestV bs N).hangs n = 0 → ∀ j, j < n → hasC (forestV bs N).hangs (j : Int) = false := by
    intro n
    induction n with
    | zero => exact fun _ j hj => absurd hj (Nat.not_lt_zero _)
    | succ n ih =>
      intro h j hj
      rw [treeTo] at h
      by_cases e : j = n
      · subst e
        cases hc : hasC (forestV bs N).hangs (j : Int) with
        | false => rfl
        | true => rw [hc] at h; simp at h
      · exact ih (by omega) j (by omega)
  have hex : ∀ n, treeTo (forestV bs N).hangs n = 1 → ∃ e, e < n ∧ ∀ j, j < n → (hasC (forestV bs N).hangs (j : Int) = true ↔ j = e) := by
    intro n
    induction n with
    | zero => intro h; simp [treeTo] at h
    | succ n ih =>
      intro h
      rw [treeTo] at h
      cases hc : hasC (forestV bs N).hangs (n : Int) with
      | true =>
        rw [hc, if_pos rfl] at h
        refine ⟨n, Nat.lt_succ_self _, fun j hj => ?_⟩
        by_cases e : j = n
        · subst e; simp [hc]
        · have := hz n (by omega) j (by omega)
          simp [this, e]
      | false =>
        rw [hc] at h
        obtain ⟨e, he, h2⟩ := ih (by simpa using h)
        refine ⟨e, by omega, fun j hj => ?_⟩
        by_cases e2 : j = n
        · subst e2
          simp [hc]
          omega
        · exact h2 j (by omega)
  obtain ⟨e, he, h2⟩ := hex bs.length h1
  refine ⟨e, he, h2, fun p hp => ?_⟩
  obtain ⟨k, pk, hk, hke⟩ := has_node (forest_ok hn) ((h2 e he).2 rfl)
  have hi := chord_at bs N hp
  obtain ⟨pa, pb, ha, hb⟩ := br_pos hn hi.1
  have hx := getD_memB hi.1
  obtain ⟨b1, b2, b3, _⟩ := hn.br _ hx
  have hlow := forest_low hn hx
  have hne : ¬ (chordsTo (forestV bs N).hangs bs.length).getD p 0 = e := fun e2 => by
    have := hi.2
    rw [e2, (h2 e he).2 rfl] at this
    cases this
  have hl := loop_way (forest_ok hn) (i := (chordsTo (forestV bs N).hangs bs.length).getD p 0) he ha hb
  rw [if_neg hne] at hl
  generalize bs.getD ((chordsTo (forestV bs N).hangs bs.length).getD p 0) default = x at *
  have hon : wayV bs (forestV bs N).hangs e N k = if (bs.getD e default).a = (k : Int) then 1 else -1 := by
    obtain ⟨f, hf⟩ : ∃ f, N = f + 1 := ⟨N - 1, by have := hn.n.1; omega⟩
    rw [show wayV bs (forestV bs N).hangs e N k = wayV bs (forestV bs N).hangs e (f + 1) k by rw [← hf], wayV]
    obtain ⟨i, g1, g2, g3, g4, q, g5, g6⟩ := climb_next (forest_ok hn) hk (by omega)
    rw [if_neg (by omega), hke, Int.toNat_natCast, if_pos rfl]
    obtain rfl : i = e := by omega
    rw [way_before (forest_ok hn) hk hke f g6 g5]
    omega
  have hoff : ∀ v, v < N → v ≠ k → wayV bs (forestV bs N).hangs e N v = 0 ∧ (forestV bs N).low.getD v 0 = (v : Int) := by
    intro v hv hvk
    have h0 : (forestV bs N).hangs.getD v 0 = -1 := by
      rcases (forest_ok hn).hang v hv with h | ⟨i, j, p, g1, g2, g3, g4, g5, g6⟩
      · exact h
      · have hh : hasC (forestV bs N).hangs (i : Int) = true := (has_iff _ _).2 (by
          have h6 : v < (forestV bs N).hangs.length := by rw [(forest_ok hn).hl]; exact hv
          rw [← g1, List.getD_eq_getElem?_getD, List.getElem?_eq_getElem h6]
          exact List.getElem_mem h6)
        have := (h2 i g2).1 hh
        subst this
        exact absurd (hang_one (forest_ok hn) g3 hk g1 hke) hvk
    refine ⟨?_, low_root hn hv h0⟩
    obtain ⟨f, hf⟩ : ∃ f, N = f + 1 := ⟨N - 1, by have := hn.n.1; omega⟩
    rw [show wayV bs (forestV bs N).hangs e N v = wayV bs (forestV bs N).hangs e (f + 1) v by rw [← hf], wayV, if_pos h0]
  have hl2 : lR (loopsV bs N) p e = ((0 + wayV bs (forestV bs N).hangs e N x.b.toNat - wayV bs (forestV bs N).hangs e N x.a.toNat : Int) : Rat) := by
    unfold lR
    rw [loopsV_at bs N hp, hl]
  rw [hl2]
  by_cases ea : x.a.toNat = k
  · rw [ea, hon, (hoff x.b.toNat (by omega) (by omega)).1]
    split <;> exact cast_sq (by decide)
  · by_cases eb : x.b.toNat = k
    · rw [eb, hon, (hoff x.a.toNat (by omega) ea).1]
      split <;> exact cast_sq (by decide)
    · rw [(hoff x.a.toNat (by omega) ea).2, (hoff x.b.toNat (by omega) eb).2] at hlow
      omega
theorem pivot_one (hn : NetOk N bs) (h1 : treeN bs N = 1) {k : Nat} (hk : k + 1 < (loopsV bs N).length) : gj (aR (loopsV bs N) (relV bs) t) (k + 1) (k + 1) (k + 1) ≤ 30 := by
  obtain ⟨e, he, h2, h3⟩ := one_tree hn h1
  have g1 := h3 (k + 1) hk
  have g2 := h3 k (by omega)
  have hcc : chordN bs N (k + 1) ≠ chordN bs N k := fun e2 => by have := chord_inj bs N hk (show k < _ by omega) e2; omega
  have hce : chordN bs N (k + 1) ≠ e := fun e2 => by
    have h6 := (chord_at bs N hk).2
    rw [show (chordsTo (forestV bs N).hangs bs.length).getD (k + 1) 0 = e from e2, (h2 e he).2 rfl] at h6
    cases h6
  have hce2 : chordN bs N k ≠ e := fun e2 => by
    have h6 := (chord_at bs N (show k < (loopsV bs N).length by omega)).2
    rw [show (chordsTo (forestV bs N).hangs bs.length).getD k 0 = e from e2, (h2 e he).2 rfl] at h6
    cases h6
  have h4 := pivot_le (loops_mat (t := t) hn) (loops_chords hn) hk (fun p => if p = k then -(lR (loopsV bs N) (k + 1) e * lR (loopsV bs N) k e) / 2 else 0)
  have h5 : sumR (fun j => rR (relV bs) j * ((lR (loopsV bs N) (k + 1) j + flowR (lR (loopsV bs N)) (fun p => if p = k then -(lR (loopsV bs N) (k + 1) e * lR (loopsV bs N) k e) / 2 else 0) (k + 1) j) * (lR (loopsV bs N) (k + 1) j + flowR (lR (loopsV bs N)) (fun p => if p = k then -(lR (loopsV bs N) (k + 1) e * lR (loopsV bs N) k e) / 2 else 0) (k + 1) j))) bs.length ≤ sumR (fun j => ((if j = chordN bs N (k + 1) then (20 : Rat) else 0) + (if j = chordN bs N k then 5 else 0)) + (if j = e then 5 else 0)) bs.length := by
    refine sumR_le fun j hj => ?_
    rw [flow_last]
    by_cases ej : j = e
    · subst ej
      rw [if_neg (Ne.symm hce), if_neg (Ne.symm hce2), if_pos rfl]
      generalize lR (loopsV bs N) (k + 1) j = x at *
      generalize lR (loopsV bs N) k j = y at *
      have e1 : (x + -(x * y) / 2 * y) * (x + -(x * y) / 2 * y) = 1 / 4 := by
        have : x + -(x * y) / 2 * y = x / 2 := by grind
        rw [this]
        grind
      rw [e1]
      have := r_mul hn hj (x := 1 / 4) (y := 1 / 4) (by grind) (by grind)
      grind
    · have hcj : hasC (forestV bs N).hangs (j : Int) = false := by
        cases hc : hasC (forestV bs N).hangs (j : Int) with
        | false => rfl
        | true => exact absurd ((h2 j hj).1 hc) ej
      rw [l_off hn hk hj hcj, l_off hn (show k < (loopsV bs N).length by omega) hj hcj, if_neg ej]
      by_cases e1 : j = chordN bs N (k + 1)
      · have e2 : j ≠ chordN bs N k := fun e3 => hcc (e1.symm.trans e3)
        rw [if_pos e1, if_neg e2, if_pos e1, if_neg e2]
        have := r_mul hn hj (x := 1) (y := 1) (by decide) (by decide)
        grind
      · rw [if_neg e1, if_neg e1]
        by_cases e2 : j = chordN bs N k
        · rw [if_pos e2, if_pos e2]
          have e3 : (0 + -(lR (loopsV bs N) (k + 1) e * lR (loopsV bs N) k e) / 2 * 1) * (0 + -(lR (loopsV bs N) (k + 1) e * lR (loopsV bs N) k e) / 2 * 1) = 1 / 4 := by
            generalize lR (loopsV bs N) (k + 1) e = x at *
            generalize lR (loopsV bs N) k e = y at *
            have : (x * y) * (x * y) = 1 := by
              have : (x * y) * (x * y) = (x * x) * (y * y) := by grind
              rw [this, g1, g2]
              grind
            grind
          rw [e3]
          have := r_mul hn hj (x := 1 / 4) (y := 1 / 4) (by grind) (by grind)
          grind
        · rw [if_neg e2, if_neg e2]
          grind
  rw [sumR_add, sumR_add] at h5
  have k1 := sum_ind (chordN bs N (k + 1)) 20 (by decide) bs.length
  have k2 := sum_ind (chordN bs N k) 5 (by decide) bs.length
  have k3 := sum_ind e 5 (by decide) bs.length
  grind
end
/-! All numbers fit. -/
def pbN (d k : Nat) : Nat := if d = 1 then (match k with | 0 => 1 | j + 1 => 40 * 30 ^ j) else (20 * (d + 1)) ^ k
def pbR (d k : Nat) : Rat := ((pbN d k : Nat) : Int)
theorem pb_fit : ∀ d, d < 8 → ∀ k, k < 8 → 1 ≤ d → k + 1 + d ≤ 7 → pbN d k * pbN d (k + 1) * 133 ≤ 9200000000000000000 ∧ (k + 2 + d ≤ 7 → pbN d k * pbN d (k + 1) * 1566 ≤ 9200000000000000000) := by decide
theorem pb_end : ∀ d, d < 8 → ∀ k, k < 8 → 1 ≤ d → k + d ≤ 7 → pbN d k ≤ 10000000000 ∧ pbN d k * 133 ≤ 1000000000000 := by decide
theorem mul_le2 {a b A B : Rat} (ha : 0 ≤ a) (hA : a ≤ A) (hb : 0 ≤ b) (hB : b ≤ B) : a * b ≤ A * B := by
  have h1 := Rat.mul_nonneg (a := A - a) (b := B) (by grind) (by grind)
  have h2 := Rat.mul_nonneg (a := a) (b := B - b) ha (by grind)
  grind
theorem abs_mul {a x A C : Rat} (ha : 0 ≤ a) (hA : a ≤ A) (hx : -C ≤ x ∧ x ≤ C) (hC : 0 ≤ C) : -(A * C) ≤ a * x ∧ a * x ≤ A * C := by
  have h1 := Rat.mul_nonneg (a := A - a) (b := C) (by grind) hC
  have h2 := Rat.mul_nonneg (a := a) (b := C - x) ha (by grind)
  have h3 := Rat.mul_nonneg (a := a) (b := C + x) ha (by grind)
  grind
section
variable {N : Nat} {bs : List FBr} {t : List Int}
theorem pb_step (d k : Nat) : 0 ≤ pbR d k ∧ pbR d (k + 1) = pbR d k * (if d = 1 then (if k = 0 then 40 else 30) else 20 + 20 * (((d : Nat) : Int) : Rat)) := by
  unfold pbR pbN
  refine ⟨by exact_mod_cast Nat.zero_le _, ?_⟩
  by_cases hd : d = 1
  · simp only [hd, if_true]
    cases k with
    | zero => simp
    | succ k =>
      simp only [Nat.succ_ne_zero, if_false]
      rw [show (40 * 30 ^ (k + 1) : Nat) = 40 * 30 ^ k * 30 by rw [Nat.pow_succ, Nat.mul_assoc]]
      push_cast
      grind
  · simp only [if_neg hd]
    rw [Nat.pow_succ]
    push_cast
    grind
theorem piv_bd (hn : NetOk N bs) (hd : 1 ≤ treeN bs N) : ∀ {k : Nat}, k ≤ (loopsV bs N).length → 0 < piv (aR (loopsV bs N) (relV bs) t) k ∧ piv (aR (loopsV bs N) (relV bs) t) k ≤ pbR (treeN bs N) k
  | 0, _ => by
    have h : pbR (treeN bs N) 0 = 1 := by
      unfold pbR pbN
      split <;> simp
    rw [h]
    exact ⟨show (0 : Rat) < 1 by grind, show (1 : Rat) ≤ 1 by grind⟩
  | k + 1, hk => by
    obtain ⟨h1, h2⟩ := piv_bd hn hd (show k ≤ (loopsV bs N).length by omega)
    have h3 := (pivot_ge (loops_mat (t := t) hn) (loops_chords hn) (Nat.le_refl _) k (by omega)).1
    obtain ⟨h4, h5⟩ := pb_step (treeN bs N) k
    rw [piv, h5]
    refine ⟨Rat.mul_pos h1 h3, ?_⟩
    refine mul_le2 (Rat.le_of_lt h1) h2 (Rat.le_of_lt h3) ?_
    by_cases e : treeN bs N = 1
    · rw [if_pos e]
      cases k with
      | zero =>
        rw [if_pos rfl]
        have := pivot_bd (t := t) hn (k := 0) (by omega)
        rw [e] at this
        grind
      | succ k =>
        rw [if_neg (by omega)]
        exact pivot_one hn e hk
    · rw [if_neg e]
      exact pivot_bd hn (by omega)
theorem sum_sq (ht : ∀ j, -50 ≤ t.getD j 0 ∧ t.getD j 0 ≤ 50) (hn : NetOk N bs) : ∀ n, n ≤ bs.length → sumR (fun j => ((t.getD j 0 : Int) : Rat) * ((t.getD j 0 : Int) : Rat) / rR (relV bs) j) n ≤ 2500 * ((n : Int) : Rat)
  | 0, _ => by rw [sumR]; grind
  | n + 1, hm => by
    rw [sumR]
    have ih := sum_sq ht hn n (by omega)
    have hr := (rel_bd hn (show n < bs.length by omega)).1
    have h1 : ((t.getD n 0 : Int) : Rat) * ((t.getD n 0 : Int) : Rat) ≤ 2500 := by
      have h2 := ht n
      have h3 : t.getD n 0 * t.getD n 0 ≤ 2500 := by
        have := Int.mul_nonneg (show 0 ≤ 50 - t.getD n 0 by omega) (show 0 ≤ 50 + t.getD n 0 by omega)
        grind
      have h4 := cast_le h3
      rw [Rat.intCast_mul] at h4
      exact h4
    have h5 : ((t.getD n 0 : Int) : Rat) * ((t.getD n 0 : Int) : Rat) / rR (relV bs) n ≤ ((t.getD n 0 : Int) : Rat) * ((t.getD n 0 : Int) : Rat) := by
      have h6 := sq_pos ((t.getD n 0 : Int) : Rat)
      generalize ((t.getD n 0 : Int) : Rat) * ((t.getD n 0 : Int) : Rat) = x at *
      generalize rR (relV bs) n = r at *
      have h7 := div_pos2 (a := x) (r := r) (by grind) h6
      have h8 : x / r * r = x := by
        rw [Rat.div_def, Rat.mul_assoc, Rat.inv_mul_cancel _ (by grind), Rat.mul_one]
      have h9 := Rat.mul_nonneg (a := x / r) (b := r - 1) h7 (by grind)
      grind
    rw [show (((n + 1 : Nat) : Int) : Rat) = ((n : Int) : Rat) + 1 by push_cast; rfl]
    grind
/-- Each column stands for ampere turns with little energy. -/
theorem col_bd (hn : NetOk N bs) (ht : ∀ j, -50 ≤ t.getD j 0 ∧ t.getD j 0 ≤ 50) (hl : t.length = bs.length) {q : Nat} (hq : q ≤ (loopsV bs N).length) : ∃ T : Nat → Rat, (∀ i, aR (loopsV bs N) (relV bs) t i q = sumR (fun j => lR (loopsV bs N) i j * T j) bs.length) ∧ sumR (fun j => T j * T j / rR (relV bs) j) bs.length ≤ 17500 := by
  by_cases e : q = (loopsV bs N).length
  · subst e
    refine ⟨fun j => ((t.getD j 0 : Int) : Rat), fun i => loops_dot hn hl i, ?_⟩
    have h1 := sum_sq ht hn bs.length (Nat.le_refl _)
    have h2 : ((bs.length : Int) : Rat) ≤ 7 := cast_le (a := (bs.length : Int)) (b := 7) (by have := hn.m; omega)
    grind
  · refine ⟨fun j => rR (relV bs) j * lR (loopsV bs N) q j, fun i => (loops_mat (t := t) hn).mat i q (by omega), ?_⟩
    have h1 := loop_energy hn (show q < (loopsV bs N).length by omega)
    have h2 : sumR (fun j => rR (relV bs) j * lR (loopsV bs N) q j * (rR (relV bs) j * lR (loopsV bs N) q j) / rR (relV bs) j) bs.length = sumR (fun j => rR (relV bs) j * (lR (loopsV bs N) q j * lR (loopsV bs N) q j)) bs.length := sumR_congr fun j hj => by
      have hr := (rel_bd hn hj).1
      generalize rR (relV bs) j = r at *
      generalize lR (loopsV bs N) q j = l at *
      have h8 : r * r⁻¹ = 1 := Rat.mul_inv_cancel _ (by grind)
      rw [Rat.div_def]
      generalize r⁻¹ = s at *
      grind
    rw [h2]
    have h3 : (((treeN bs N : Nat) : Int) : Rat) ≤ 7 := cast_le (a := ((treeN bs N : Nat) : Int)) (b := 7) (by have := loops_tree bs N; have := hn.m; omega)
    grind
end
section
variable {N : Nat} {bs : List FBr} {t : List Int}
theorem gj_low (hn : NetOk N bs) (ht : ∀ j, -50 ≤ t.getD j 0 ∧ t.getD j 0 ≤ 50) (hl : t.length = bs.length) {k i q : Nat} (hk : k ≤ (loopsV bs N).length) (hi : i < k) (hq : q ≤ (loopsV bs N).length) : -133 ≤ gj (aR (loopsV bs N) (relV bs) t) k i q ∧ gj (aR (loopsV bs N) (relV bs) t) k i q ≤ 133 := by
  obtain ⟨T, h1, h2⟩ := col_bd hn ht hl hq
  have h3 := sol_bound (loops_mat (t := t) hn) (loops_chords hn) hk h1 hi
  have h4 := (rel_bd hn ((loops_chords hn).lt i (by omega))).1
  generalize gj (aR (loopsV bs N) (relV bs) t) k i q = x at *
  generalize rR (relV bs) (chordN bs N i) = r at *
  have h5 := Rat.mul_nonneg (a := r - 1) (b := x * x) (by grind) (sq_pos x)
  exact sq_le (by grind) (by grind)
theorem gj_high (hn : NetOk N bs) (ht : ∀ j, -50 ≤ t.getD j 0 ∧ t.getD j 0 ≤ 50) (hl : t.length = bs.length) {k i q : Nat} (hki : k ≤ i) (hi : i < (loopsV bs N).length) (hq : q ≤ (loopsV bs N).length) : -1566 ≤ gj (aR (loopsV bs N) (relV bs) t) k i q ∧ gj (aR (loopsV bs N) (relV bs) t) k i q ≤ 1566 := by
  obtain ⟨T, h1, h2⟩ := col_bd hn ht hl hq
  have h3 := rest_bound (loops_mat (t := t) hn) (loops_chords hn) (show k ≤ _ by omega) h1 hki hi
  have h4 : aR (loopsV bs N) (relV bs) t i i ≤ 140 := by
    have h5 := (loops_mat (t := t) hn).mat i i hi
    rw [h5, sumR_congr (g := fun j => rR (relV bs) j * (lR (loopsV bs N) i j * lR (loopsV bs N) i j)) fun j _ => by grind]
    have h6 := loop_energy hn hi
    have h7 : (((treeN bs N : Nat) : Int) : Rat) ≤ 6 := cast_le (a := ((treeN bs N : Nat) : Int)) (b := 6) (by have := loops_tree bs N; have := hn.m; omega)
    grind
  have h8 : 0 ≤ sumR (fun j => T j * T j / rR (relV bs) j) bs.length := sumR_pos fun j hj => div_pos2 ((loops_mat (t := t) hn).pos j hj) (sq_pos _)
  generalize gj (aR (loopsV bs N) (relV bs) t) k i q = x at *
  generalize aR (loopsV bs N) (relV bs) t i i = y at *
  generalize sumR (fun j => T j * T j / rR (relV bs) j) bs.length = z at *
  have h9 := Rat.mul_nonneg (a := 140 - y) (b := z) (by grind) h8
  exact sq_le (by grind) (by grind)
theorem eqs_at {L : List (List Int)} {r : List Int} {i j : Nat} (hi : i < L.length) (hj : j < L.length + 1) : ((((eqsV L r t).getD i []).getD j 0 : Int) : Rat) = aR L r t i j := by
  unfold eqsV aR
  rw [getD_range _ _ _ hi]
  unfold eqV
  by_cases h : j < L.length
  · rw [if_pos h, List.getD_eq_getElem?_getD, List.getElem?_append_left (by simpa using h)]
    simp [h]
  · rw [if_neg h, List.getD_eq_getElem?_getD, List.getElem?_append_right (by simp; omega)]
    have : j - L.length = 0 := by omega
    simp [this]
theorem aR_whole (L : List (List Int)) (r t : List Int) (i j : Nat) : IsWhole (aR L r t i j) := by
  unfold aR
  split
  · exact ⟨_, rfl⟩
  · exact ⟨_, rfl⟩
theorem pivs_ne (hn : NetOk N bs) {k : Nat} (hk : k ≤ (loopsV bs N).length) : ∀ p, p < k → gj (aR (loopsV bs N) (relV bs) t) p p p ≠ 0 := pivot_ne (loops_mat (t := t) hn) (loops_chords hn) hk
/-- What the elimination gives, for a network. -/
theorem elim_net (hn : NetOk N bs) {k : Nat} (hk : k ≤ (loopsV bs N).length) : ElimIs (eqsV (loopsV bs N) (relV bs) t) (aR (loopsV bs N) (relV bs) t) ((loopsV bs N).length + 1) k :=
  elim_is (aR_whole _ _ _) (fun i hi => by rw [eqsV_len] at hi; unfold eqsV; rw [getD_range _ _ _ hi]; exact eqV_len ..) (by rw [eqsV_len]; omega) (fun i j hi hj => eqs_at (by rwa [eqsV_len] at hi) hj) (by rw [eqsV_len]; exact hk) (pivs_ne hn hk)
theorem tree_one (hn : NetOk N bs) {k : Nat} (hk : k < (loopsV bs N).length) : 1 ≤ treeN bs N := by
  have := loops_tree bs N
  exact tree_pos hn (by omega)
theorem pb_le {a : Nat} {b : Int} (h : (a : Int) ≤ b) : (((a : Nat) : Int) : Rat) ≤ (b : Rat) := cast_le h
/-- All numbers of the elimination fit. -/
theorem flx_small (hn : NetOk N bs) (ht : ∀ j, -50 ≤ t.getD j 0 ∧ t.getD j 0 ≤ 50) (hl : t.length = bs.length) : FlxSm (loopsV bs N) (relV bs) t := by
  have hm := hn.m
  have hlt := loops_tree bs N
  refine ⟨fun k hk => ?_, ?_, fun i hi => ?_⟩
  · rw [eqsV_len] at hk
    have hd := tree_one hn hk
    have hI := elim_net (t := t) hn (show k ≤ _ by omega)
    obtain ⟨p0, p1⟩ := piv_bd (t := t) hn hd (show k ≤ _ by omega)
    obtain ⟨p2, p3⟩ := piv_bd (t := t) hn hd (show k + 1 ≤ _ by omega)
    refine ⟨fun e => ?_, fun i hi hne j hj => ?_⟩
    · have h1 := hI.last
      rw [e] at h1
      rw [← h1] at p0
      exact absurd p0 (by decide)
    · rw [eqsV_len] at hi hj
      obtain ⟨z, hz, hd2⟩ := diff_is hI (aR_whole _ _ _) (pivs_ne hn (show k + 1 ≤ _ by omega)) (by rw [eqsV_len]; exact hk) (by omega) (by rw [eqsV_len]; exact hi) (show j < (loopsV bs N).length + 1 by omega) hne
      obtain ⟨f1, f2⟩ := pb_fit (treeN bs N) (by omega) k (by omega) hd (by omega)
      have hdR : ((diffE (eqsV (loopsV bs N) (relV bs) t) k i j : Int) : Rat) = piv (aR (loopsV bs N) (relV bs) t) k * (piv (aR (loopsV bs N) (relV bs) t) (k + 1) * gj (aR (loopsV bs N) (relV bs) t) (k + 1) i j) := by
        rw [hd2, Rat.intCast_mul, hI.last, hz]
      have key : ∀ C : Nat, pbN (treeN bs N) k * pbN (treeN bs N) (k + 1) * C ≤ 9200000000000000000 → (-(((C : Nat) : Int) : Rat) ≤ gj (aR (loopsV bs N) (relV bs) t) (k + 1) i j ∧ gj (aR (loopsV bs N) (relV bs) t) (k + 1) i j ≤ (((C : Nat) : Int) : Rat)) → -9200000000000000000 ≤ diffE (eqsV (loopsV bs N) (relV bs) t) k i j ∧ diffE (eqsV (loopsV bs N) (relV bs) t) k i j ≤ 9200000000000000000 := by
        intro C hC hg
        have hC0 : (0 : Rat) ≤ (((C : Nat) : Int) : Rat) := cast_le (Int.natCast_nonneg C)
        have h1 := abs_mul (Rat.le_of_lt p2) p3 hg hC0
        have h2 := abs_mul (Rat.le_of_lt p0) p1 h1 (Rat.mul_nonneg (pb_step (treeN bs N) (k + 1)).1 hC0)
        rw [← hdR] at h2
        have h3 : pbR (treeN bs N) k * (pbR (treeN bs N) (k + 1) * (((C : Nat) : Int) : Rat)) ≤ ((9200000000000000000 : Int) : Rat) := by
          unfold pbR
          have h4 := pb_le (b := 9200000000000000000) (show ((pbN (treeN bs N) k * pbN (treeN bs N) (k + 1) * C : Nat) : Int) ≤ 9200000000000000000 by omega)
          push_cast at h4 ⊢
          grind
        constructor
        · refine le_cast ?_
          rw [Rat.intCast_neg]
          grind
        · refine le_cast ?_
          grind
      by_cases hik : i < k + 1
      · exact key 133 f1 (gj_low hn ht hl (show k + 1 ≤ _ by omega) hik hj)
      · exact key 1566 (f2 (by omega)) (gj_high hn ht hl (show k + 1 ≤ i by omega) hi hj)
  · have hI := elim_net (t := t) hn (Nat.le_refl _)
    unfold elimV
    rw [eqsV_len]
    by_cases h0 : (loopsV bs N).length = 0
    · rw [h0, elimTo]
      exact ⟨show (1 : Int) ≤ 1 by decide, show (1 : Int) ≤ 10000000000 by decide⟩
    · have hd := tree_one hn (show 0 < (loopsV bs N).length by omega)
      obtain ⟨p0, p1⟩ := piv_bd (t := t) hn hd (Nat.le_refl _)
      have h1 := (pb_end (treeN bs N) (by omega) (loopsV bs N).length (by omega) hd (by omega)).1
      rw [← hI.last] at p0 p1
      constructor
      · have : 0 < (elimTo (eqsV (loopsV bs N) (relV bs) t) (loopsV bs N).length).2 := by
          refine Int.not_le.1 fun hle => ?_
          have h2 := cast_le hle
          have h3 : ((0 : Int) : Rat) = 0 := rfl
          grind
        omega
      · refine le_cast ?_
        have h2 := pb_le (b := 10000000000) (show ((pbN (treeN bs N) (loopsV bs N).length : Nat) : Int) ≤ 10000000000 by omega)
        unfold pbR at p1
        grind
  · have hI := elim_net (t := t) hn (Nat.le_refl _)
    unfold elimV
    rw [eqsV_len]
    have hd := tree_one hn hi
    obtain ⟨p0, p1⟩ := piv_bd (t := t) hn hd (Nat.le_refl _)
    have h1 := (pb_end (treeN bs N) (by omega) (loopsV bs N).length (by omega) hd (by omega)).2
    have hc := hI.cell i (loopsV bs N).length (by rw [eqsV_len]; exact hi) (Nat.lt_succ_self _)
    have hg := gj_low hn ht hl (Nat.le_refl _) hi (Nat.le_refl _)
    have h2 := abs_mul (Rat.le_of_lt p0) p1 hg (by grind)
    rw [← hc] at h2
    have h3 : pbR (treeN bs N) (loopsV bs N).length * 133 ≤ ((1000000000000 : Int) : Rat) := by
      unfold pbR
      have h4 := pb_le (b := 1000000000000) (show ((pbN (treeN bs N) (loopsV bs N).length * 133 : Nat) : Int) ≤ 1000000000000 by omega)
      push_cast at h4 ⊢
      grind
    constructor
    · refine le_cast ?_
      rw [Rat.intCast_neg]
      grind
    · refine le_cast ?_
      grind
end
end Go.Proofs.Ytapegimghfflhaa
end
