/- Plain facts on loops of a network: pivots are above 0, and all numbers are bounded by energies. No program is in sight.
Plain law on networks: the elimination's quotients are whole, and all numbers fit (chapter 3). No condition. -/
import Derived.Test.YtapegimghfflhaaMt
import Derived.Test.YtapegimghfflhaaMl

section
namespace Go.Proofs.Ytapegimghfflhaa
theorem sumR_zero : ∀ (n : Nat) {f : Nat → Rat}, (∀ k, k < n → f k = 0) → sumR f n = 0
  | 0, _, _ => rfl
  | n + 1, f, h => by rw [sumR, sumR_zero n fun k hk => h k (by omega), h n (by omega)]; grind
theorem sumR_add (f g : Nat → Rat) (n : Nat) : sumR (fun k => f k + g k) n = sumR f n + sumR g n := by
  have h := sumR_lin 1 1 f g n
  rw [sumR_congr (g := fun k => 1 * f k + 1 * g k) fun k _ => by grind, h]; grind
theorem sumR_sub (f g : Nat → Rat) (n : Nat) : sumR (fun k => f k - g k) n = sumR f n - sumR g n := by
  have h := sumR_lin 1 (-1) f g n
  rw [sumR_congr (g := fun k => 1 * f k + -1 * g k) fun k _ => by grind, h]; grind
theorem sumR_mul (a : Rat) (f : Nat → Rat) (n : Nat) : sumR (fun k => a * f k) n = a * sumR f n := by
  have h := sumR_lin a 0 f (fun _ => 0) n
  rw [sumR_congr (g := fun k => a * f k + 0 * 0) fun k _ => by grind, h]; grind
theorem sumR_swap (a : Nat → Nat → Rat) (n : Nat) : ∀ k : Nat, sumR (fun j => sumR (fun p => a p j) k) n = sumR (fun p => sumR (fun j => a p j) n) k
  | 0 => sumR_zero n fun _ _ => rfl
  | k + 1 => by
    simp only [sumR]
    rw [sumR_add, sumR_swap a n k]
theorem sumR_le {f g : Nat → Rat} : ∀ {n : Nat}, (∀ k, k < n → f k ≤ g k) → sumR f n ≤ sumR g n
  | 0, _ => by simp only [sumR]; grind
  | n + 1, h => by
    have h1 := sumR_le (f := f) (g := g) (n := n) fun k hk => h k (by omega)
    have h2 := h n (by omega)
    simp only [sumR]; grind
theorem sumR_pos {f : Nat → Rat} {n : Nat} (h : ∀ k, k < n → 0 ≤ f k) : 0 ≤ sumR f n := by
  have h1 := sumR_le (f := fun _ => 0) (g := f) (n := n) h
  rw [sumR_zero n fun _ _ => rfl] at h1
  exact h1
theorem sumR_one {f : Nat → Rat} : ∀ {n : Nat}, (∀ k, k < n → 0 ≤ f k) → ∀ i, i < n → f i ≤ sumR f n
  | 0, _, i, hi => by omega
  | n + 1, h, i, hi => by
    simp only [sumR]
    by_cases e : i = n
    · subst e
      have h1 := sumR_pos (f := f) (n := i) fun k hk => h k (by omega)
      grind
    · have h1 := sumR_one (f := f) (n := n) (fun k hk => h k (by omega)) i (by omega)
      have h2 := h n (by omega)
      grind
theorem sq_pos (a : Rat) : 0 ≤ a * a := by
  rcases Rat.le_total (a := 0) (b := a) with h | h
  · exact Rat.mul_nonneg h h
  · have h1 := Rat.mul_nonneg (a := -a) (b := -a) (by grind) (by grind)
    grind
/-- Loops times their numbers: the fluxes. -/
def flowR (l : Nat → Nat → Rat) (x : Nat → Rat) (k j : Nat) : Rat := sumR (fun p => x p * l p j) k
theorem flow_dot (l : Nat → Nat → Rat) (x r : Nat → Rat) (n k : Nat) : sumR (fun j => flowR l x k j * r j) n = sumR (fun p => x p * sumR (fun j => l p j * r j) n) k := by
  unfold flowR
  rw [sumR_congr (g := fun j => sumR (fun p => x p * (l p j * r j)) k) fun j _ => by
    rw [show sumR (fun p => x p * l p j) k * r j = r j * sumR (fun p => x p * l p j) k by grind, ← sumR_mul]
    exact sumR_congr fun p _ => by grind]
  rw [sumR_swap]
  exact sumR_congr fun p _ => by rw [sumR_mul]
/-- The matrix of loops: its columns below m are those of the loops, the column q stands for T. -/
structure LoopsM (l : Nat → Nat → Rat) (R : Nat → Rat) (n m : Nat) (A : Nat → Nat → Rat) : Prop where
  pos : ∀ j, j < n → 0 < R j
  mat : ∀ i p, p < m → A i p = sumR (fun j => l i j * (R j * l p j)) n
theorem rest_dot {l : Nat → Nat → Rat} {R : Nat → Rat} {n m k q : Nat} {A : Nat → Nat → Rat} {T : Nat → Rat} (hM : LoopsM l R n m A) (hk : k ≤ m) (h : ∀ p, p < k → gj A p p p ≠ 0) (hT : ∀ i, A i q = sumR (fun j => l i j * T j) n) (i : Nat) :
    sumR (fun j => l i j * (T j - R j * flowR l (fun p => gj A k p q) k j)) n = if i < k then 0 else gj A k i q := by
  have h1 := gj_all (A := A) q i h
  have h2 : sumR (fun j => l i j * (R j * flowR l (fun p => gj A k p q) k j)) n = sumR (fun p => A i p * gj A k p q) k := by
    have h3 := flow_dot l (fun p => gj A k p q) (fun j => l i j * R j) n k
    rw [sumR_congr (g := fun j => flowR l (fun p => gj A k p q) k j * (l i j * R j)) fun j _ => by grind, h3]
    exact sumR_congr fun p hp => by
      rw [hM.mat i p (by omega), sumR_congr (f := fun j => l p j * (l i j * R j)) (g := fun j => l i j * (R j * l p j)) fun j _ => by grind]
      grind
  rw [sumR_congr (g := fun j => l i j * T j - l i j * (R j * flowR l (fun p => gj A k p q) k j)) fun j _ => by grind, sumR_sub, h2, ← hT i]
  grind
theorem flow_rest {l : Nat → Nat → Rat} {R : Nat → Rat} {n m k q : Nat} {A : Nat → Nat → Rat} {T : Nat → Rat} (hM : LoopsM l R n m A) (hk : k ≤ m) (h : ∀ p, p < k → gj A p p p ≠ 0) (hT : ∀ i, A i q = sumR (fun j => l i j * T j) n) (x : Nat → Rat) :
    sumR (fun j => flowR l x k j * (T j - R j * flowR l (fun p => gj A k p q) k j)) n = 0 := by
  rw [flow_dot]
  exact sumR_zero k fun p hp => by rw [rest_dot hM hk h hT p, if_pos hp]; grind
/-- Energies: that of the fluxes and that of what is left over are together that of T. -/
theorem energy_parts {l : Nat → Nat → Rat} {R : Nat → Rat} {n m k q : Nat} {A : Nat → Nat → Rat} {T : Nat → Rat} (hM : LoopsM l R n m A) (hk : k ≤ m) (h : ∀ p, p < k → gj A p p p ≠ 0) (hT : ∀ i, A i q = sumR (fun j => l i j * T j) n) :
    sumR (fun j => R j * (flowR l (fun p => gj A k p q) k j * flowR l (fun p => gj A k p q) k j)) n + sumR (fun j => (T j - R j * flowR l (fun p => gj A k p q) k j) * (T j - R j * flowR l (fun p => gj A k p q) k j) / R j) n = sumR (fun j => T j * T j / R j) n := by
  have h1 := flow_rest hM hk h hT (fun p => gj A k p q)
  generalize hf : flowR l (fun p => gj A k p q) k = f at *
  have h2 : sumR (fun j => T j * T j / R j) n = sumR (fun j => R j * (f j * f j) + (T j - R j * f j) * (T j - R j * f j) / R j + 2 * (f j * (T j - R j * f j))) n := sumR_congr fun j hj => by
    have h3 := hM.pos j hj
    have h4 : R j ≠ 0 := by grind
    generalize R j = r at *
    generalize f j = a at *
    generalize T j = t at *
    rw [Rat.div_def, Rat.div_def]
    have h5 : r * r⁻¹ = 1 := Rat.mul_inv_cancel r h4
    generalize r⁻¹ = s at *
    grind
  rw [h2, sumR_add, sumR_add, sumR_mul, h1]
  grind
theorem div_pos2 {a r : Rat} (h : 0 < r) (g : 0 ≤ a) : 0 ≤ a / r := by
  rw [Rat.div_def]
  exact Rat.mul_nonneg g (Rat.le_of_lt (Rat.inv_pos.2 h))
theorem flow_energy {l : Nat → Nat → Rat} {R : Nat → Rat} {n m k q : Nat} {A : Nat → Nat → Rat} {T : Nat → Rat} (hM : LoopsM l R n m A) (hk : k ≤ m) (h : ∀ p, p < k → gj A p p p ≠ 0) (hT : ∀ i, A i q = sumR (fun j => l i j * T j) n) :
    sumR (fun j => R j * (flowR l (fun p => gj A k p q) k j * flowR l (fun p => gj A k p q) k j)) n ≤ sumR (fun j => T j * T j / R j) n := by
  have h1 := energy_parts hM hk h hT
  have h2 := sumR_pos (f := fun j => (T j - R j * flowR l (fun p => gj A k p q) k j) * (T j - R j * flowR l (fun p => gj A k p q) k j) / R j) (n := n) fun j hj => div_pos2 (hM.pos j hj) (sq_pos _)
  grind
theorem rest_energy {l : Nat → Nat → Rat} {R : Nat → Rat} {n m k q : Nat} {A : Nat → Nat → Rat} {T : Nat → Rat} (hM : LoopsM l R n m A) (hk : k ≤ m) (h : ∀ p, p < k → gj A p p p ≠ 0) (hT : ∀ i, A i q = sumR (fun j => l i j * T j) n) :
    sumR (fun j => (T j - R j * flowR l (fun p => gj A k p q) k j) * (T j - R j * flowR l (fun p => gj A k p q) k j) / R j) n ≤ sumR (fun j => T j * T j / R j) n := by
  have h1 := energy_parts hM hk h hT
  have h2 := sumR_pos (f := fun j => R j * (flowR l (fun p => gj A k p q) k j * flowR l (fun p => gj A k p q) k j)) (n := n) fun j hj => Rat.mul_nonneg (by have := hM.pos j hj; grind) (sq_pos _)
  grind
/-- Each loop has a branch of its own. -/
structure Chords (l : Nat → Nat → Rat) (n m : Nat) (c : Nat → Nat) : Prop where
  lt : ∀ i, i < m → c i < n
  own : ∀ i, i < m → l i (c i) = 1
  other : ∀ i, i < m → ∀ p, p < m → p ≠ i → l p (c i) = 0
theorem flow_chord {l : Nat → Nat → Rat} {n m : Nat} {c : Nat → Nat} (hc : Chords l n m c) (x : Nat → Rat) {i : Nat} (hi : i < m) : ∀ {k : Nat}, k ≤ m → flowR l x k (c i) = if i < k then x i else 0
  | 0, _ => by rw [if_neg (by omega)]; rfl
  | k + 1, hk => by
    have h1 := flow_chord hc x hi (k := k) (by omega)
    unfold flowR at h1 ⊢
    rw [sumR, h1]
    rcases Nat.lt_trichotomy i k with h | h | h
    · rw [if_pos h, if_pos (by omega), hc.other i hi k (by omega) (by omega)]; grind
    · subst h
      rw [if_neg (by omega), if_pos (by omega), hc.own i hi]; grind
    · rw [if_neg (by omega), if_neg (by omega), hc.other i hi k (by omega) (by omega)]; grind
theorem pivot_sum {l : Nat → Nat → Rat} {R : Nat → Rat} {n m k : Nat} {A : Nat → Nat → Rat} (hM : LoopsM l R n m A) (hk : k < m) (h : ∀ p, p < k → gj A p p p ≠ 0) :
    gj A k k k = sumR (fun j => R j * ((l k j - flowR l (fun p => gj A k p k) k j) * (l k j - flowR l (fun p => gj A k p k) k j))) n := by
  have hT : ∀ i, A i k = sumR (fun j => l i j * (R j * l k j)) n := fun i => hM.mat i k hk
  have h1 := rest_dot hM (by omega) h hT k
  have h2 := flow_rest hM (by omega) h hT (fun p => gj A k p k)
  rw [if_neg (by omega)] at h1
  rw [← h1]
  generalize hf : flowR l (fun p => gj A k p k) k = f at *
  have h3 : sumR (fun j => l k j * (R j * l k j - R j * f j) - f j * (R j * l k j - R j * f j)) n = sumR (fun j => l k j * (R j * l k j - R j * f j)) n := by
    rw [sumR_sub, h2]; grind
  rw [← h3]
  exact sumR_congr fun j _ => by grind
theorem pivot_ge {l : Nat → Nat → Rat} {R : Nat → Rat} {n m : Nat} {A : Nat → Nat → Rat} {c : Nat → Nat} (hM : LoopsM l R n m A) (hc : Chords l n m c) : ∀ {k : Nat}, k ≤ m → ∀ p, p < k → 0 < gj A p p p ∧ R (c p) ≤ gj A p p p
  | 0, _, _, hp => by omega
  | k + 1, hk, p, hp => by
    have ih := pivot_ge hM hc (k := k) (by omega)
    by_cases e : p = k
    · subst e
      have h1 := pivot_sum hM (k := p) (by omega) fun p hp => by have := ih p hp; grind
      have h2 := sumR_one (f := fun j => R j * ((l p j - flowR l (fun i => gj A p i p) p j) * (l p j - flowR l (fun i => gj A p i p) p j))) (n := n) (fun j hj => Rat.mul_nonneg (Rat.le_of_lt (hM.pos j hj)) (sq_pos _)) (c p) (hc.lt p (by omega))
      rw [← h1, hc.own p (by omega), flow_chord hc _ (by omega) (by omega), if_neg (by omega)] at h2
      have h3 := hM.pos (c p) (hc.lt p (by omega))
      grind
    · exact ih p (by omega)
theorem pivot_ne {l : Nat → Nat → Rat} {R : Nat → Rat} {n m : Nat} {A : Nat → Nat → Rat} {c : Nat → Nat} (hM : LoopsM l R n m A) (hc : Chords l n m c) {k : Nat} (hk : k ≤ m) : ∀ p, p < k → gj A p p p ≠ 0 := fun p hp => by
  have := pivot_ge hM hc hk p hp
  grind
/-- A pivot is at most the energy of its loop together with any of the loops before. -/
theorem pivot_le {l : Nat → Nat → Rat} {R : Nat → Rat} {n m k : Nat} {A : Nat → Nat → Rat} {c : Nat → Nat} (hM : LoopsM l R n m A) (hc : Chords l n m c) (hk : k < m) (u : Nat → Rat) :
    gj A k k k ≤ sumR (fun j => R j * ((l k j + flowR l u k j) * (l k j + flowR l u k j))) n := by
  have h := pivot_ne hM hc (k := k) (by omega)
  have hT : ∀ i, A i k = sumR (fun j => l i j * (R j * l k j)) n := fun i => hM.mat i k hk
  have h1 := pivot_sum hM hk h
  have h2 := flow_rest hM (by omega) h hT (fun p => gj A k p k)
  have h3 := flow_rest hM (by omega) h hT u
  generalize hf : flowR l (fun p => gj A k p k) k = f at *
  generalize hg : flowR l u k = g at *
  have h4 := sumR_pos (f := fun j => R j * ((f j + g j) * (f j + g j))) (n := n) fun j hj => Rat.mul_nonneg (Rat.le_of_lt (hM.pos j hj)) (sq_pos _)
  have h5 : sumR (fun j => R j * ((l k j + g j) * (l k j + g j))) n = sumR (fun j => R j * ((l k j - f j) * (l k j - f j)) + R j * ((f j + g j) * (f j + g j)) + 2 * (f j * (R j * l k j - R j * f j) + g j * (R j * l k j - R j * f j))) n := sumR_congr fun j _ => by grind
  rw [h5, sumR_add, sumR_add, sumR_mul, sumR_add, h2, h3, ← h1]
  grind
theorem sol_bound {l : Nat → Nat → Rat} {R : Nat → Rat} {n m k q : Nat} {A : Nat → Nat → Rat} {T : Nat → Rat} {c : Nat → Nat} (hM : LoopsM l R n m A) (hc : Chords l n m c) (hk : k ≤ m) (hT : ∀ i, A i q = sumR (fun j => l i j * T j) n) {p : Nat} (hp : p < k) :
    R (c p) * (gj A k p q * gj A k p q) ≤ sumR (fun j => T j * T j / R j) n := by
  have h := pivot_ne hM hc hk
  have h1 := flow_energy hM hk h hT
  have h2 := sumR_one (f := fun j => R j * (flowR l (fun p => gj A k p q) k j * flowR l (fun p => gj A k p q) k j)) (n := n) (fun j hj => Rat.mul_nonneg (Rat.le_of_lt (hM.pos j hj)) (sq_pos _)) (c p) (hc.lt p (by omega))
  rw [flow_chord hc _ (by omega) hk, if_pos hp] at h2
  grind
theorem cauchy {R a r : Nat → Rat} {n : Nat} (hR : ∀ j, j < n → 0 < R j) (ha : 0 < sumR (fun j => R j * (a j * a j)) n) :
    sumR (fun j => a j * r j) n * sumR (fun j => a j * r j) n ≤ sumR (fun j => R j * (a j * a j)) n * sumR (fun j => r j * r j / R j) n := by
  generalize hA : sumR (fun j => R j * (a j * a j)) n = A at *
  generalize hB : sumR (fun j => a j * r j) n = B
  generalize hC : sumR (fun j => r j * r j / R j) n = C
  have h1 := sumR_pos (f := fun j => R j * ((A * (r j / R j) - B * a j) * (A * (r j / R j) - B * a j))) (n := n) fun j hj => Rat.mul_nonneg (Rat.le_of_lt (hR j hj)) (sq_pos _)
  have h2 : sumR (fun j => R j * ((A * (r j / R j) - B * a j) * (A * (r j / R j) - B * a j))) n = sumR (fun j => (A * A) * (r j * r j / R j) + (-2 * A * B) * (a j * r j) + (B * B) * (R j * (a j * a j))) n := sumR_congr fun j hj => by
    have h3 := hR j hj
    have h5 : R j * (R j)⁻¹ = 1 := Rat.mul_inv_cancel _ (by grind)
    rw [Rat.div_def, Rat.div_def]
    generalize (R j)⁻¹ = s at *
    generalize R j = t at *
    grind
  rw [h2, sumR_add, sumR_add, sumR_mul, sumR_mul, sumR_mul, hA, hB, hC] at h1
  have h3 : 0 ≤ A * (A * C - B * B) := by grind
  rcases Rat.le_total (a := 0) (b := A * C - B * B) with h4 | h4
  · grind
  · have h6 : A * (A * C - B * B) = 0 := by
      have := Rat.mul_nonneg (Rat.le_of_lt ha) (b := -(A * C - B * B)) (by grind)
      grind
    have h7 : A * C - B * B = 0 := by
      rcases Rat.mul_eq_zero.1 h6 with h8 | h8
      · grind
      · exact h8
    grind
theorem rest_bound {l : Nat → Nat → Rat} {R : Nat → Rat} {n m k q : Nat} {A : Nat → Nat → Rat} {T : Nat → Rat} {c : Nat → Nat} (hM : LoopsM l R n m A) (hc : Chords l n m c) (hk : k ≤ m) (hT : ∀ i, A i q = sumR (fun j => l i j * T j) n) {i : Nat} (hi : k ≤ i) (hi2 : i < m) :
    gj A k i q * gj A k i q ≤ A i i * sumR (fun j => T j * T j / R j) n := by
  have h := pivot_ne hM hc hk
  have h1 := rest_energy hM hk h hT
  have h2 := rest_dot hM hk h hT i
  rw [if_neg (by omega)] at h2
  have h3 : A i i = sumR (fun j => R j * (l i j * l i j)) n := by
    rw [hM.mat i i hi2]
    exact sumR_congr fun j _ => by grind
  have h4 : 0 < A i i := by
    rw [h3]
    have h5 := sumR_one (f := fun j => R j * (l i j * l i j)) (n := n) (fun j hj => Rat.mul_nonneg (Rat.le_of_lt (hM.pos j hj)) (sq_pos _)) (c i) (hc.lt i hi2)
    rw [hc.own i hi2] at h5
    have h6 := hM.pos (c i) (hc.lt i hi2)
    grind
  have h7 := cauchy (R := R) (a := l i) (r := fun j => T j - R j * flowR l (fun p => gj A k p q) k j) (n := n) hM.pos (by rw [← h3]; exact h4)
  rw [h2, ← h3] at h7
  have h8 := Rat.mul_le_mul_of_nonneg_left h1 (Rat.le_of_lt h4)
  grind
end Go.Proofs.Ytapegimghfflhaa
end

section
namespace Go.Proofs.Ytapegimghfflhaa

theorem cast_le {a b : Int} (h : a ≤ b) : (a : Rat) ≤ (b : Rat) := by exact_mod_cast h
theorem le_cast {a b : Int} (h : (a : Rat) ≤ (b : Rat)) : a ≤ b := by exact_mod_cast h
/-- The numbers of loops, reluctances, and the equations, as fractions. -/
def lR (L : List (List Int)) (p j : Nat) : Rat := ((L.getD p []).getD j 0 : Int)
def rR (r : List Int) (j : Nat) : Rat := (r.getD j 0 : Int)
def aR (L : List (List Int)) (r t : List Int) (i q : Nat) : Rat := if q < L.length then (matTo (L.getD i []) (L.getD q []) r r.length : Int) else (dotV (L.getD i []) t : Int)
theorem mat_cast (l m r : List Int) : ∀ n, ((matTo l m r n : Int) : Rat) = sumR (fun j => ((l.getD j 0 : Int) : Rat) * (((r.getD j 0 : Int) : Rat) * ((m.getD j 0 : Int) : Rat))) n
  | 0 => rfl
  | n + 1 => by
    rw [matTo, sumR, Rat.intCast_add, Rat.intCast_mul, Rat.intCast_mul, mat_cast l m r n]
    grind
theorem dot_cast (v w : List Int) : ∀ n, ((dotTo v w n : Int) : Rat) = sumR (fun j => ((v.getD j 0 : Int) : Rat) * ((w.getD j 0 : Int) : Rat)) n
  | 0 => rfl
  | n + 1 => by
    rw [dotTo, sumR, Rat.intCast_add, Rat.intCast_mul, dot_cast v w n]
section
variable {N : Nat} {bs : List FBr} {t : List Int}
theorem rel_at {j : Nat} (hj : j < bs.length) : (relV bs).getD j 0 = (bs.getD j default).r := by
  unfold relV
  rw [List.getD_eq_getElem?_getD, List.getElem?_map, List.getD_eq_getElem?_getD, List.getElem?_eq_getElem hj]
  rfl
theorem getD_memB {j : Nat} (hj : j < bs.length) : bs.getD j default ∈ bs := by
  rw [List.getD_eq_getElem?_getD, List.getElem?_eq_getElem hj]
  exact List.getElem_mem hj
theorem rel_bd (hn : NetOk N bs) {j : Nat} (hj : j < bs.length) : 1 ≤ rR (relV bs) j ∧ rR (relV bs) j ≤ 20 := by
  obtain ⟨_, _, _, h4, _⟩ := hn.br _ (getD_memB hj)
  unfold rR
  rw [rel_at hj]
  exact ⟨cast_le h4.1, cast_le h4.2⟩
theorem loops_mat (hn : NetOk N bs) : LoopsM (lR (loopsV bs N)) (rR (relV bs)) bs.length (loopsV bs N).length (aR (loopsV bs N) (relV bs) t) := by
  refine ⟨fun j hj => ?_, fun i p hp => ?_⟩
  · have := (rel_bd hn hj).1
    grind
  · unfold aR lR rR
    rw [if_pos hp, show (relV bs).length = bs.length from List.length_map _]
    exact mat_cast _ _ _ _
/-- The branch of a loop. -/
def chordN (bs : List FBr) (N p : Nat) : Nat := (chordsTo (forestV bs N).hangs bs.length).getD p 0
theorem loops_chords (hn : NetOk N bs) : Chords (lR (loopsV bs N)) bs.length (loopsV bs N).length (chordN bs N) := by
  refine ⟨fun i hi => (chord_at bs N hi).1, fun i hi => ?_, fun i hi p hp hne => ?_⟩
  · unfold lR
    rw [loopsV_at bs N hi, chordN, loop_chord hn (chord_at bs N hi).1 (chord_at bs N hi).1 (chord_at bs N hi).2, if_pos rfl]
    rfl
  · unfold lR
    rw [loopsV_at bs N hp, chordN, loop_chord hn (chord_at bs N hp).1 (chord_at bs N hi).1 (chord_at bs N hi).2, if_neg fun e => hne (chord_inj bs N hp hi e)]
    rfl
theorem loops_dot (hn : NetOk N bs) (_ht : t.length = bs.length) (i : Nat) : aR (loopsV bs N) (relV bs) t i (loopsV bs N).length = sumR (fun j => lR (loopsV bs N) i j * ((t.getD j 0 : Int) : Rat)) bs.length := by
  unfold aR lR
  rw [if_neg (Nat.lt_irrefl _)]
  by_cases hi : i < (loopsV bs N).length
  · have hl := (loopsV_ok hn).len ((loopsV bs N).getD i []) (by
      rw [List.getD_eq_getElem?_getD, List.getElem?_eq_getElem hi]
      exact List.getElem_mem hi)
    unfold dotV
    rw [hl]
    exact dot_cast _ _ _
  · have h0 : (loopsV bs N).getD i [] = [] := by
      rw [List.getD_eq_getElem?_getD, List.getElem?_eq_none (by omega)]
      rfl
    rw [h0, sumR_zero]
    · rfl
    · intro j _
      show ((0 : Int) : Rat) * _ = 0
      exact Rat.zero_mul _
end
/-! The elimination in whole numbers is that in fractions, times the product of the pivots. -/
section
variable {M : List (List Int)} {A : Nat → Nat → Rat} {c : Nat}
theorem getD_range (n i : Nat) (g : Nat → List Int) (hi : i < n) : ((List.range n).map g).getD i [] = g i := by
  simp [List.getD, hi]
theorem getD_rangeI (n i : Nat) (g : Nat → Int) (hi : i < n) : ((List.range n).map g).getD i 0 = g i := by
  simp [List.getD, hi]
theorem elimTo_len (M : List (List Int)) : ∀ k, (elimTo M k).1.length = M.length
  | 0 => rfl
  | k + 1 => by
    rw [elimTo, elimS, List.length_map, List.length_range]
    exact elimTo_len M k
theorem elimTo_row {M : List (List Int)} (hM : ∀ i, i < M.length → (M.getD i []).length = c) : ∀ k i, i < M.length → ((elimTo M k).1.getD i []).length = c
  | 0, i, hi => hM i hi
  | k + 1, i, hi => by
    have ih := elimTo_row hM k i hi
    rw [elimTo, elimS]
    dsimp only
    rw [elimTo_len, getD_range _ _ _ hi]
    split
    · exact ih
    · rw [elimR, List.length_map, List.length_range]
      exact ih
/-- What the elimination has done behind k columns. -/
structure ElimIs (M : List (List Int)) (A : Nat → Nat → Rat) (c k : Nat) : Prop where
  last : (((elimTo M k).2 : Int) : Rat) = piv A k
  cell : ∀ i j, i < M.length → j < c → ((((elimTo M k).1.getD i []).getD j 0 : Int) : Rat) = piv A k * gj A k i j
theorem cast_inj {a b : Int} (h : (a : Rat) = (b : Rat)) : a = b := by exact_mod_cast h
theorem piv_ne {A : Nat → Nat → Rat} : ∀ {k : Nat}, (∀ p, p < k → gj A p p p ≠ 0) → piv A k ≠ 0
  | 0, _ => show (1 : Rat) ≠ 0 by decide
  | k + 1, h => by
    rw [piv]
    have h1 := piv_ne (A := A) (k := k) fun p hp => h p (by omega)
    have h2 := h k (by omega)
    intro e
    rcases Rat.mul_eq_zero.1 e with e | e
    · exact h1 e
    · exact h2 e
theorem diff_is {k : Nat} (h : ElimIs M A c k) (hA : ∀ i j, IsWhole (A i j)) (hp : ∀ p, p < k + 1 → gj A p p p ≠ 0) (hk : k < M.length) (hkc : k < c) {i j : Nat} (hi : i < M.length) (hj : j < c) (hne : i ≠ k) :
    ∃ z : Int, (z : Rat) = piv A (k + 1) * gj A (k + 1) i j ∧ diffE M k i j = (elimTo M k).2 * z := by
  obtain ⟨z, hz⟩ := gj_whole hA hp i j
  refine ⟨z, hz.symm, ?_⟩
  have h1 := gj_step hp i j hne
  have e1 := h.cell k k hk hkc
  have e2 := h.cell i j hi hj
  have e3 := h.cell i k hi hkc
  have e4 := h.cell k j hk hj
  refine cast_inj ?_
  unfold diffE
  rw [Rat.intCast_sub, Rat.intCast_mul, Rat.intCast_mul, Rat.intCast_mul, e1, e2, e3, e4, h.last, ← hz, ← h1]
  rw [show piv A k * gj A k k k = piv A (k + 1) from rfl]
theorem elim_is (hA : ∀ i j, IsWhole (A i j)) (hM : ∀ i, i < M.length → (M.getD i []).length = c) (hc : M.length ≤ c) (h0 : ∀ i j, i < M.length → j < c → (((M.getD i []).getD j 0 : Int) : Rat) = A i j) : ∀ {k : Nat}, k ≤ M.length → (∀ p, p < k → gj A p p p ≠ 0) → ElimIs M A c k
  | 0, _, _ => by
    refine ⟨rfl, fun i j hi hj => ?_⟩
    rw [show piv A 0 = 1 from rfl, show gj A 0 i j = A i j from rfl]
    have := h0 i j hi hj
    show (((M.getD i []).getD j 0 : Int) : Rat) = _
    grind
  | k + 1, hk, hp => by
    have ih := elim_is hA hM hc h0 (show k ≤ M.length by omega) fun p hp2 => hp p (by omega)
    have hne := piv_ne (A := A) (k := k) fun p hp2 => hp p (by omega)
    refine ⟨?_, fun i j hi hj => ?_⟩
    · rw [elimTo]
      dsimp only
      rw [ih.cell k k (by omega) (by omega)]
      rfl
    · rw [elimTo, elimS]
      dsimp only
      rw [elimTo_len, getD_range _ _ _ hi]
      by_cases e : i = k
      · rw [if_pos e, ih.cell i j hi hj, e]
        exact (gj_row hp j).symm
      · rw [if_neg e, elimR, elimTo_row hM k i hi, getD_rangeI _ _ _ hj]
        obtain ⟨z, hz, hd⟩ := diff_is ih hA hp (by omega) (by omega) hi hj e
        have hl : (elimTo M k).2 ≠ 0 := fun e2 => hne (by rw [← ih.last, e2]; rfl)
        rw [show ((elimTo M k).1.getD k []).getD k 0 * ((elimTo M k).1.getD i []).getD j 0 - ((elimTo M k).1.getD i []).getD k 0 * ((elimTo M k).1.getD k []).getD j 0 = diffE M k i j from rfl, hd, Int.mul_tdiv_cancel_left _ hl]
        exact hz
end
end Go.Proofs.Ytapegimghfflhaa
end
