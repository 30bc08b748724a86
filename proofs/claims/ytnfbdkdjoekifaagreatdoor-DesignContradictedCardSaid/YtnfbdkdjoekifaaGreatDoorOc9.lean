/- Plain facts on cores: heights, the area of widths as the sum of rows. No program is in sight. -/
import Derived.Test.YtnfbdkdjoekifaaGreatDoorRows

section
namespace Go.Proofs.YtnfbdkdjoekifaaGreatDoor
/-- The greatest number whose square is at most n. -/
def rootN : Nat → Nat
  | 0 => 0
  | n + 1 => if (rootN n + 1) * (rootN n + 1) ≤ n + 1 then rootN n + 1 else rootN n
theorem rootN_spec (n : Nat) : rootN n * rootN n ≤ n ∧ n < (rootN n + 1) * (rootN n + 1) := by
  induction n with
  | zero => simp [rootN]
  | succ n ih =>
    rw [rootN]
    split
    · rename_i h
      refine ⟨h, ?_⟩
      have : (rootN n + 1 + 1) * (rootN n + 1 + 1) = (rootN n + 1) * (rootN n + 1) + 2 * (rootN n + 1) + 1 := by grind
      omega
    · omega
theorem sq_mono {a b : Int} (h0 : 0 ≤ a) (h : a ≤ b) : a * a ≤ b * b := Int.mul_le_mul h h h0 (by omega)
theorem root_unique {a b n : Int} (ha : 0 ≤ a) (hb : 0 ≤ b) (h1 : a * a ≤ n) (h2 : n < (a + 1) * (a + 1)) (h3 : b * b ≤ n) (h4 : n < (b + 1) * (b + 1)) : a = b := by
  rcases Int.lt_trichotomy a b with h | h | h
  · have := sq_mono (a := a + 1) (b := b) (by omega) (by omega); omega
  · exact h
  · have := sq_mono (a := b + 1) (b := a) (by omega) (by omega); omega
/-- The height of a width. -/
def hgt (d w : Int) : Int := (rootN (d * d - w * w).toNat : Int)
theorem hgt_spec {d w : Int} (h0 : 0 ≤ w) (h : w ≤ d) : 0 ≤ hgt d w ∧ hgt d w * hgt d w + w * w ≤ d * d ∧ d * d < (hgt d w + 1) * (hgt d w + 1) + w * w := by
  have h1 := sq_mono h0 h
  have h2 := rootN_spec (d * d - w * w).toNat
  have e : (((d * d - w * w).toNat : Nat) : Int) = d * d - w * w := Int.toNat_of_nonneg (by omega)
  unfold hgt
  generalize rootN (d * d - w * w).toNat = r at *
  have h3 : (r : Int) * r ≤ d * d - w * w := by rw [← e]; exact_mod_cast h2.1
  have h4 : d * d - w * w < ((r : Int) + 1) * (r + 1) := by rw [← e]; exact_mod_cast h2.2
  exact ⟨by omega, by omega, by omega⟩
theorem hgt_of {d w h : Int} (h0 : 0 ≤ w) (hd : w ≤ d) (hh : 0 ≤ h) (h1 : h * h ≤ d * d - w * w) (h2 : d * d - w * w < (h + 1) * (h + 1)) : hgt d w = h := by
  obtain ⟨a, b, c⟩ := hgt_spec h0 hd
  exact root_unique a hh (n := d * d - w * w) (by omega) (by omega) h1 h2
theorem hgt_lt {d w : Int} (h0 : 1 ≤ w) (h : w ≤ d) : hgt d w < d := by
  obtain ⟨a, b, c⟩ := hgt_spec (by omega) h
  rcases Int.lt_or_le (hgt d w) d with h1 | h1
  · exact h1
  · have := sq_mono (a := d) (b := hgt d w) (by omega) h1
    have := Int.mul_pos (show 0 < w by omega) (show 0 < w by omega)
    omega
theorem hgt_mono {d w v : Int} (h0 : 0 ≤ v) (h : v ≤ w) (hd : w ≤ d) : hgt d w ≤ hgt d v := by
  obtain ⟨a, b, c⟩ := hgt_spec (d := d) (w := w) (by omega) hd
  obtain ⟨a2, b2, c2⟩ := hgt_spec (d := d) (w := v) h0 (by omega)
  rcases Int.lt_or_le (hgt d v) (hgt d w) with h1 | h1
  · have := sq_mono (a := hgt d v + 1) (b := hgt d w) (by omega) (by omega)
    have := sq_mono h0 h
    omega
  · exact h1
/-- The area of widths above a height. -/
def areaF (d : Int) : Int → List Int → Int
  | _, [] => 0
  | last, w :: l => w * (hgt d w - last) + areaF d (hgt d w) l
def areaD (d : Int) (l : List Int) : Int := areaF d 0 l
/-- Widths that descend, from 1 on to the diameter. -/
def WidthsOk (d : Int) : List Int → Prop
  | [] => True
  | w :: l => 1 ≤ w ∧ w ≤ d ∧ (∀ v ∈ l, v < w) ∧ WidthsOk d l
/-- The width of a row: that of the first strip that reaches it. -/
def rowW (d : Int) (l : List Int) (r : Int) : Int := (l.find? fun w => decide (r ≤ hgt d w)).getD 0
def rowsF (d : Int) (l : List Int) (a : Int) : Nat → Int
  | 0 => 0
  | k + 1 => rowsF d l a k + rowW d l (a + (k : Int) + 1)
theorem rowsF_nil (d a : Int) (k : Nat) : rowsF d [] a k = 0 := by
  induction k with
  | zero => rfl
  | succ k ih => rw [rowsF, ih]; simp [rowW]
theorem rowsF_add (d : Int) (l : List Int) (a : Int) (j : Nat) : ∀ k, rowsF d l a (j + k) = rowsF d l a j + rowsF d l (a + j) k
  | 0 => by simp [rowsF]
  | k + 1 => by
    rw [show j + (k + 1) = (j + k) + 1 by omega, rowsF, rowsF_add d l a j k, rowsF]
    have e : a + ((j + k : Nat) : Int) + 1 = a + (j : Int) + (k : Int) + 1 := by push_cast; omega
    rw [e]
    omega
theorem rowsF_const {d : Int} {l : List Int} {a v : Int} : ∀ {k : Nat}, (∀ j : Nat, j < k → rowW d l (a + (j : Int) + 1) = v) → rowsF d l a k = v * k
  | 0, _ => by simp [rowsF]
  | k + 1, h => by
    rw [rowsF, rowsF_const (k := k) (fun j hj => h j (by omega)), h k (by omega)]
    push_cast
    rw [Int.mul_add, Int.mul_one]
theorem rowsF_congr {d : Int} {l m : List Int} {a : Int} : ∀ {k : Nat}, (∀ j : Nat, j < k → rowW d l (a + (j : Int) + 1) = rowW d m (a + (j : Int) + 1)) → rowsF d l a k = rowsF d m a k
  | 0, _ => rfl
  | k + 1, h => by rw [rowsF, rowsF, rowsF_congr (k := k) (fun j hj => h j (by omega)), h k (by omega)]
theorem WidthsOk.mem {d : Int} : ∀ {l : List Int}, WidthsOk d l → ∀ w ∈ l, 1 ≤ w ∧ w ≤ d
  | [], _, _, h => by cases h
  | x :: l, h, w, hw => by
    rcases List.mem_cons.1 hw with rfl | hw
    · exact ⟨h.1, h.2.1⟩
    · exact WidthsOk.mem h.2.2.2 w hw
/-- The area is that of all rows. -/
theorem area_rows {d : Int} : ∀ {l : List Int} {a : Int} {k : Nat}, WidthsOk d l → 0 ≤ a → (∀ w ∈ l, a ≤ hgt d w) → a + (k : Int) = d → areaF d a l = rowsF d l a k
  | [], a, k, _, _, _, _ => by rw [areaF, rowsF_nil]
  | w :: l, a, k, hw, ha, hl, hk => by
    have h1 := hl w (List.mem_cons_self ..)
    have h2 := hgt_lt hw.1 hw.2.1
    obtain ⟨j, hj⟩ := Int.eq_ofNat_of_zero_le (show 0 ≤ hgt d w - a by omega)
    obtain ⟨m, rfl⟩ : ∃ m, k = j + m := ⟨k - j, by omega⟩
    have hmono : ∀ v ∈ l, hgt d w ≤ hgt d v := fun v hv => hgt_mono (by have := hw.2.2.2.mem v hv; omega) (Int.le_of_lt (hw.2.2.1 v hv)) hw.2.1
    have ih := area_rows (l := l) (a := hgt d w) (k := m) hw.2.2.2 (by omega) hmono (by push_cast at hk; omega)
    rw [areaF, ih, rowsF_add]
    have e1 : rowsF d (w :: l) a j = w * (hgt d w - a) := by
      rw [rowsF_const (v := w) (fun i hi => by
        unfold rowW
        rw [List.find?_cons, show decide (a + (i : Int) + 1 ≤ hgt d w) = true from decide_eq_true (by omega)]
        rfl), hj]
    have e2 : rowsF d (w :: l) (a + j) m = rowsF d l (hgt d w) m := by
      rw [show a + (j : Int) = hgt d w by omega]
      refine rowsF_congr fun i hi => ?_
      unfold rowW
      rw [List.find?_cons, show decide (hgt d w + (i : Int) + 1 ≤ hgt d w) = false from decide_eq_false (by omega)]
    rw [e1, e2]
theorem area_all {d : Int} {l : List Int} {k : Nat} (h : WidthsOk d l) (hk : (k : Int) = d) : areaD d l = rowsF d l 0 k :=
  area_rows h (Int.le_refl _) (fun w hw => (hgt_spec (by have := h.mem w hw; omega) (h.mem w hw).2).1) (by omega)
theorem rowW_nonneg {d : Int} {l : List Int} (h : WidthsOk d l) (r : Int) : 0 ≤ rowW d l r ∧ (rowW d l r ≠ 0 → rowW d l r ∈ l ∧ r ≤ hgt d (rowW d l r)) := by
  unfold rowW
  cases hf : l.find? fun w => decide (r ≤ hgt d w) with
  | none => exact ⟨Int.le_refl _, fun h => absurd rfl h⟩
  | some w =>
    have h1 := List.mem_of_find?_eq_some hf
    have h2 := List.find?_some hf
    have h3 := h.mem w h1
    exact ⟨by show 0 ≤ w; omega, fun _ => ⟨h1, by simpa using h2⟩⟩
theorem area_bd {d : Int} {l : List Int} (hd : 1 ≤ d) (h : WidthsOk d l) : 0 ≤ areaD d l ∧ areaD d l < d * d := by
  obtain ⟨k, hk⟩ := Int.eq_ofNat_of_zero_le (show 0 ≤ d by omega)
  rw [area_all h hk.symm]
  have hb : ∀ r, 0 ≤ rowW d l r ∧ rowW d l r ≤ d := fun r => by
    obtain ⟨h1, h2⟩ := rowW_nonneg h r
    refine ⟨h1, ?_⟩
    by_cases e : rowW d l r = 0
    · omega
    · exact (h.mem _ (h2 e).1).2
  have hz : ∀ r, d ≤ r → rowW d l r = 0 := fun r hr => by
    by_cases e : rowW d l r = 0
    · exact e
    · obtain ⟨h3, h4⟩ := (rowW_nonneg h r).2 e
      have h5 := h.mem _ h3
      have := hgt_lt h5.1 h5.2
      omega
  have key : ∀ j : Nat, 0 ≤ rowsF d l 0 j ∧ rowsF d l 0 j ≤ d * j := by
    intro j
    induction j with
    | zero => simp [rowsF]
    | succ j ih =>
      rw [rowsF]
      have := hb (0 + (j : Int) + 1)
      push_cast
      rw [Int.mul_add, Int.mul_one]
      omega
  obtain ⟨m, rfl⟩ : ∃ m, k = m + 1 := ⟨k - 1, by omega⟩
  rw [rowsF, hz (0 + (m : Int) + 1) (by push_cast at hk; omega)]
  have h1 := key m
  have e : (m : Int) = d - 1 := by push_cast at hk; omega
  rw [e, Int.mul_sub, Int.mul_one] at h1
  omega
end Go.Proofs.YtnfbdkdjoekifaaGreatDoor
end
