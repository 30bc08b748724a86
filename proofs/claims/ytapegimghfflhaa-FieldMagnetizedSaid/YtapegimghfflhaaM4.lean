/- Small words on memory that all walks use: a slice that reads as a list of numbers, facts on blocks. (Partly turned from the pages of small lemmas.) No condition.
Plain facts on numbers; blocks of memory that are known whole. No condition.
Contracts of the small functions of package design: first, unless, within, small. Each computes just what its name says; nothing is written that was there.
Plain law: the flux fits its drop (chapter 3, FieldMagnetized). No condition. -/
import Derived.Test.YtapegimghfflhaaRows
import Derived.WalkKit
import Derived.WalkSpells
import Derived.WalkLawsBesides
import Derived.Deep.AppendLies
import Derived.Deep.Draws
import Derived.Lib.Hide
import Derived.Test.YtapegimghfflhaaM3

section
namespace Go.Proofs.Ytapegimghfflhaa
open Go.RowKit

/-- The cells below B read the same and bear the same marks. -/
theorem bcell {B : Nat} {W w1 : World} (hb : Below B W w1) : (∀ b o, b < B → w1.cell? ⟨b, o, none⟩ = W.cell? ⟨b, o, none⟩) ∧ (∀ b o, b < B → w1.frozen? ⟨b, o, none⟩ = W.frozen? ⟨b, o, none⟩) :=
  ⟨fun b o h => hb.cell (p := ⟨b, o, none⟩) h, fun b o h => hb.frozen (p := ⟨b, o, none⟩) h⟩

theorem below_drewN' {B : Nat} {a w : World} (h : Below B a w) (n : Nat) : Below B a (w.drewN n) := ⟨h.os, h.tape, h.output, h.size, h.block⟩

/-- What is as it was below the heap's size at the beginning: a new block; a callee; a draw. -/
theorem pa {w a : World} (h : Below w.heap.size w a) {o : Obj} : Below w.heap.size w (a.alloc o) := h.alloc h.size o
theorem pt {w a b : World} (h : Below w.heap.size w a) (h2 : Below a.heap.size a b) : Below w.heap.size w b := h.trans (h2.mono h.size)
theorem pr {w : World} : Below w.heap.size w w := Below.refl _ _
theorem pd {w a : World} (h : Below w.heap.size w a) : Below w.heap.size w a.drew := h.drew
theorem ps {w a : World} (h : Below w.heap.size w a) {p : Addr} (hp : w.heap.size ≤ p.block) {u : Value} : Below w.heap.size w (a.setCell p u) := h.setCell hp u

theorem ret_int {k : IntKind} {a b : Int} (h : a = b) : Ending.returned (.int k a) = .returned (.int k b) := by rw [h]
theorem ret_ii {k l : IntKind} {a b c d : Int} (h : a = b) (h2 : c = d) : Ending.returned (.tuple #[.int k a, .int l c]) = .returned (.tuple #[.int k b, .int l d]) := by rw [h, h2]
theorem ret_bool {a b : Bool} (h : a = b) : Ending.returned (.bool a) = .returned (.bool b) := by rw [h]

/-- A slice at A reads as the numbers xs; its cells lie below block B. -/
def IntsIn (B : Nat) (w : World) (A : Option Addr) (xs : List Int) : Prop :=
  xs = [] ∨ ∃ b off, A = some ⟨b, off, none⟩ ∧ b < B ∧ ∀ j, j < xs.length → w.cell? ⟨b, off + j, none⟩ = some (.int .i64 (xs.getD j 0))

section
variable {w w' : World} {B B' : Nat} {A : Option Addr} {xs : List Int}
theorem IntsIn.nil : IntsIn B w A [] := .inl rfl
theorem IntsIn.at_ {k : Nat} (h : IntsIn B w A xs) (hk : k < xs.length) : ∃ b off, A = some ⟨b, off, none⟩ ∧ b < B ∧ ∀ j, j < xs.length → w.cell? ⟨b, off + j, none⟩ = some (.int .i64 (xs.getD j 0)) := by
  rcases h with h | h
  · subst h; simp at hk
  · exact h
theorem IntsIn.keep (h : IntsIn B w A xs) (hk : ∀ b o, b < B → w'.cell? ⟨b, o, none⟩ = w.cell? ⟨b, o, none⟩) : IntsIn B w' A xs := by
  rcases h with h | ⟨b, off, hA, hb, hc⟩
  · exact .inl h
  · exact .inr ⟨b, off, hA, hb, fun j hj => (hk _ _ hb).trans (hc j hj)⟩
theorem IntsIn.below (h : IntsIn B w A xs) (hb : Below B w w') : IntsIn B w' A xs := h.keep (bcell hb).1
theorem IntsIn.more (h : IntsIn B w A xs) (hB : B ≤ B') : IntsIn B' w A xs := by
  rcases h with h | ⟨b, off, hA, hb, hc⟩
  · exact .inl h
  · exact .inr ⟨b, off, hA, by omega, hc⟩
end

end Go.Proofs.Ytapegimghfflhaa
end

section
namespace Go.Proofs.Ytapegimghfflhaa
open Go.RowKit

theorem w64 {n : Int} (h : -9223372036854775808 ≤ n ∧ n ≤ 9223372036854775807) : wrap64 n = n := by unfold wrap64; omega

/-- Block g is just these cells of this type, none of them marked. -/
def Blk (w : World) (g : Nat) (t : TypeId) (cs : Array Value) : Prop := w.heap[g]? = some (.cells cs t (0, 0))

section
variable {w w' : World} {g : Nat} {t : TypeId} {cs : Array Value}
theorem Blk.lt (h : Blk w g t cs) : g < w.heap.size := by
  rcases Nat.lt_or_ge g w.heap.size with hlt | hge
  · exact hlt
  · unfold Blk at h; rw [Array.getElem?_eq_none hge] at h; cases h
theorem Blk.cell (h : Blk w g t cs) (i : Nat) : w.cell? ⟨g, i, none⟩ = cs[i]? := by
  unfold Blk at h
  simp [World.cell?, h]
theorem Blk.cellAt (h : Blk w g t cs) (i : Nat) {v : Value} (hv : cs[i]? = some v) : w.cell? ⟨g, i, none⟩ = some v := (h.cell i).trans hv
theorem Blk.frozen (h : Blk w g t cs) (i : Nat) : w.frozen? ⟨g, i, none⟩ = false := by
  unfold Blk at h
  simp [World.frozen?, h]
theorem Blk.new (w : World) (t : TypeId) (cs : Array Value) : Blk (w.alloc (.cells cs t)) w.heap.size t cs := heap_alloc_new w _
theorem Blk.newAt {n : Nat} (h : w.heap.size = n) : Blk (w.alloc (.cells cs t)) n t cs := h ▸ Blk.new w t cs
theorem Blk.drew (h : Blk w g t cs) : Blk w.drew g t cs := h
theorem Blk.alloc (h : Blk w g t cs) {o : Obj} : Blk (w.alloc o) g t cs := (Below.heap_alloc w o g h.lt).trans h
theorem Blk.set_ (h : Blk w g t cs) (i : Nat) (u : Value) : Blk (w.setCell ⟨g, i, none⟩ u) g t (cs.setIfInBounds i u) := by
  unfold Blk at h ⊢
  simp [World.setCell, Array.getElem?_modify, h]
theorem Blk.far (h : Blk w g t cs) {p : Addr} (hp : g ≠ p.block) {u : Value} : Blk (w.setCell p u) g t cs := (Below.heap_setCell w p u g hp).trans h
theorem Blk.below {B : Nat} (h : Blk w g t cs) (hb : Below B w w') (hg : g < B) : Blk w' g t cs := (hb.block g hg).trans h
theorem Blk.past (h : Blk w g t cs) (hb : Below w.heap.size w w') : Blk w' g t cs := h.below hb h.lt
theorem Blk.grown {row : Option Nat} (h : Blk w g t cs) (hb : w.grownBy w' row) (hg : some g ≠ row) : Blk w' g t cs := (hb.block g h.lt hg).trans h
end

end Go.Proofs.Ytapegimghfflhaa
end

section
namespace Go.Proofs.Ytapegimghfflhaa
open Go.RowKit

/-- The first number that is not 0. -/
def firstV : List Int → Int
  | [] => 0
  | x :: l => if x = 0 then firstV l else x

def unlessV (ok : Bool) (e : Int) : Int := if ok then 0 else e
def withinB (n lo hi : Int) : Bool := decide (lo ≤ n) && decide (n ≤ hi)

theorem firstV_drop (xs : List Int) (k : Nat) (h : k < xs.length) : firstV (xs.drop k) = if xs.getD k 0 = 0 then firstV (xs.drop (k + 1)) else xs.getD k 0 := by
  rw [List.drop_eq_getElem_cons h, firstV]
  simp [List.getD, h]

theorem unless_ne {b : Bool} {e : Int} (he : e ≠ 0) : unlessV b e = 0 ↔ b = true := by cases b <;> simp [unlessV, he]
theorem firstV_zero {x : Int} {l : List Int} : firstV (x :: l) = 0 ↔ x = 0 ∧ firstV l = 0 := by
  unfold firstV
  by_cases h : x = 0
  · subst h; simp; cases l <;> simp [firstV]
  · simp [h]

theorem refWithin_any (n lo hi : Int) (w : World) :
    Calls Try.prog 7 #[.int .i64 n, .int .i64 lo, .int .i64 hi] w fun r w' => r = .returned (.bool (withinB n lo hi)) ∧ w = w' := by
  by_cases h : lo ≤ n
  all_goals
    go_enter Try.func7, Try.ntmps7
    go_wp2
    all_goals
      go_ret
      exact ⟨ret_bool (by simp [withinB]; try omega), rfl⟩

/-- The first place at which a function of the place is not 0, with what it is there. -/
def scanF (f : Nat → Int) : Nat → Nat → Nat × Int
  | 0, _ => (0, 0)
  | n + 1, k => if f k = 0 then scanF f n (k + 1) else (k, f k)
def scan (f : Nat → Int) (n k : Nat) : Nat × Int := scanF f (n - k) k
theorem scan_step {f : Nat → Int} {n k : Nat} (h : k < n) : scan f n k = if f k = 0 then scan f n (k + 1) else (k, f k) := by
  unfold scan
  obtain ⟨m, hm⟩ : ∃ m, n - k = m + 1 := ⟨n - k - 1, by omega⟩
  rw [hm, scanF, show n - (k + 1) = m by omega]
theorem scan_end {f : Nat → Int} {n k : Nat} (h : n ≤ k) : scan f n k = (0, 0) := by
  unfold scan
  rw [show n - k = 0 by omega, scanF]

end Go.Proofs.Ytapegimghfflhaa
end

section
namespace Go.Proofs.Ytapegimghfflhaa

theorem gcdI_le {a b : Int} (hb : 0 < b) : 0 < gcdI a b ∧ gcdI a b ≤ b := by
  refine ⟨gcd_pos (by omega), ?_⟩
  unfold gcdI
  have h1 : Int.gcd a b ≤ b.natAbs := Nat.le_of_dvd (by omega) (Int.gcd_dvd_natAbs_right a b)
  omega
/-- A fraction in lowest terms, and whether it is too great. -/
def fracV (a b : Int) : Int × Int × Int :=
  if withinB (a.tdiv (gcdI a b)) (-1000000000) 1000000000 = true ∧ b.tdiv (gcdI a b) ≤ 1000000000 then (a.tdiv (gcdI a b), b.tdiv (gcdI a b), 0) else (0, 0, 8)
theorem frac_parts {a b : Int} (hb : 0 < b) : 0 < gcdI a b ∧ a = a.tdiv (gcdI a b) * gcdI a b ∧ b = b.tdiv (gcdI a b) * gcdI a b ∧ 1 ≤ b.tdiv (gcdI a b) := by
  have hg := (gcdI_le (a := a) hb).1
  have h1 : gcdI a b ∣ a := by unfold gcdI; exact Int.gcd_dvd_left ..
  have h2 : gcdI a b ∣ b := by unfold gcdI; exact Int.gcd_dvd_right ..
  have e2 := Int.tdiv_mul_cancel h2
  refine ⟨hg, (Int.tdiv_mul_cancel h1).symm, e2.symm, ?_⟩
  refine Int.not_lt.1 fun hlt => ?_
  have h3 := Int.mul_le_mul_of_nonneg_right (show b.tdiv (gcdI a b) ≤ 0 by omega) (Int.le_of_lt hg)
  omega
theorem frac_cases {a b : Int} (hb : 0 < b) : (∃ x y g : Int, 0 < g ∧ a = x * g ∧ b = y * g ∧ (1 ≤ y ∧ y ≤ 1000000000) ∧ (-1000000000 ≤ x ∧ x ≤ 1000000000) ∧ fracV a b = (x, y, 0)) ∨ fracV a b = (0, 0, 8) := by
  obtain ⟨h1, h2, h3, h4⟩ := frac_parts (a := a) hb
  unfold fracV
  by_cases h : withinB (a.tdiv (gcdI a b)) (-1000000000) 1000000000 = true ∧ b.tdiv (gcdI a b) ≤ 1000000000
  · rw [if_pos h]
    have h5 := h.1
    unfold withinB at h5
    simp only [Bool.and_eq_true, decide_eq_true_eq] at h5
    exact .inl ⟨_, _, _, h1, h2, h3, ⟨h4, h.2⟩, h5, rfl⟩
  · rw [if_neg h]
    exact .inr rfl
theorem frac_whole {n d : Int} (hd : 0 < d) (hn : -1000000000 ≤ n ∧ n ≤ 1000000000) : fracV (n * d) d = (n, 1, 0) := by
  have hg : gcdI (n * d) d = d := by
    unfold gcdI
    rw [Int.gcd_mul_left_left]
    omega
  unfold fracV
  rw [hg, Int.mul_tdiv_cancel _ (by omega), Int.tdiv_self (by omega), if_pos ⟨by unfold withinB; simpa using hn, by decide⟩]
theorem frac_neg (a b : Int) : fracV (-a) b = (-(fracV a b).1, (fracV a b).2.1, (fracV a b).2.2) := by
  have hg : gcdI (-a) b = gcdI a b := by unfold gcdI Int.gcd; rw [Int.natAbs_neg]
  unfold fracV
  rw [hg, Int.neg_tdiv]
  by_cases h : withinB (a.tdiv (gcdI a b)) (-1000000000) 1000000000 = true ∧ b.tdiv (gcdI a b) ≤ 1000000000
  · have h2 : withinB (-a.tdiv (gcdI a b)) (-1000000000) 1000000000 = true := by
      have h3 := h.1
      unfold withinB at h3 ⊢
      simp only [Bool.and_eq_true, decide_eq_true_eq] at h3 ⊢
      omega
    rw [if_pos h, if_pos ⟨h2, h.2⟩]
  · have h2 : ¬ (withinB (-a.tdiv (gcdI a b)) (-1000000000) 1000000000 = true ∧ b.tdiv (gcdI a b) ≤ 1000000000) := fun h4 => h ⟨by
      have h3 := h4.1
      unfold withinB at h3 ⊢
      simp only [Bool.and_eq_true, decide_eq_true_eq] at h3 ⊢
      omega, h4.2⟩
    rw [if_neg h, if_neg h2]
    rfl
theorem frac_le {a b a' b' x y x' y' : Int} (hb : 0 < b) (hb' : 0 < b') (h : fracV a b = (x, y, 0)) (h' : fracV a' b' = (x', y', 0)) (hle : a * b' ≤ a' * b) : x * y' ≤ x' * y := by
  rcases frac_cases (a := a) hb with ⟨x1, y1, g, hg, e1, e2, _, _, e⟩ | e
  · rcases frac_cases (a := a') hb' with ⟨x2, y2, g', hg', e3, e4, _, _, e'⟩ | e'
    · rw [h] at e
      rw [h'] at e'
      simp only [Prod.mk.injEq] at e e'
      obtain ⟨rfl, rfl, _⟩ := e
      obtain ⟨rfl, rfl, _⟩ := e'
      rw [e1, e2, e3, e4] at hle
      refine Int.not_lt.1 fun hlt => ?_
      have h1 := Int.mul_pos hg hg'
      have h2 := Int.mul_lt_mul_of_pos_right hlt h1
      grind
    · rw [h'] at e'
      simp at e'
  · rw [h] at e
    simp at e
/-- The drop at a flux, the flux for a gap and ampere turns, of either sign. -/
def dropV (ps : List DTerm) (flux : Int) : Int × Int × Int := if flux < 0 then fracV (-(dropF (-flux) (pieceL ps)).1) (dropF (-flux) (pieceL ps)).2 else fracV (dropF flux (pieceL ps)).1 (dropF flux (pieceL ps)).2
def flxV (ps : List DTerm) (gap t : Int) : Int × Int × Int := if t < 0 then fracV (-(flxF gap (-t) (pieceL ps)).1) (flxF gap (-t) (pieceL ps)).2 else fracV (flxF gap t (pieceL ps)).1 (flxF gap t (pieceL ps)).2
section
variable {ps : List DTerm}
theorem frac_err {a b : Int} (hb : 0 < b) : (fracV a b).2.2 = 0 ∨ fracV a b = (0, 0, 8) := by
  rcases frac_cases (a := a) hb with ⟨x, y, g, _, _, _, _, _, e⟩ | e
  · rw [e]; exact .inl rfl
  · exact .inr e
theorem dropV_err (h : CurveOk ps) {flux : Int} (hf : -100000 ≤ flux ∧ flux ≤ 100000) : (dropV ps flux).2.2 = 0 ∨ dropV ps flux = (0, 0, 8) := by
  unfold dropV
  by_cases h0 : flux < 0
  · rw [if_pos h0]
    exact frac_err (by have := (drop_bd h (show 0 ≤ -flux by omega) (by omega)).2; omega)
  · rw [if_neg h0]
    exact frac_err (by have := (drop_bd h (show 0 ≤ flux by omega) (by omega)).2; omega)
theorem flxV_err (h : CurveOk ps) {gap t : Int} (hg : 0 ≤ gap ∧ gap ≤ 20) (hf : -100000 ≤ t ∧ t ≤ 100000) : (flxV ps gap t).2.2 = 0 ∨ flxV ps gap t = (0, 0, 8) := by
  unfold flxV
  by_cases h0 : t < 0
  · rw [if_pos h0]
    exact frac_err (by have := (flx_bd h hg.1 hg.2 (show 0 ≤ -t by omega) (by omega)).2; omega)
  · rw [if_neg h0]
    exact frac_err (by have := (flx_bd h hg.1 hg.2 (show 0 ≤ t by omega) (by omega)).2; omega)
theorem frac_one {a b x : Int} (hb : 0 < b) (h : fracV a b = (x, 1, 0)) : a = x * b := by
  rcases frac_cases (a := a) hb with ⟨x1, y1, g, hg, e1, e2, _, _, e⟩ | e
  · rw [h] at e
    simp only [Prod.mk.injEq] at e
    obtain ⟨rfl, rfl, _⟩ := e
    rw [e1, e2, Int.one_mul]
  · rw [h] at e
    simp at e
/-- A whole flux is found again from its drop and its gap. -/
theorem mag_found (h : CurveOk ps) {flux gap D : Int} (hf : -2000 ≤ flux ∧ flux ≤ 2000) (hg : 0 ≤ gap ∧ gap ≤ 20) (hD : dropV ps flux = (D, 1, 0)) : flxV ps gap (D + gap * flux) = (flux, 1, 0) := by
  unfold dropV at hD
  by_cases h0 : flux < 0
  · rw [if_pos h0, frac_neg] at hD
    have hb := drop_bd h (show 0 ≤ -flux by omega) (by omega)
    simp only [Prod.mk.injEq] at hD
    obtain ⟨d1, d2, d3⟩ := hD
    have h1 : fracV (dropF (-flux) (pieceL ps)).1 (dropF (-flux) (pieceL ps)).2 = (-D, 1, 0) := by
      rw [show (-D : Int) = (fracV (dropF (-flux) (pieceL ps)).1 (dropF (-flux) (pieceL ps)).2).1 by omega, ← d2, ← d3]
    have h2 := frac_one (by omega) h1
    obtain ⟨k1, k2, k3⟩ := flx_drop h (show 0 ≤ -flux by omega) hg.1 h2
    have k4 := k2 (by omega)
    have hgf : gap * -flux = -(gap * flux) := Int.mul_neg ..
    have hgn := Int.mul_nonneg hg.1 (show 0 ≤ -flux by omega)
    have e : -(D + gap * flux) = -D + gap * -flux := by omega
    unfold flxV
    rw [if_pos (by omega), frac_neg, e, k3, frac_whole ?_ (by omega)]
    · show (- -flux, _, _) = _
      rw [Int.neg_neg]
    · obtain ⟨_, a, b, u, s, i, _, hi, e2, _, _, _, _, _, _, _⟩ := flx_ends h hg.1 (show 0 ≤ -D + gap * -flux by omega)
      rw [e2]
      have := Int.mul_nonneg hg.1 (show 0 ≤ u by omega)
      dsimp only
      omega
  · rw [if_neg h0] at hD
    have hb := drop_bd h (show 0 ≤ flux by omega) (by omega)
    have h2 := frac_one (by omega) hD
    obtain ⟨k1, k2, k3⟩ := flx_drop h (show 0 ≤ flux by omega) hg.1 h2
    have hgn := Int.mul_nonneg hg.1 (show 0 ≤ flux by omega)
    unfold flxV
    rw [if_neg (by omega), k3, frac_whole ?_ (by omega)]
    obtain ⟨_, a, b, u, s, i, _, hi, e2, _, _, _, _, _, _, _⟩ := flx_ends h hg.1 (show 0 ≤ D + gap * flux by omega)
    rw [e2]
    have := Int.mul_nonneg hg.1 (show 0 ≤ u by omega)
    dsimp only
    omega
theorem flx_zero (h : CurveOk ps) {gap : Int} (hg : 0 ≤ gap) : (flxF gap 0 (pieceL ps)).1 = 0 := by
  obtain ⟨_, a, b, u, s, i, _, hi, e, f1, _, g1, g2, g3, g4, _, _, g5, _, g7⟩ := flx_ends h hg (Int.le_refl 0)
  rw [e]
  by_cases hi0 : i = 0
  · subst hi0
    have f2 : ((0 : Int), (0 : Int)) = (a, b) := f1
    simp only [Prod.mk.injEq] at f2
    obtain ⟨rfl, rfl⟩ := f2
    simp
  · have h8 := g7 i (Nat.le_refl _) (by omega)
    rw [f1] at h8
    dsimp only at h8
    have := Int.mul_nonneg hg g1
    omega
/-- Opposite ampere turns give the opposite flux. -/
theorem mag_opp (h : CurveOk ps) {gap t : Int} (hg : 0 ≤ gap) (ht : 0 ≤ t) : flxV ps gap (-t) = (-(flxV ps gap t).1, (flxV ps gap t).2.1, (flxV ps gap t).2.2) := by
  by_cases h0 : t = 0
  · subst h0
    have hz := flx_zero h hg
    unfold flxV
    rw [if_neg (by decide), if_neg (by decide)]
    rw [show (-0 : Int) = 0 from rfl, hz]
    have h2 := frac_neg 0 (flxF gap 0 (pieceL ps)).2
    rw [show (-0 : Int) = 0 from rfl] at h2
    exact h2
  · unfold flxV
    rw [if_pos (by omega), if_neg (by omega), Int.neg_neg]
    exact frac_neg _ _
theorem mag_pos (h : CurveOk ps) {gap t x y : Int} (hg : 0 ≤ gap ∧ gap ≤ 20) (ht : 0 ≤ t ∧ t ≤ 100000) (hv : flxV ps gap t = (x, y, 0)) : (0 ≤ x ∧ x ≤ 1000000000) ∧ 1 ≤ y ∧ y ≤ 1000000000 := by
  have hb := flx_bd h hg.1 hg.2 ht.1 ht.2
  unfold flxV at hv
  rw [if_neg (by omega)] at hv
  rcases frac_cases (a := (flxF gap t (pieceL ps)).1) (b := (flxF gap t (pieceL ps)).2) (by omega) with ⟨x1, y1, g, hg2, e1, e2, h3, h4, e⟩ | e
  · rw [hv] at e
    simp only [Prod.mk.injEq] at e
    obtain ⟨rfl, rfl, _⟩ := e
    refine ⟨⟨?_, h4.2⟩, h3⟩
    refine Int.not_lt.1 fun hlt => ?_
    have h5 := Int.mul_le_mul_of_nonneg_right (show x ≤ -1 by omega) (Int.le_of_lt hg2)
    omega
  · rw [hv] at e
    simp at e
theorem mag_more (h : CurveOk ps) {gap t t' x y x' y' : Int} (hg : 0 ≤ gap ∧ gap ≤ 20) (ht : 0 ≤ t) (htt : t ≤ t') (ht' : t' ≤ 100000) (hv : flxV ps gap t = (x, y, 0)) (hv' : flxV ps gap t' = (x', y', 0)) : x * y' ≤ x' * y := by
  have hb := flx_bd h hg.1 hg.2 ht (by omega)
  have hb' := flx_bd h hg.1 hg.2 (show 0 ≤ t' by omega) ht'
  unfold flxV at hv hv'
  rw [if_neg (by omega)] at hv hv'
  exact frac_le (by omega) (by omega) hv hv' (flx_more h hg.1 ht htt)
theorem mag_gap (h : CurveOk ps) {gap gap' t x y x' y' : Int} (hg : 0 ≤ gap ∧ gap ≤ gap' ∧ gap' ≤ 20) (ht : 0 ≤ t ∧ t ≤ 100000) (hv : flxV ps gap t = (x, y, 0)) (hv' : flxV ps gap' t = (x', y', 0)) : x' * y ≤ x * y' := by
  have hb := flx_bd h hg.1 (by omega) ht.1 ht.2
  have hb' := flx_bd h (show 0 ≤ gap' by omega) hg.2.2 ht.1 ht.2
  unfold flxV at hv hv'
  rw [if_neg (by omega)] at hv hv'
  exact frac_le (by omega) (by omega) hv' hv (flx_gap h hg.1 hg.2.1 ht.1)
end
end Go.Proofs.Ytapegimghfflhaa
end
