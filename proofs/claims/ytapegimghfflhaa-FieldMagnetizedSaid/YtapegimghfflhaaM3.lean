/- Plain facts on curves: the drop at a flux, the flux for a gap and ampere turns (chapter 3). No condition. -/
import Derived.Test.YtapegimghfflhaaM1
import Derived.Test.YtapegimghfflhaaM2

section
namespace Go.Proofs.Ytapegimghfflhaa

/-- A piece: where it begins, by how much it rises (flux, ampere turns), whether it is the last one. Points are terms: f is the flux, q the ampere turns. -/
abbrev PieceR := (Int × Int) × (Int × Int) × Bool
def fromP (ps : List DTerm) : Nat → Int × Int
  | 0 => (0, 0)
  | k + 1 => ((ps.getD k default).f, (ps.getD k default).q)
def pieceAt (ps : List DTerm) (k : Nat) : PieceR := (fromP ps k, ((ps.getD k default).f - (fromP ps k).1, (ps.getD k default).q - (fromP ps k).2), decide (k + 1 = ps.length))
def pieceL (ps : List DTerm) : List PieceR := (List.range ps.length).map (pieceAt ps)
theorem pieceL_len (ps : List DTerm) : (pieceL ps).length = ps.length := by simp [pieceL]
theorem pieceL_take {ps : List DTerm} {k : Nat} (h : k < ps.length) : (pieceL ps).take (k + 1) = (pieceL ps).take k ++ [pieceAt ps k] := by
  have h1 : k < (pieceL ps).length := by rw [pieceL_len]; exact h
  rw [List.take_add_one, List.getElem?_eq_getElem h1]
  simp [pieceL]
/-- What the first piece that serves gives. -/
def firstF (T : PieceR → Prop) [DecidablePred T] (g : PieceR → Int × Int) : List PieceR → Int × Int
  | [] => (0, 1)
  | x :: l => if T x then g x else firstF T g l
section
variable {T : PieceR → Prop} [DecidablePred T] {g : PieceR → Int × Int}
/-- None of the pieces so far serves. -/
def PickSt (T : PieceR → Prop) [DecidablePred T] (g : PieceR → Int × Int) (pre : List PieceR) : Prop := ∀ r, firstF T g (pre ++ r) = firstF T g r
theorem PickSt.nil : PickSt T g [] := fun _ => rfl
theorem PickSt.snoc {pre : List PieceR} {x : PieceR} (h : PickSt T g pre) (hx : ¬ T x) : PickSt T g (pre ++ [x]) := fun r => by
  rw [List.append_assoc, h]
  show firstF T g (x :: r) = _
  rw [firstF, if_neg hx]
theorem PickSt.stop {pre : List PieceR} {x : PieceR} (h : PickSt T g pre) (hx : T x) (r : List PieceR) : firstF T g ((pre ++ [x]) ++ r) = g x := by
  rw [List.append_assoc, h]
  show firstF T g (x :: r) = _
  rw [firstF, if_pos hx]
theorem firstF_from (ps : List DTerm) (hT : ∀ x : PieceR, x.2.2 = true → T x) : ∀ (m s : Nat), s + m = ps.length → 0 < m → ∃ k, s ≤ k ∧ k < ps.length ∧ firstF T g ((List.range' s m).map (pieceAt ps)) = g (pieceAt ps k) ∧ T (pieceAt ps k) ∧ ∀ j, s ≤ j → j < k → ¬ T (pieceAt ps j)
  | 0, _, _, h => absurd h (Nat.lt_irrefl _)
  | m + 1, s, hs, _ => by
    rw [List.range'_succ, List.map_cons]
    by_cases h : T (pieceAt ps s)
    · exact ⟨s, Nat.le_refl _, by omega, by rw [firstF, if_pos h], h, fun j h1 h2 => absurd h1 (by omega)⟩
    · have hm : 0 < m := by
        refine Nat.pos_of_ne_zero fun e => h (hT _ ?_)
        show decide (s + 1 = ps.length) = true
        rw [decide_eq_true_iff]
        omega
      obtain ⟨k, h1, h2, h3, h4, h5⟩ := firstF_from ps hT m (s + 1) (by omega) hm
      refine ⟨k, by omega, h2, by rw [firstF, if_neg h]; exact h3, h4, fun j hj hk => ?_⟩
      rcases Nat.lt_or_ge s j with h6 | h6
      · exact h5 j h6 hk
      · rw [show j = s by omega]; exact h
theorem firstF_at {ps : List DTerm} (hT : ∀ x : PieceR, x.2.2 = true → T x) (h : 0 < ps.length) : ∃ k, k < ps.length ∧ firstF T g (pieceL ps) = g (pieceAt ps k) ∧ T (pieceAt ps k) ∧ ∀ j, j < k → ¬ T (pieceAt ps j) := by
  obtain ⟨k, _, h2, h3, h4, h5⟩ := firstF_from (g := g) ps hT ps.length 0 (Nat.zero_add _) h
  refine ⟨k, h2, ?_, h4, fun j hj => h5 j (Nat.zero_le _) hj⟩
  unfold pieceL
  rw [List.range_eq_range']
  exact h3
end
/-- The piece reaches the flux; it reaches the ampere turns with the gap. -/
abbrev DropT (flux : Int) (x : PieceR) : Prop := x.2.2 = true ∨ flux ≤ x.1.1 + x.2.1.1
abbrev FlxT (gap t : Int) (x : PieceR) : Prop := x.2.2 = true ∨ t ≤ x.1.2 + x.2.1.2 + gap * (x.1.1 + x.2.1.1)
def dropX (flux : Int) (x : PieceR) : Int × Int := (x.1.2 * x.2.1.1 + (flux - x.1.1) * x.2.1.2, x.2.1.1)
def flxX (gap t : Int) (x : PieceR) : Int × Int := ((t - x.1.2) * x.2.1.1 + x.2.1.2 * x.1.1, x.2.1.2 + gap * x.2.1.1)
def dropF (flux : Int) (l : List PieceR) : Int × Int := firstF (DropT flux) (dropX flux) l
def flxF (gap t : Int) (l : List PieceR) : Int × Int := firstF (FlxT gap t) (flxX gap t) l

/-- A valid curve. -/
structure CurveOk (ps : List DTerm) : Prop where
  len : 1 ≤ ps.length ∧ ps.length ≤ 8
  pts : ∀ k, k < ps.length → (1 ≤ (ps.getD k default).f ∧ (ps.getD k default).f ≤ 1000) ∧ (1 ≤ (ps.getD k default).q ∧ (ps.getD k default).q ≤ 1000) ∧ (fromP ps k).1 < (ps.getD k default).f ∧ (fromP ps k).2 < (ps.getD k default).q
section
variable {ps : List DTerm}
theorem from_mono (h : CurveOk ps) : ∀ {k : Nat}, k ≤ ps.length → ∀ {j : Nat}, j ≤ k → (fromP ps j).1 ≤ (fromP ps k).1 ∧ (fromP ps j).2 ≤ (fromP ps k).2
  | 0, _, j, hj => by rw [Nat.le_zero.1 hj]; exact ⟨Int.le_refl _, Int.le_refl _⟩
  | k + 1, hk, j, hj => by
    by_cases e : j = k + 1
    · rw [e]; exact ⟨Int.le_refl _, Int.le_refl _⟩
    · have h1 := from_mono h (show k ≤ ps.length by omega) (show j ≤ k by omega)
      have h2 := h.pts k (by omega)
      exact ⟨Int.le_trans h1.1 (Int.le_of_lt h2.2.2.1), Int.le_trans h1.2 (Int.le_of_lt h2.2.2.2)⟩
/-- The numbers of a piece: a, b where it begins, u, s by how much it rises. -/
theorem piece_nums (h : CurveOk ps) {k : Nat} (hk : k < ps.length) : ∃ a b u s : Int, pieceAt ps k = ((a, b), (u, s), decide (k + 1 = ps.length)) ∧ fromP ps k = (a, b) ∧ fromP ps (k + 1) = (a + u, b + s) ∧ 0 ≤ a ∧ 0 ≤ b ∧ 1 ≤ u ∧ 1 ≤ s ∧ a + u ≤ 1000 ∧ b + s ≤ 1000 ∧ (k = 0 → a = 0 ∧ b = 0) := by
  have h1 := h.pts k hk
  have h0 := from_mono h (Nat.le_of_lt hk) (Nat.zero_le k)
  refine ⟨(fromP ps k).1, (fromP ps k).2, _, _, rfl, rfl, ?_, h0.1, h0.2, by omega, by omega, by omega, by omega, fun e => by subst e; exact ⟨rfl, rfl⟩⟩
  show (_, _) = _
  rw [Prod.mk.injEq]
  omega
theorem drop_at (h : CurveOk ps) (flux : Int) : ∃ k, k < ps.length ∧ dropF flux (pieceL ps) = dropX flux (pieceAt ps k) ∧ (k + 1 = ps.length ∨ flux ≤ (fromP ps (k + 1)).1) ∧ ∀ j, j ≤ k → 0 < j → (fromP ps j).1 < flux := by
  obtain ⟨k, h1, h2, h3, h4⟩ := firstF_at (T := DropT flux) (g := dropX flux) (fun x hx => .inl hx) h.len.1
  refine ⟨k, h1, h2, ?_, fun j hj hj0 => ?_⟩
  · obtain ⟨a, b, u, s, e1, e2, e3, _⟩ := piece_nums h h1
    rw [e3]
    rw [e1] at h3
    simpa [DropT] using h3
  · obtain ⟨i, rfl⟩ : ∃ i, j = i + 1 := ⟨j - 1, by omega⟩
    have h5 := h4 i (by omega)
    obtain ⟨a, b, u, s, e1, e2, e3, _⟩ := piece_nums h (show i < ps.length by omega)
    rw [e3]
    rw [e1] at h5
    simp only [DropT, decide_eq_true_eq, not_or] at h5
    dsimp only
    omega
theorem flx_at (h : CurveOk ps) (gap t : Int) : ∃ k, k < ps.length ∧ flxF gap t (pieceL ps) = flxX gap t (pieceAt ps k) ∧ (k + 1 = ps.length ∨ t ≤ (fromP ps (k + 1)).2 + gap * (fromP ps (k + 1)).1) ∧ ∀ j, j ≤ k → 0 < j → (fromP ps j).2 + gap * (fromP ps j).1 < t := by
  obtain ⟨k, h1, h2, h3, h4⟩ := firstF_at (T := FlxT gap t) (g := flxX gap t) (fun x hx => .inl hx) h.len.1
  refine ⟨k, h1, h2, ?_, fun j hj hj0 => ?_⟩
  · obtain ⟨a, b, u, s, e1, e2, e3, _⟩ := piece_nums h h1
    rw [e3]
    rw [e1] at h3
    simpa [FlxT] using h3
  · obtain ⟨i, rfl⟩ : ∃ i, j = i + 1 := ⟨j - 1, by omega⟩
    have h5 := h4 i (by omega)
    obtain ⟨a, b, u, s, e1, e2, e3, _⟩ := piece_nums h (show i < ps.length by omega)
    rw [e3]
    rw [e1] at h5
    simp only [FlxT, decide_eq_true_eq, not_or] at h5
    dsimp only
    omega
/-- Between the ends of its piece. -/
theorem flx_ends (h : CurveOk ps) {gap t : Int} (_hg : 0 ≤ gap) (ht : 0 ≤ t) : ∃ k a b u s : Int, ∃ i : Nat, k = (i : Int) ∧ i < ps.length ∧ flxF gap t (pieceL ps) = ((t - b) * u + s * a, s + gap * u) ∧ fromP ps i = (a, b) ∧ fromP ps (i + 1) = (a + u, b + s) ∧ 0 ≤ a ∧ 0 ≤ b ∧ 1 ≤ u ∧ 1 ≤ s ∧ a + u ≤ 1000 ∧ b + s ≤ 1000 ∧ b + gap * a ≤ t ∧ (i + 1 = ps.length ∨ t ≤ (b + s) + gap * (a + u)) ∧ ∀ j, j ≤ i → 0 < j → (fromP ps j).2 + gap * (fromP ps j).1 < t := by
  obtain ⟨i, h1, h2, h3, h4⟩ := flx_at h gap t
  obtain ⟨a, b, u, s, e1, e2, e3, g1, g2, g3, g4, g5, g6, g7⟩ := piece_nums h h1
  refine ⟨i, a, b, u, s, i, rfl, h1, ?_, e2, e3, g1, g2, g3, g4, g5, g6, ?_, ?_, h4⟩
  · rw [h2, e1]; rfl
  · by_cases e : i = 0
    · obtain ⟨rfl, rfl⟩ := g7 e
      omega
    · have h5 := h4 i (Nat.le_refl _) (by omega)
      rw [e2] at h5
      exact Int.le_of_lt h5
  · rw [e3] at h3; exact h3
theorem mul_le_l {a b c : Int} (hc : 0 ≤ c) (h : a ≤ b) : c * a ≤ c * b := Int.mul_le_mul_of_nonneg_left h hc
/-- More ampere turns give no less flux. -/
theorem flx_more (h : CurveOk ps) {gap t t' : Int} (hg : 0 ≤ gap) (ht : 0 ≤ t) (htt : t ≤ t') : (flxF gap t (pieceL ps)).1 * (flxF gap t' (pieceL ps)).2 ≤ (flxF gap t' (pieceL ps)).1 * (flxF gap t (pieceL ps)).2 := by
  obtain ⟨_, a, b, u, s, i, _, hi, e, f1, f2, g1, g2, g3, g4, _, _, g5, g6, g7⟩ := flx_ends h hg ht
  obtain ⟨_, a', b', u', s', i', _, hi', e', f1', f2', g1', g2', g3', g4', _, _, g5', g6', g7'⟩ := flx_ends h hg (Int.le_trans ht htt)
  rw [e, e']
  dsimp only
  have hden : 0 < s + gap * u := by have := Int.mul_nonneg hg (show 0 ≤ u by omega); omega
  have hden' : 0 < s' + gap * u' := by have := Int.mul_nonneg hg (show 0 ≤ u' by omega); omega
  rcases Nat.lt_trichotomy i i' with hlt | heq | hgt
  · have hm := (from_mono h (Nat.le_of_lt hi') (show i + 1 ≤ i' by omega)).1
    rw [f2, f1'] at hm
    dsimp only at hm
    have h6 := g6.resolve_left (by omega)
    have k1 : (t - b) * u + s * a ≤ (a + u) * (s + gap * u) := by
      have := mul_le_l (show 0 ≤ u by omega) (show t - b ≤ s + gap * (a + u) by omega)
      grind
    have k2 : a' * (s' + gap * u') ≤ (t' - b') * u' + s' * a' := by
      have := mul_le_l (show 0 ≤ u' by omega) (show gap * a' ≤ t' - b' by omega)
      grind
    have k3 := Int.mul_le_mul_of_nonneg_right k1 (Int.le_of_lt hden')
    have k4 := Int.mul_le_mul_of_nonneg_right k2 (Int.le_of_lt hden)
    have k5 := Int.mul_le_mul_of_nonneg_right hm (Int.mul_nonneg (Int.le_of_lt hden) (Int.le_of_lt hden'))
    grind
  · subst heq
    rw [f1] at f1'
    rw [f2] at f2'
    simp only [Prod.mk.injEq] at f1' f2'
    obtain ⟨rfl, rfl⟩ := f1'
    obtain rfl : u = u' := by omega
    obtain rfl : s = s' := by omega
    have := mul_le_l (show 0 ≤ u by omega) htt
    refine Int.mul_le_mul_of_nonneg_right ?_ (Int.le_of_lt hden)
    grind
  · have h8 := g7 (i' + 1) (by omega) (by omega)
    rw [f2'] at h8
    dsimp only at h8
    have h9 := g6'.resolve_left (by omega)
    omega
/-- A greater gap gives no more flux. -/
theorem flx_gap (h : CurveOk ps) {gap gap' t : Int} (hg : 0 ≤ gap) (hgg : gap ≤ gap') (ht : 0 ≤ t) : (flxF gap' t (pieceL ps)).1 * (flxF gap t (pieceL ps)).2 ≤ (flxF gap t (pieceL ps)).1 * (flxF gap' t (pieceL ps)).2 := by
  obtain ⟨_, a, b, u, s, i, _, hi, e, f1, f2, g1, g2, g3, g4, _, _, g5, g6, g7⟩ := flx_ends h hg ht
  obtain ⟨_, a', b', u', s', i', _, hi', e', f1', f2', g1', g2', g3', g4', _, _, g5', g6', g7'⟩ := flx_ends h (Int.le_trans hg hgg) ht
  rw [e, e']
  dsimp only
  have hden : 0 < s + gap * u := by have := Int.mul_nonneg hg (show 0 ≤ u by omega); omega
  have hden' : 0 < s' + gap' * u' := by have := Int.mul_nonneg (Int.le_trans hg hgg) (show 0 ≤ u' by omega); omega
  rcases Nat.lt_trichotomy i i' with hlt | heq | hgt
  · have h8 := g7' (i + 1) (by omega) (by omega)
    rw [f2] at h8
    dsimp only at h8
    have h9 := g6.resolve_left (by omega)
    have := Int.mul_le_mul_of_nonneg_right hgg (show 0 ≤ a + u by omega)
    omega
  · subst heq
    rw [f1] at f1'
    rw [f2] at f2'
    simp only [Prod.mk.injEq] at f1' f2'
    obtain ⟨rfl, rfl⟩ := f1'
    obtain rfl : u = u' := by omega
    obtain rfl : s = s' := by omega
    have h5 := Int.mul_nonneg hg g1
    have h6 := Int.mul_nonneg (show 0 ≤ t - b by omega) (show 0 ≤ u by omega)
    have h7 := Int.mul_nonneg (show 0 ≤ s by omega) g1
    refine Int.mul_le_mul_of_nonneg_left ?_ (by omega)
    have := Int.mul_le_mul_of_nonneg_right hgg (show 0 ≤ u by omega)
    omega
  · have hm := (from_mono h (Nat.le_of_lt hi) (show i' + 1 ≤ i by omega)).1
    rw [f2', f1] at hm
    dsimp only at hm
    have h6 := g6'.resolve_left (by omega)
    have k1 : (t - b') * u' + s' * a' ≤ (a' + u') * (s' + gap' * u') := by
      have := mul_le_l (show 0 ≤ u' by omega) (show t - b' ≤ s' + gap' * (a' + u') by omega)
      grind
    have k2 : a * (s + gap * u) ≤ (t - b) * u + s * a := by
      have := mul_le_l (show 0 ≤ u by omega) (show gap * a ≤ t - b by omega)
      grind
    have k3 := Int.mul_le_mul_of_nonneg_right k1 (Int.le_of_lt hden)
    have k4 := Int.mul_le_mul_of_nonneg_right k2 (Int.le_of_lt hden')
    have k5 := Int.mul_le_mul_of_nonneg_right hm (Int.mul_nonneg (Int.le_of_lt hden) (Int.le_of_lt hden'))
    grind
theorem mul_in {a b : Int} {A B : Int} (ha : 0 ≤ a ∧ a ≤ A) (hb : 0 ≤ b ∧ b ≤ B) : 0 ≤ a * b ∧ a * b ≤ A * B :=
  ⟨Int.mul_nonneg ha.1 hb.1, Int.mul_le_mul ha.2 hb.2 hb.1 (by omega)⟩
/-- How great the numbers are. -/
theorem flx_bd (h : CurveOk ps) {gap t : Int} (hg : 0 ≤ gap) (hg2 : gap ≤ 20) (ht : 0 ≤ t) (ht2 : t ≤ 100000) : (0 ≤ (flxF gap t (pieceL ps)).1 ∧ (flxF gap t (pieceL ps)).1 ≤ 101000000) ∧ 1 ≤ (flxF gap t (pieceL ps)).2 ∧ (flxF gap t (pieceL ps)).2 ≤ 21000 := by
  obtain ⟨_, a, b, u, s, i, _, hi, e, f1, f2, g1, g2, g3, g4, g8, g9, g5, g6, g7⟩ := flx_ends h hg ht
  rw [e]
  dsimp only
  have h1 := mul_in (a := t - b) (b := u) (A := 100000) (B := 1000) ⟨by have := Int.mul_nonneg hg g1; omega, by omega⟩ ⟨by omega, by omega⟩
  have h2 := mul_in (a := s) (b := a) (A := 1000) (B := 1000) ⟨by omega, by omega⟩ ⟨by omega, by omega⟩
  have h3 := mul_in (a := gap) (b := u) (A := 20) (B := 1000) ⟨hg, hg2⟩ ⟨by omega, by omega⟩
  omega
theorem drop_ends (h : CurveOk ps) {flux : Int} (hf : 0 ≤ flux) : ∃ a b u s : Int, ∃ i : Nat, i < ps.length ∧ dropF flux (pieceL ps) = (b * u + (flux - a) * s, u) ∧ fromP ps i = (a, b) ∧ fromP ps (i + 1) = (a + u, b + s) ∧ 0 ≤ a ∧ 0 ≤ b ∧ 1 ≤ u ∧ 1 ≤ s ∧ a + u ≤ 1000 ∧ b + s ≤ 1000 ∧ a ≤ flux ∧ (i + 1 = ps.length ∨ flux ≤ a + u) ∧ ∀ j, j ≤ i → 0 < j → (fromP ps j).1 < flux := by
  obtain ⟨i, h1, h2, h3, h4⟩ := drop_at h flux
  obtain ⟨a, b, u, s, e1, e2, e3, g1, g2, g3, g4, g5, g6, g7⟩ := piece_nums h h1
  refine ⟨a, b, u, s, i, h1, ?_, e2, e3, g1, g2, g3, g4, g5, g6, ?_, ?_, h4⟩
  · rw [h2, e1]; rfl
  · by_cases e : i = 0
    · obtain ⟨rfl, rfl⟩ := g7 e
      exact hf
    · have h5 := h4 i (Nat.le_refl _) (by omega)
      rw [e2] at h5
      exact Int.le_of_lt h5
  · rw [e3] at h3; exact h3
theorem drop_bd (h : CurveOk ps) {flux : Int} (hf : 0 ≤ flux) (hf2 : flux ≤ 100000) : (0 ≤ (dropF flux (pieceL ps)).1 ∧ (dropF flux (pieceL ps)).1 ≤ 101000000) ∧ 1 ≤ (dropF flux (pieceL ps)).2 ∧ (dropF flux (pieceL ps)).2 ≤ 1000 := by
  obtain ⟨a, b, u, s, i, hi, e, f1, f2, g1, g2, g3, g4, g8, g9, g5, g6, g7⟩ := drop_ends h hf
  rw [e]
  dsimp only
  have h1 := mul_in (a := flux - a) (b := s) (A := 100000) (B := 1000) ⟨by omega, by omega⟩ ⟨by omega, by omega⟩
  have h2 := mul_in (a := b) (b := u) (A := 1000) (B := 1000) ⟨by omega, by omega⟩ ⟨by omega, by omega⟩
  omega
/-- A whole flux is found again from its drop and its gap. -/
theorem flx_drop (h : CurveOk ps) {flux gap D : Int} (hf : 0 ≤ flux) (hg : 0 ≤ gap) (hD : (dropF flux (pieceL ps)).1 = D * (dropF flux (pieceL ps)).2) : 0 ≤ D ∧ (0 < flux → 0 < D) ∧ (flxF gap (D + gap * flux) (pieceL ps)).1 = flux * (flxF gap (D + gap * flux) (pieceL ps)).2 := by
  obtain ⟨a, b, u, s, i, hi, e, f1, f2, g1, g2, g3, g4, g8, g9, g5, g6, g7⟩ := drop_ends h hf
  rw [e] at hD
  dsimp only at hD
  have hfs := Int.mul_nonneg (show 0 ≤ flux - a by omega) (show 0 ≤ s by omega)
  have hbD : b ≤ D := by
    refine Int.not_lt.1 fun hlt => ?_
    have := mul_le_l (show 0 ≤ u by omega) (show D + 1 ≤ b by omega)
    grind
  have hpos : 0 < flux → 0 < D := fun hp => by
    refine Int.not_le.1 fun hle => ?_
    have hb0 : b = 0 := by omega
    have hD0 : D = 0 := by omega
    subst hb0
    have ha : a = flux := by
      refine Int.le_antisymm g5 (Int.not_lt.1 fun hlt => ?_)
      have h1 := Int.mul_pos (show 0 < flux - a by omega) (show 0 < s by omega)
      rw [hD0] at hD
      simp at hD
      omega
    have hi0 : 0 < i := by
      refine Nat.pos_of_ne_zero fun e0 => ?_
      rw [e0] at f1
      have : (0 : Int) = a := congrArg Prod.fst f1
      omega
    have h9 := g7 i (Nat.le_refl _) hi0
    rw [f1] at h9
    dsimp only at h9
    omega
  have hD0 : 0 ≤ D := by omega
  have hgf := Int.mul_nonneg hg hf
  refine ⟨hD0, hpos, ?_⟩
  obtain ⟨_, a', b', u', s', i', _, hi', e', f1', f2', g1', g2', g3', g4', _, _, g5', g6', g7'⟩ := flx_ends h hg (show 0 ≤ D + gap * flux by omega)
  have hsame : i = i' := by
    rcases Nat.lt_trichotomy i i' with hlt | heq | hgt
    · have h8 := g7' (i + 1) (by omega) (by omega)
      rw [f2] at h8
      dsimp only at h8
      have h9 := g6.resolve_left (by omega)
      have k1 := mul_le_l hg h9
      have k2 : D ≤ b + s := by
        refine Int.not_lt.1 fun hlt2 => ?_
        have m1 := mul_le_l (show 0 ≤ u by omega) (show b + s + 1 ≤ D by omega)
        have m2 := mul_le_l (show 0 ≤ s by omega) (show flux - a ≤ u by omega)
        grind
      omega
    · exact heq
    · have h8 := g7 (i' + 1) (by omega) (by omega)
      rw [f2'] at h8
      dsimp only at h8
      have h9 := g6'.resolve_left (by omega)
      have hm := (from_mono h (Nat.le_of_lt hi) (show i' + 1 ≤ i by omega)).2
      have hm1 := (from_mono h (Nat.le_of_lt hi) (show i' + 1 ≤ i by omega)).1
      rw [f2', f1] at hm hm1
      dsimp only at hm hm1
      have k1 := mul_le_l hg (Int.le_of_lt h8)
      by_cases hz : gap = 0
      · subst hz
        have k2 : D ≤ b := by omega
        have k3 : D = b := by omega
        subst k3
        have k4 := Int.mul_pos (show 0 < flux - a by
          have h10 := g7 i (Nat.le_refl _) (by omega)
          rw [f1] at h10
          exact Int.sub_pos_of_lt h10) (show 0 < s by omega)
        grind
      · have k5 := mul_le_l (show 0 ≤ gap by omega) (show a' + u' + 1 ≤ flux by omega)
        have k6 : gap * (a' + u' + 1) = gap * (a' + u') + gap := by grind
        omega
  subst hsame
  rw [f1] at f1'
  rw [f2] at f2'
  simp only [Prod.mk.injEq] at f1' f2'
  obtain ⟨rfl, rfl⟩ := f1'
  obtain rfl : u = u' := by omega
  obtain rfl : s = s' := by omega
  rw [e']
  dsimp only
  grind
end
end Go.Proofs.Ytapegimghfflhaa
end
