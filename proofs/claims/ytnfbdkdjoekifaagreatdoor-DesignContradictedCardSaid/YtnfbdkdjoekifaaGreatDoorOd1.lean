/- Plain facts on the best steps of a core: the first of the greatest areas among all sets of widths. No program is in sight. -/
import Derived.Test.YtnfbdkdjoekifaaGreatDoorOc8
import Derived.Test.YtnfbdkdjoekifaaGreatDoorOc9

section
namespace Go.Proofs.YtnfbdkdjoekifaaGreatDoor
/-- Numbers that ascend from lo on below n. -/
def AscS (n : Nat) : Int → List Int → Prop
  | _, [] => True
  | lo, x :: l => lo ≤ x ∧ x < (n : Int) ∧ AscS n (x + 1) l
theorem allS_mem {n : Nat} : ∀ {d lo : Nat} {l : List Int}, l ∈ allS n d lo ↔ l.length = d ∧ AscS n (lo : Int) l
  | 0, lo, l => by
    rw [allS, List.mem_singleton]
    constructor
    · rintro rfl; exact ⟨rfl, trivial⟩
    · rintro ⟨h, _⟩; exact List.eq_nil_of_length_eq_zero h
  | d + 1, lo, l => by
    rw [allS, List.mem_flatMap]
    constructor
    · rintro ⟨x, hx, hl⟩
      have hx := List.mem_range'_1.1 hx
      obtain ⟨m, hm, rfl⟩ := List.mem_map.1 hl
      obtain ⟨h1, h2⟩ := allS_mem.1 hm
      exact ⟨by simp [h1], by omega, by omega, by push_cast at h2; exact h2⟩
    · rintro ⟨h1, h2⟩
      rcases l with _ | ⟨x, l⟩
      · simp at h1
      · obtain ⟨h3, h4, h5⟩ := h2
        refine ⟨x.toNat, List.mem_range'_1.2 (by omega), List.mem_map.2 ⟨l, allS_mem.2 ⟨by simpa using h1, ?_⟩, ?_⟩⟩
        · rw [show ((x.toNat + 1 : Nat) : Int) = x + 1 by omega]; exact h5
        · rw [Int.toNat_of_nonneg (by omega)]
def pickL (ws : List Int) (set : List Int) : List Int := set.map fun i => ws.getD i.toNat 0
def candL (ws : List Int) (most : Nat) : List (List Int) := (List.range (min most ws.length)).flatMap fun c => (allS ws.length (c + 1) 0).map (pickL ws)
theorem WidthsOk.at_ {d : Int} : ∀ {l : List Int}, WidthsOk d l → ∀ i j, i < j → j < l.length → l.getD j 0 < l.getD i 0
  | [], _, i, j, _, h => by simp at h
  | x :: l, h, 0, j + 1, _, hj => by
    rw [List.getD_cons_succ, List.getD_cons_zero]
    refine h.2.2.1 _ ?_
    rw [List.getD_eq_getElem?_getD, List.getElem?_eq_getElem (by simpa using hj)]
    exact List.getElem_mem _
  | x :: l, h, i + 1, j + 1, hij, hj => by
    rw [List.getD_cons_succ, List.getD_cons_succ]
    exact WidthsOk.at_ h.2.2.2 i j (by omega) (by simpa using hj)
theorem getD_mem {l : List Int} {i : Nat} (h : i < l.length) : l.getD i 0 ∈ l := by
  rw [List.getD_eq_getElem?_getD, List.getElem?_eq_getElem h]
  exact List.getElem_mem _
theorem pick_ok {d : Int} {ws : List Int} (h : WidthsOk d ws) : ∀ {l : List Int} {lo : Int}, 0 ≤ lo → AscS ws.length lo l → WidthsOk d (pickL ws l) ∧ (∀ v ∈ pickL ws l, v ∈ ws) ∧ ∀ i : Nat, (i : Int) < lo → i < ws.length → ∀ v ∈ pickL ws l, v < ws.getD i 0
  | [], lo, _, _ => ⟨trivial, (fun v hv => by cases hv), (fun i _ _ v hv => by cases hv)⟩
  | x :: l, lo, h0, ha => by
    obtain ⟨h1, h2, h3⟩ := ha
    obtain ⟨i1, i2, i3⟩ := pick_ok h (l := l) (lo := x + 1) (by omega) h3
    have hx : x.toNat < ws.length := by omega
    have hm := getD_mem hx
    have hw := h.mem _ hm
    refine ⟨⟨hw.1, hw.2, fun v hv => i3 x.toNat (by omega) hx v hv, i1⟩, ?_, ?_⟩
    · intro v hv
      rcases List.mem_cons.1 hv with rfl | hv
      · exact hm
      · exact i2 v hv
    · intro i hi hil v hv
      rcases List.mem_cons.1 hv with rfl | hv
      · exact h.at_ i x.toNat (by omega) hx
      · exact i3 i (by omega) hil v hv
theorem asc_up {n : Nat} : ∀ {d : Nat} {x : Int}, x + (d : Int) ≤ (n : Int) → AscS n x (upS x d)
  | 0, _, _ => trivial
  | d + 1, x, h => ⟨Int.le_refl _, by push_cast at h; omega, asc_up (by push_cast at h; omega)⟩
/-- The first of the greatest. -/
def bestF (f : List Int → Int) : List (List Int) → List Int × Int → List Int × Int
  | [], b => b
  | s :: l, b => bestF f l (if b.2 < f s then (s, f s) else b)
theorem bestF_app (f : List Int → Int) : ∀ (l m : List (List Int)) (b : List Int × Int), bestF f (l ++ m) b = bestF f m (bestF f l b)
  | [], _, _ => rfl
  | s :: l, m, b => by rw [List.cons_append, bestF, bestF, bestF_app f l m]
def bestD (d : Int) (ws : List Int) (most : Nat) : List Int × Int := bestF (areaD d) (candL ws most) ([], 0)
end Go.Proofs.YtnfbdkdjoekifaaGreatDoor
end
