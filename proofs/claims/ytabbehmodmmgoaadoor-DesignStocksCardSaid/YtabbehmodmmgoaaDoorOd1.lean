/- Plain facts on the best steps of a core: the first of the greatest areas among all sets of widths. No program is in sight. -/
import Derived.Test.YtabbehmodmmgoaaDoorOc8
import Derived.Test.YtabbehmodmmgoaaDoorOc9

section
namespace Go.Proofs.YtabbehmodmmgoaaDoor
/-- Numbers that ascend from lo on below n. -/
def AscS (n : Nat) : Int → List Int → Prop
  | _, [] => True
  | lo, x :: l => lo ≤ x ∧ x < (n : Int) ∧ AscS n (x + 1) l
theorem allS_mem {n : Nat} : ∀ {d lo : Nat} {l : List Int}, l ∈ allS n d lo ↔ l.length = d ∧ AscS n (lo : Int) l
  | 0, lo, l => by
    rw [allS, List.mem_singleton]
    constructor
    · rintro rfl; exact ⟨rfl, trivial⟩
    · rintro ⟨h, _⟩; exact List.eq_nil_of_length_eq_zero h
  | d + 1, lo, l => by
    rw [allS, List.mem_flatMap]
    constructor
    · rintro ⟨x, hx, hl⟩
      have hx := List.mem_range'_1.1 hx
      obtain ⟨m, hm, rfl⟩ := List.mem_map.1 hl
      obtain ⟨h1, h2⟩ := allS_mem.1 hm
      exact ⟨by simp [h1], by omega, by omega, by push_cast at h2; exact h2⟩
    · rintro ⟨h1, h2⟩
      rcases l with _ | ⟨x, l⟩
      · simp at h1
      · obtain ⟨h3, h4, h5⟩ := h2
        refine ⟨x.toNat, List.mem_range'_1.2 (by omega), List.mem_map.2 ⟨l, allS_mem.2 ⟨by simpa using h1, ?_⟩, ?_⟩⟩
        · rw [show ((x.toNat + 1 : Nat) : Int) = x + 1 by omega]; exact h5
        · rw [Int.toNat_of_nonneg (by omega)]
def pickL (ws : List Int) (set : List Int) : List Int := set.map fun i => ws.getD i.toNat 0
def candL (ws : List Int) (most : Nat) : List (List Int) := (List.range (min most ws.length)).flatMap fun c => (allS ws.length (c + 1) 0).map (pickL ws)
theorem WidthsOk.at_ {d : Int} : ∀ {l : List Int}, WidthsOk d l → ∀ i j, i < j → j < l.length → l.getD j 0 < l.getD i 0
  | [], _, i, j, _, h => by simp at h
  | x :: l, h, 0, j + 1, _, hj => by
    rw [List.getD_cons_succ, List.getD_cons_zero]
    refine h.2.2.1 _ ?_
    rw [List.getD_eq_getElem?_getD, List.getElem?_eq_getElem (by simpa using hj)]
    exact List.getElem_mem _
  | x :: l, h, i + 1, j + 1, hij, hj => by
    rw [List.getD_cons_succ, List.getD_cons_succ]
    exact WidthsOk.at_ h.2.2.2 i j (by omega) (by simpa using hj)
theorem getD_mem {l : List Int} {i : Nat} (h : i < l.length) : l.getD i 0 ∈ l := by
  rw [List.getD_eq_getElem?_getD, List.getElem?_eq_getElem h]
  exact List.getElem_mem _
theorem pick_ok {d : Int} {ws : List Int} (h : WidthsOk d ws) : ∀ {l : List Int} {lo : Int}, 0 ≤ lo → AscS ws.length lo l → WidthsOk d (pickL ws l) ∧ (∀ v ∈ pickL ws l, v ∈ ws) ∧ ∀ i : Nat, (i : Int) < lo → i < ws.length → ∀ v ∈ pickL ws l, v < ws.getD i 0
  | [], lo, _, _ => ⟨trivial, (fun v hv => by cases hv), (fun i _ _ v hv => by cases hv)⟩
  | x :: l, lo, h0, ha => by
    obtain ⟨h1, h2, h3⟩ := ha
    obtain ⟨i1, i2, i3⟩ := pick_ok h (l := l) (lo := x + 1) (by omega) h3
    have hx : x.toNat < ws.length := by omega
    have hm := getD_mem hx
    have hw := h.mem _ hm
    refine ⟨⟨hw.1, hw.2, fun v hv => i3 x.toNat (by omega) hx v hv, i1⟩, ?_, ?_⟩
    · intro v hv
      rcases List.mem_cons.1 hv with rfl | hv
      · exact hm
      · exact i2 v hv
    · intro i hi hil v hv
      rcases List.mem_cons.1 hv with rfl | hv
      · exact h.at_ i x.toNat (by omega) hx
      · exact i3 i (by omega) hil v hv
theorem cand_mem {d : Int} {ws : List Int} {most : Nat} (h : WidthsOk d ws) {s : List Int} (hs : s ∈ candL ws most) : WidthsOk d s ∧ (∀ v ∈ s, v ∈ ws) ∧ s.length ≤ most := by
  unfold candL at hs
  rw [List.mem_flatMap] at hs
  obtain ⟨c, hc, hs⟩ := hs
  obtain ⟨l, hl, rfl⟩ := List.mem_map.1 hs
  have hc := List.mem_range.1 hc
  obtain ⟨h1, h2⟩ := allS_mem.1 hl
  obtain ⟨a, b, _⟩ := pick_ok h (lo := ((0 : Nat) : Int)) (by omega) h2
  refine ⟨a, b, ?_⟩
  unfold pickL
  rw [List.length_map, h1]
  omega
theorem cand_more {ws : List Int} {most : Nat} {s : List Int} (hs : s ∈ candL ws most) : s ∈ candL ws (most + 1) := by
  unfold candL at *
  rw [List.mem_flatMap] at *
  obtain ⟨c, hc, hs⟩ := hs
  exact ⟨c, List.mem_range.2 (by have := List.mem_range.1 hc; omega), hs⟩
theorem cand_one {ws : List Int} {most : Nat} (hm : 1 ≤ most) {w : Int} (hw : w ∈ ws) : [w] ∈ candL ws most := by
  obtain ⟨i, hi, rfl⟩ := List.getElem_of_mem hw
  unfold candL
  rw [List.mem_flatMap]
  refine ⟨0, List.mem_range.2 (by omega), List.mem_map.2 ⟨[(i : Int)], allS_mem.2 ⟨rfl, by omega, by omega, trivial⟩, ?_⟩⟩
  simp [pickL, List.getD_eq_getElem?_getD, List.getElem?_eq_getElem hi]
theorem asc_up {n : Nat} : ∀ {d : Nat} {x : Int}, x + (d : Int) ≤ (n : Int) → AscS n x (upS x d)
  | 0, _, _ => trivial
  | d + 1, x, h => ⟨Int.le_refl _, by push_cast at h; omega, asc_up (by push_cast at h; omega)⟩
theorem pick_all (ws : List Int) : pickL ws (upS 0 ws.length) = ws := by
  apply List.ext_getElem?
  intro i
  unfold pickL
  rw [List.getElem?_map]
  by_cases h : i < ws.length
  · have h2 : i < (upS 0 ws.length).length := by rw [upS_length]; exact h
    have e := upS_get (x := 0) (d := ws.length) h
    rw [List.getD_eq_getElem?_getD, List.getElem?_eq_getElem h2] at e
    rw [List.getElem?_eq_getElem h2, List.getElem?_eq_getElem h]
    simp only [Option.getD_some] at e
    simp [e, List.getD_eq_getElem?_getD, List.getElem?_eq_getElem h]
  · have h2 : (upS 0 ws.length).length ≤ i := by rw [upS_length]; omega
    rw [List.getElem?_eq_none h2, List.getElem?_eq_none (by omega)]
    rfl
theorem cand_all {ws : List Int} {most : Nat} (h0 : 0 < ws.length) (hm : ws.length ≤ most) : ws ∈ candL ws most := by
  unfold candL
  rw [List.mem_flatMap]
  refine ⟨ws.length - 1, List.mem_range.2 (by omega), List.mem_map.2 ⟨upS 0 ws.length, allS_mem.2 ⟨by rw [upS_length]; omega, asc_up (by simp)⟩, pick_all ws⟩⟩
/-- The first of the greatest. -/
def bestF (f : List Int → Int) : List (List Int) → List Int × Int → List Int × Int
  | [], b => b
  | s :: l, b => bestF f l (if b.2 < f s then (s, f s) else b)
theorem bestF_app (f : List Int → Int) : ∀ (l m : List (List Int)) (b : List Int × Int), bestF f (l ++ m) b = bestF f m (bestF f l b)
  | [], _, _ => rfl
  | s :: l, m, b => by rw [List.cons_append, bestF, bestF, bestF_app f l m]
theorem bestF_ge (f : List Int → Int) : ∀ (l : List (List Int)) (b : List Int × Int), b.2 ≤ (bestF f l b).2 ∧ ∀ s ∈ l, f s ≤ (bestF f l b).2
  | [], b => ⟨Int.le_refl _, fun s h => by cases h⟩
  | t :: l, b => by
    obtain ⟨h1, h2⟩ := bestF_ge f l (if b.2 < f t then (t, f t) else b)
    rw [bestF]
    have h3 : b.2 ≤ (if b.2 < f t then (t, f t) else b).2 ∧ f t ≤ (if b.2 < f t then (t, f t) else b).2 := by
      split
      · constructor <;> simp <;> omega
      · constructor <;> omega
    refine ⟨by omega, fun s hs => ?_⟩
    rcases List.mem_cons.1 hs with rfl | hs
    · omega
    · exact h2 s hs
theorem bestF_is (f : List Int → Int) : ∀ (l : List (List Int)) (b : List Int × Int), bestF f l b = b ∨ ((bestF f l b).1 ∈ l ∧ (bestF f l b).2 = f (bestF f l b).1)
  | [], b => .inl rfl
  | t :: l, b => by
    rw [bestF]
    rcases bestF_is f l (if b.2 < f t then (t, f t) else b) with h | h
    · rw [h]
      split
      · exact .inr ⟨List.mem_cons_self .., rfl⟩
      · exact .inl rfl
    · exact .inr ⟨List.mem_cons_of_mem _ h.1, h.2⟩
def bestD (d : Int) (ws : List Int) (most : Nat) : List Int × Int := bestF (areaD d) (candL ws most) ([], 0)
theorem best_facts {d : Int} {ws : List Int} {most : Nat} (hd : 1 ≤ d) (h : WidthsOk d ws) :
    WidthsOk d (bestD d ws most).1 ∧ (∀ v ∈ (bestD d ws most).1, v ∈ ws) ∧ (bestD d ws most).1.length ≤ most ∧ areaD d (bestD d ws most).1 = (bestD d ws most).2 ∧ 0 ≤ (bestD d ws most).2 ∧ (bestD d ws most).2 < d * d := by
  unfold bestD
  rcases bestF_is (areaD d) (candL ws most) ([], 0) with e | ⟨h1, h2⟩
  · rw [e]
    have := Int.mul_le_mul hd hd (by decide) (by omega)
    exact ⟨trivial, (fun v hv => by cases hv), Nat.zero_le _, rfl, Int.le_refl _, by show (0 : Int) < d * d; omega⟩
  · obtain ⟨a, b, c⟩ := cand_mem h h1
    have := area_bd hd a
    exact ⟨a, b, c, h2.symm, by rw [h2]; exact this.1, by rw [h2]; exact this.2⟩
theorem best_more {d : Int} {ws : List Int} {most : Nat} : (bestD d ws most).2 ≤ (bestD d ws (most + 1)).2 := by
  unfold bestD
  rcases bestF_is (areaD d) (candL ws most) ([], 0) with e | ⟨h1, h2⟩
  · rw [e]
    exact (bestF_ge (areaD d) (candL ws (most + 1)) ([], 0)).1
  · rw [h2]
    exact (bestF_ge (areaD d) (candL ws (most + 1)) ([], 0)).2 _ (cand_more h1)
theorem best_one {d : Int} {ws : List Int} {most : Nat} (hm : 1 ≤ most) {w : Int} (hw : w ∈ ws) : w * hgt d w ≤ (bestD d ws most).2 := by
  have := (bestF_ge (areaD d) (candL ws most) ([], 0)).2 _ (cand_one hm hw)
  rw [area_one] at this
  exact this
theorem best_all {d : Int} {ws : List Int} {most : Nat} (hm : ws.length ≤ most) : areaD d ws ≤ (bestD d ws most).2 := by
  rcases Nat.eq_zero_or_pos ws.length with e | e
  · rw [List.eq_nil_of_length_eq_zero e]
    exact (bestF_ge (areaD d) (candL [] most) ([], 0)).1
  · exact (bestF_ge (areaD d) (candL ws most) ([], 0)).2 _ (cand_all e hm)
theorem best_is_all {d : Int} {ws : List Int} {most : Nat} (hd : 1 ≤ d) (h : WidthsOk d ws) (hm : ws.length ≤ most) : (bestD d ws most).2 = areaD d ws := by
  obtain ⟨a, b, _, c, _, _⟩ := best_facts (most := most) hd h
  have h1 := best_all (d := d) hm
  have h2 := area_sub (by omega) a h b
  omega

end Go.Proofs.YtabbehmodmmgoaaDoor
end
