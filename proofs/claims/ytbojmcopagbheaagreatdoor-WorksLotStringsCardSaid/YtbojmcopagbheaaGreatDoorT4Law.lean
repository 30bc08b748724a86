/- Plain law: of valid lots, the ingredients of each as sets and by index. No program. -/
import Derived.Test.YtbojmcopagbheaaGreatDoorLOpen
import Derived.Test.YtbojmcopagbheaaGreatDoorZFSusp
import Derived.Test.YtbojmcopagbheaaGreatDoorT1Texts
namespace Go.Proofs.YtbojmcopagbheaaGreatDoor
open Go.RowKit

def nameAt (xs : List Lot) (i : Nat) : ByteArray := (xs.getD i default).name
def madeAt (xs : List Lot) (i : Nat) : List ByteArray := (xs.getD i default).made
/-- Lots are valid: no name twice, and what is made is there before. -/
def LotsOk (xs : List Lot) : Prop := xs.length ≤ 20 ∧ ∀ i, i < xs.length → goneB (fromV xs i) (nameAt xs i) = true ∧ (madeAt xs i).length ≤ 6 ∧ ∀ y ∈ madeAt xs i, goneB (fromV xs i) y = false

theorem lotsOk_of {xs : List Lot} (h : (openLotsV xs).2 = 0) : LotsOk xs := by
  unfold openLotsV at h
  by_cases hl : 20 < xs.length
  · rw [if_pos hl] at h; exact absurd h (by decide)
  · rw [if_neg hl] at h
    refine ⟨by omega, fun i hi => ?_⟩
    have hz : lotsE1 xs i = 0 := scan_zero h i hi
    unfold lotsE1 at hz
    obtain ⟨h1, h2⟩ := firstV_zero.1 hz
    obtain ⟨h3, h4⟩ := firstV_zero.1 h2
    have h5 := (unless_ne (by decide)).1 h3
    have h6 := (unless_ne (by decide)).1 (firstV_zero.1 h4).1
    refine ⟨h5, (lotE_made h1).1, fun y hy => ?_⟩
    have h7 : anyG (goneB (fromV xs i)) (xs.getD i default).made = false := by simpa using h6
    unfold anyG at h7
    rw [List.any_eq_false] at h7
    simpa using h7 y hy

theorem take_any {α : Type} (p : α → Bool) (xs : List α) (d : α) (i : Nat) (h : i < xs.length) : anyG p (xs.take (i + 1)) = (anyG p (xs.take i) || p (xs.getD i d)) := by
  unfold anyG
  have e : xs.getD i d = xs[i] := by simp [List.getD, h]
  rw [List.take_succ_eq_append_getElem h, List.any_append, e]
  simp
theorem any_at {α : Type} {p : α → Bool} {xs : List α} (d : α) {i : Nat} (hi : i ≤ xs.length) (h : anyG p (xs.take i) = true) : ∃ m, m < i ∧ p (xs.getD m d) = true := by
  unfold anyG at h
  rw [List.any_eq_true] at h
  obtain ⟨x, hx, hp⟩ := h
  obtain ⟨m, hm, rfl⟩ := List.getElem_of_mem hx
  simp only [List.length_take] at hm
  refine ⟨m, by omega, ?_⟩
  have e : xs.getD m d = xs[m]'(by omega) := by simp [List.getD, show m < xs.length by omega]
  rw [e]
  simpa using hp
theorem any_of {α : Type} {p : α → Bool} {xs : List α} (d : α) {i m : Nat} (hi : i ≤ xs.length) (hm : m < i) (h : p (xs.getD m d) = true) : anyG p (xs.take i) = true := by
  unfold anyG
  rw [List.any_eq_true]
  have e : xs.getD m d = xs[m]'(by omega) := by simp [List.getD, show m < xs.length by omega]
  rw [e] at h
  exact ⟨xs[m]'(by omega), List.mem_take_iff_getElem.2 ⟨m, by omega, rfl⟩, h⟩

theorem gone_take (xs : List Lot) : ∀ i, i ≤ xs.length → ∀ z, goneB (fromV xs i) z = !anyG (hasName z) (xs.take i)
  | 0, _, z => rfl
  | i + 1, hi, z => by
    rw [take_any (hasName z) xs default i (by omega), Bool.not_or, ← gone_take xs i (by omega) z]
    unfold goneB hasName
    show (if sameS z (xs.getD i default).name then some (ownV (fromV xs i) (xs.getD i default).made) else fromV xs i z).isNone = _
    rw [sameS_comm z]
    cases sameS (xs.getD i default).name z <;> simp

theorem gone_false {xs : List Lot} {i : Nat} {z : ByteArray} (hi : i ≤ xs.length) (h : goneB (fromV xs i) z = false) : ∃ m, m < i ∧ nameAt xs m = z := by
  rw [gone_take xs i hi z] at h
  obtain ⟨m, hm, hp⟩ := any_at default hi (by simpa using h)
  exact ⟨m, hm, sameS_iff.1 hp⟩
theorem gone_true {xs : List Lot} {i m : Nat} {z : ByteArray} (hi : i ≤ xs.length) (h : goneB (fromV xs i) z = true) (hm : m < i) : nameAt xs m ≠ z := fun e => by
  rw [gone_take xs i hi z, any_of default hi hm (show hasName z (xs.getD m default) = true from sameS_iff.2 e)] at h
  cases h

theorem name_inj {xs : List Lot} (ok : LotsOk xs) {i j : Nat} (hi : i < xs.length) (hj : j < xs.length) (h : nameAt xs i = nameAt xs j) : i = j := by
  rcases Nat.lt_trichotomy i j with h1 | h1 | h1
  · exact absurd h (gone_true (by omega) (ok.2 j hj).1 h1)
  · exact h1
  · exact absurd h.symm (gone_true (by omega) (ok.2 i hi).1 h1)

theorem findG_at {α : Type} {p : α → Bool} {xs : List α} (d : α) {m : Nat} (hm : m < xs.length) (hp : p (xs.getD m d) = true) (hno : ∀ j, j < m → p (xs.getD j d) = false) : ∀ q k, m - k = q → k ≤ m → findG p xs k = (m : Int)
  | 0, k, hq, hk => by
    obtain rfl : k = m := by omega
    rw [findG_step p xs k d hm, if_pos hp]
  | q + 1, k, hq, hk => by
    rw [findG_step p xs k d (by omega), if_neg (by rw [hno k (by omega)]; decide)]
    exact findG_at d hm hp hno q (k + 1) (by omega) (by omega)
theorem find_name {xs : List Lot} (ok : LotsOk xs) {m : Nat} (hm : m < xs.length) : findG (hasName (nameAt xs m)) xs 0 = (m : Int) :=
  findG_at default hm (sameS_iff.2 rfl) (fun j hj => by
    cases h : hasName (nameAt xs m) (xs.getD j default) with
    | false => rfl
    | true => exact absurd (name_inj ok (by omega) hm (sameS_iff.1 h)) (by omega)) m 0 (by omega) (by omega)

/-- Whether z is an ingredient of lot i. -/
def ingr (xs : List Lot) (i : Nat) (z : ByteArray) : Bool := ownV (fromV xs i) (madeAt xs i) z

theorem from_at {xs : List Lot} (ok : LotsOk xs) : ∀ k, k ≤ xs.length → ∀ i, i < k → fromV xs k (nameAt xs i) = some (ingr xs i)
  | 0, _, i, h => by omega
  | k + 1, hk, i, h => by
    show (if sameS (nameAt xs i) (xs.getD k default).name then some (ownV (fromV xs k) (xs.getD k default).made) else fromV xs k (nameAt xs i)) = _
    by_cases he : i = k
    · subst he
      have h1 : sameS (nameAt xs i) (xs.getD i default).name = true := sameS_self _
      rw [if_pos h1]
      rfl
    · have h1 : ¬ sameS (nameAt xs i) (xs.getD k default).name = true := fun e => he (name_inj ok (by omega) (by omega) (sameS_iff.1 e))
      rw [if_neg h1, from_at ok k (by omega) i (by omega)]
theorem inner_at {xs : List Lot} (ok : LotsOk xs) {k i : Nat} (hk : k ≤ xs.length) (hi : i < k) : innerOf (fromV xs k) (nameAt xs i) = ingr xs i := by
  unfold innerOf
  rw [from_at ok k hk i hi]
  rfl

theorem ownV_any (F : Fam) (made : List ByteArray) (z : ByteArray) : ownV F made z = made.any fun y => sameS z y || innerOf F y z := by
  have h : ∀ (made : List ByteArray) (a : ByteArray → Bool), made.foldl (fun own y z => own z || sameS z y || innerOf F y z) a z = (a z || made.any fun y => sameS z y || innerOf F y z) := by
    intro made
    induction made with
    | nil => intro a; simp
    | cons y l ih => intro a; rw [List.foldl_cons, ih, List.any_cons]; simp [Bool.or_assoc]
  unfold ownV
  rw [h]
  simp

theorem ingr_iff {xs : List Lot} (ok : LotsOk xs) {i : Nat} (hi : i < xs.length) (z : ByteArray) : ingr xs i z = true ↔ ∃ m, m < i ∧ nameAt xs m ∈ madeAt xs i ∧ (z = nameAt xs m ∨ ingr xs m z = true) := by
  unfold ingr
  rw [ownV_any, List.any_eq_true]
  constructor
  · rintro ⟨y, hy, h⟩
    obtain ⟨m, hm, rfl⟩ := gone_false (by omega) ((ok.2 i hi).2.2 y hy)
    refine ⟨m, hm, hy, ?_⟩
    rw [Bool.or_eq_true, sameS_iff, inner_at ok (by omega) hm] at h
    exact h
  · rintro ⟨m, hm, hy, h⟩
    refine ⟨nameAt xs m, hy, ?_⟩
    rw [Bool.or_eq_true, sameS_iff, inner_at ok (by omega) hm]
    exact h

/-- Whether lot j is an ingredient of lot i. -/
def ingD (xs : List Lot) (i j : Nat) : Bool := ingr xs i (nameAt xs j)

theorem ingD_iff {xs : List Lot} (ok : LotsOk xs) {i j : Nat} (hi : i < xs.length) (hj : j < xs.length) : ingD xs i j = true ↔ ∃ m, m < i ∧ nameAt xs m ∈ madeAt xs i ∧ (j = m ∨ ingD xs m j = true) := by
  unfold ingD
  rw [ingr_iff ok hi]
  constructor
  · rintro ⟨m, hm, hy, h | h⟩
    · exact ⟨m, hm, hy, .inl (name_inj ok hj (by omega) h)⟩
    · exact ⟨m, hm, hy, .inr h⟩
  · rintro ⟨m, hm, hy, h | h⟩
    · exact ⟨m, hm, hy, .inl (by rw [h])⟩
    · exact ⟨m, hm, hy, .inr h⟩
theorem ingD_made {xs : List Lot} (ok : LotsOk xs) {i j : Nat} (hi : i < xs.length) (hj : j < xs.length) (h : nameAt xs j ∈ madeAt xs i) : j < i ∧ ingD xs i j = true := by
  obtain ⟨m, hm, he⟩ := gone_false (by omega) ((ok.2 i hi).2.2 _ h)
  obtain rfl : m = j := name_inj ok (by omega) hj he
  exact ⟨hm, (ingD_iff ok hi hj).2 ⟨m, hm, h, .inl rfl⟩⟩
theorem ingD_lt {xs : List Lot} (ok : LotsOk xs) : ∀ i j, i < xs.length → j < xs.length → ingD xs i j = true → j < i := by
  intro i
  induction i using Nat.strongRecOn with
  | _ i ih =>
    intro j hi hj h
    obtain ⟨m, hm, _, h | h⟩ := (ingD_iff ok hi hj).1 h
    · omega
    · have := ih m hm j (by omega) hj h; omega
theorem ingD_trans {xs : List Lot} (ok : LotsOk xs) : ∀ a b c, a < xs.length → b < xs.length → c < xs.length → ingD xs a b = true → ingD xs b c = true → ingD xs a c = true := by
  intro a
  induction a using Nat.strongRecOn with
  | _ a ih =>
    intro b c ha hb hc h1 h2
    obtain ⟨m, hm, hy, h | h⟩ := (ingD_iff ok ha hb).1 h1
    · subst h
      exact (ingD_iff ok ha hc).2 ⟨b, hm, hy, .inr h2⟩
    · exact (ingD_iff ok ha hc).2 ⟨m, hm, hy, .inr (ih m hm b c (by omega) hb hc h h2)⟩

/-- The marks that the specification has set when the lots from i on have been looked at. -/
def Marks (xs : List Lot) (at_ i : Nat) (o : Nat → Bool) : Prop :=
  (∀ j, j < xs.length → o j = true → ingD xs at_ j = true) ∧ ∀ m, i ≤ m → m ≤ at_ → (m = at_ ∨ o m = true) → ∀ j, j < xs.length → nameAt xs j ∈ madeAt xs m → o j = true
def markV (xs : List Lot) (o : Nat → Bool) (ys : List ByteArray) : Nat → Bool := fun j => o j || ys.any fun y => sameS (nameAt xs j) y

theorem marks_start (xs : List Lot) (at_ : Nat) : Marks xs at_ (at_ + 1) fun _ => false := ⟨fun _ _ h => by simp at h, fun m h1 h2 => by omega⟩
theorem marks_skip {xs : List Lot} {at_ i : Nat} {o : Nat → Bool} (h : Marks xs at_ (i + 1) o) (hne : i ≠ at_) (ho : o i = false) : Marks xs at_ i o :=
  ⟨h.1, fun m h1 h2 h3 j hj hy => by
    by_cases he : m = i
    · subst he
      rcases h3 with h3 | h3
      · exact absurd h3 hne
      · rw [ho] at h3; cases h3
    · exact h.2 m (by omega) h2 h3 j hj hy⟩
theorem mark_iff {xs : List Lot} {o : Nat → Bool} {ys : List ByteArray} {j : Nat} : markV xs o ys j = true ↔ o j = true ∨ nameAt xs j ∈ ys := by
  unfold markV
  rw [Bool.or_eq_true, List.any_eq_true]
  constructor
  · rintro (h | ⟨y, hy, h⟩)
    · exact .inl h
    · exact .inr (by rw [sameS_iff.1 h]; exact hy)
  · rintro (h | h)
    · exact .inl h
    · exact .inr ⟨_, h, sameS_self _⟩
theorem marks_step {xs : List Lot} (ok : LotsOk xs) {at_ i : Nat} {o : Nat → Bool} (hat : at_ < xs.length) (hi : i ≤ at_) (h : Marks xs at_ (i + 1) o) (ho : i = at_ ∨ o i = true) : Marks xs at_ i (markV xs o (madeAt xs i)) := by
  refine ⟨fun j hj hm => ?_, fun m h1 h2 h3 j hj hy => ?_⟩
  · rcases mark_iff.1 hm with h1 | h1
    · exact h.1 j hj h1
    · have h2 := (ingD_made ok (by omega) hj h1).2
      rcases ho with rfl | ho
      · exact h2
      · exact ingD_trans ok at_ i j hat (by omega) hj (h.1 i (by omega) ho) h2
  · rw [mark_iff]
    by_cases he : m = i
    · subst he
      exact .inr hy
    · refine .inl (h.2 m (by omega) h2 ?_ j hj hy)
      rcases h3 with h3 | h3
      · exact .inl h3
      · rcases mark_iff.1 h3 with h4 | h4
        · exact .inr h4
        · have := (ingD_made ok (show i < xs.length by omega) (show m < xs.length by omega) h4).1; omega
theorem marks_end {xs : List Lot} (ok : LotsOk xs) {at_ : Nat} {o : Nat → Bool} (hat : at_ < xs.length) (h : Marks xs at_ 0 o) {j : Nat} (hj : j < xs.length) : o j = ingD xs at_ j := by
  rw [Bool.eq_iff_iff]
  refine ⟨h.1 j hj, ?_⟩
  have hall : ∀ m, m ≤ at_ → (m = at_ ∨ o m = true) → ingD xs m j = true → o j = true := by
    intro m
    induction m using Nat.strongRecOn with
    | _ m ih =>
      intro hm ho hd
      obtain ⟨q, hq, hy, h1⟩ := (ingD_iff ok (by omega) hj).1 hd
      have h2 := h.2 m (by omega) hm ho q (by omega) hy
      rcases h1 with rfl | h1
      · exact h2
      · exact ih q hq (by omega) (.inr h2) h1
  exact hall at_ (Nat.le_refl _) (.inl rfl)

/-- Which lots are ingredients of lot i. -/
def inV (xs : List Lot) (i : Nat) : List Bool := (List.range xs.length).map (ingD xs i)
/-- Whether one of the first k lots is an ingredient of lot i and not surely accepted, or lot i is not. -/
def suspK (xs : List Lot) (i k : Nat) : Bool := badB (xs.getD i default) || (List.range k).any fun q => ingD xs i q && badB (xs.getD q default)
theorem suspK_succ (xs : List Lot) (i k : Nat) : suspK xs i (k + 1) = (suspK xs i k || (ingD xs i k && badB (xs.getD k default))) := by
  unfold suspK
  rw [List.range_succ, List.any_append]
  simp [Bool.or_assoc]

theorem mem_namesV {p : Lot → Bool} {xs : List Lot} {z : ByteArray} : z ∈ namesV p xs ↔ ∃ k, k < xs.length ∧ p (xs.getD k default) = true ∧ nameAt xs k = z := by
  unfold namesV
  rw [List.mem_map]
  constructor
  · rintro ⟨x, hx, rfl⟩
    obtain ⟨hx1, hx2⟩ := List.mem_filter.1 hx
    obtain ⟨k, hk, rfl⟩ := List.getElem_of_mem hx1
    have e : xs.getD k default = xs[k] := by simp [List.getD, hk]
    exact ⟨k, hk, by rw [e]; exact hx2, by unfold nameAt; rw [e]⟩
  · rintro ⟨k, hk, hp, rfl⟩
    have e : xs.getD k default = xs[k] := by simp [List.getD, hk]
    exact ⟨xs.getD k default, List.mem_filter.2 ⟨by rw [e]; exact List.getElem_mem hk, hp⟩, rfl⟩

theorem susp_at {xs : List Lot} (ok : LotsOk xs) {i : Nat} (hi : i < xs.length) : suspB (fromV xs xs.length) (namesV badB xs) (xs.getD i default) = suspK xs i xs.length := by
  rw [Bool.eq_iff_iff]
  unfold suspB anyG suspK
  rw [List.any_eq_true, Bool.or_eq_true, List.any_eq_true]
  have hin : innerOf (fromV xs xs.length) (xs.getD i default).name = ingr xs i := inner_at ok (Nat.le_refl _) hi
  constructor
  · rintro ⟨z, hz, ht⟩
    obtain ⟨k, hk, hb, rfl⟩ := mem_namesV.1 hz
    unfold touchB at ht
    rw [Bool.or_eq_true, hin, sameS_iff] at ht
    rcases ht with ht | ht
    · obtain rfl := name_inj ok hk hi ht
      exact .inl hb
    · exact .inr ⟨k, List.mem_range.2 hk, by rw [Bool.and_eq_true]; exact ⟨ht, hb⟩⟩
  · rintro (hb | ⟨k, hk, h⟩)
    · exact ⟨nameAt xs i, mem_namesV.2 ⟨i, hi, hb, rfl⟩, by unfold touchB; rw [sameS_iff.2 (show nameAt xs i = (xs.getD i default).name from rfl)]; rfl⟩
    · rw [Bool.and_eq_true] at h
      have hk' := List.mem_range.1 hk
      refine ⟨nameAt xs k, mem_namesV.2 ⟨k, hk', h.2, rfl⟩, ?_⟩
      unfold touchB
      rw [hin, show ingr xs i (nameAt xs k) = true from h.1]
      simp

/-- The names of the first i lots for which a condition by index holds. -/
def pickV (p : Nat → Bool) (xs : List Lot) : Nat → List ByteArray
  | 0 => []
  | i + 1 => pickV p xs i ++ if p i then [nameAt xs i] else []
theorem pick_names {p : Lot → Bool} {q : Nat → Bool} {xs : List Lot} (h : ∀ i, i < xs.length → p (xs.getD i default) = q i) : ∀ i, i ≤ xs.length → pickV q xs i = namesV p (xs.take i)
  | 0, _ => rfl
  | i + 1, hi => by
    rw [namesV_succ p xs i (by omega), ← pick_names h i (by omega), h i (by omega)]
    rfl
theorem pick_all {p : Lot → Bool} {q : Nat → Bool} {xs : List Lot} (h : ∀ i, i < xs.length → p (xs.getD i default) = q i) : pickV q xs xs.length = namesV p xs := by
  rw [pick_names h xs.length (Nat.le_refl _), List.take_length]
theorem pick_len (p : Nat → Bool) (xs : List Lot) : ∀ i, (pickV p xs i).length ≤ i
  | 0 => Nat.le_refl _
  | i + 1 => by
    show (pickV p xs i ++ if p i then [nameAt xs i] else []).length ≤ i + 1
    have := pick_len p xs i
    rw [List.length_append]
    split <;> simp <;> omega
theorem suspects_pick {xs : List Lot} (ok : LotsOk xs) : pickV (fun i => suspK xs i xs.length) xs xs.length = suspectsV xs :=
  pick_all fun _ hi => susp_at ok hi

/-- A row of marks, as cells. -/
def marksC (n : Nat) (o : Nat → Bool) : Array Value := ((List.range n).map fun j => Value.bool (o j)).toArray
theorem marks_at {n : Nat} {o : Nat → Bool} {j : Nat} (h : j < n) : (marksC n o)[j]? = some (.bool (o j)) := by
  unfold marksC
  simp [h]
theorem marks_set {n : Nat} {o : Nat → Bool} {m : Nat} : (marksC n o).setIfInBounds m (.bool true) = marksC n fun j => o j || j == m := by
  unfold marksC
  apply Array.ext
  · simp
  · intro j h1 h2
    simp only [List.setIfInBounds_toArray, List.getElem_toArray, List.getElem_set, List.getElem_map, List.getElem_range]
    by_cases he : m = j
    · subst he; simp
    · have : (j == m) = false := by simpa using fun e => he e.symm
      simp [he, this]
theorem marksC_ext {n : Nat} {o o2 : Nat → Bool} (h : ∀ j, j < n → o j = o2 j) : marksC n o = marksC n o2 := by
  unfold marksC
  congr 1
  apply List.map_congr_left
  intro j hj
  rw [h j (List.mem_range.1 hj)]
theorem marks_one {xs : List Lot} (ok : LotsOk xs) {o : Nat → Bool} {ys : List ByteArray} {k m : Nat} (hk : k < ys.length) (hm : m < xs.length) (he : nameAt xs m = ys.getD k default) {j : Nat} (hj : j < xs.length) : markV xs o (ys.take (k + 1)) j = (markV xs o (ys.take k) j || j == m) := by
  unfold markV
  have h := take_any (fun y => sameS (nameAt xs j) y) ys default k hk
  unfold anyG at h
  rw [h, ← he, Bool.or_assoc]
  congr 2
  rw [Bool.eq_iff_iff, sameS_iff, beq_iff_eq]
  exact ⟨fun e => name_inj ok hj hm e, fun e => by rw [e]⟩

end Go.Proofs.YtbojmcopagbheaaGreatDoor
