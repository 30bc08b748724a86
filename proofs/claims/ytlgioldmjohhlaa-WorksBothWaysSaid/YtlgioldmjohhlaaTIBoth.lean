/- Plain law and rows of rows of strings for the law that traces lots both ways. -/
import Derived.Test.YtlgioldmjohhlaaTFRefIngr
import Derived.Test.YtlgioldmjohhlaaTHIngr2
namespace Go.Proofs.Ytlgioldmjohhlaa
open Go.RowKit

theorem hasT_iff {xs : List ByteArray} {z : ByteArray} : hasT xs z = true ↔ z ∈ xs := by
  unfold hasT anyG
  rw [List.any_eq_true]
  constructor
  · rintro ⟨y, hy, h⟩; rw [sameS_iff.1 h]; exact hy
  · intro h; exact ⟨z, h, sameS_self z⟩
theorem bool_of_iff {a b : Bool} (h : a = true ↔ b = true) : a = b := Bool.eq_iff_iff.2 h

theorem has_ingr {xs : List Lot} (ok : LotsOk xs) {i k : Nat} (hi : i < xs.length) (hk : k < xs.length) : hasT (ingredientsV xs (nameAt xs i)) (nameAt xs k) = ingD xs i k := by
  apply bool_of_iff
  rw [hasT_iff]
  unfold ingredientsV
  rw [mem_namesV]
  constructor
  · rintro ⟨m, hm, hp, he⟩
    obtain rfl := name_inj ok hm hk he
    rwa [inner_at ok (Nat.le_refl _) hi] at hp
  · intro h
    exact ⟨k, hk, by rw [inner_at ok (Nat.le_refl _) hi]; exact h, rfl⟩
theorem has_prod {xs : List Lot} (ok : LotsOk xs) {i k : Nat} (hi : i < xs.length) : hasT (productsV xs (nameAt xs k)) (nameAt xs i) = ingD xs i k := by
  apply bool_of_iff
  rw [hasT_iff]
  unfold productsV
  rw [mem_namesV]
  constructor
  · rintro ⟨m, hm, hp, he⟩
    obtain rfl := name_inj ok hm hi he
    have hp2 : innerOf (fromV xs xs.length) (nameAt xs m) (nameAt xs k) = true := hp
    rwa [inner_at ok (Nat.le_refl _) hm] at hp2
  · intro h
    refine ⟨i, hi, ?_, rfl⟩
    show innerOf (fromV xs xs.length) (nameAt xs i) (nameAt xs k) = true
    rw [inner_at ok (Nat.le_refl _) hi]; exact h
theorem has_susp {xs : List Lot} (ok : LotsOk xs) {i : Nat} (hi : i < xs.length) : hasT (suspectsV xs) (nameAt xs i) = suspK xs i xs.length := by
  apply bool_of_iff
  rw [hasT_iff]
  unfold suspectsV
  rw [mem_namesV, ← susp_at ok hi]
  constructor
  · rintro ⟨m, hm, hp, he⟩
    obtain rfl := name_inj ok hm hi he
    exact hp
  · intro h
    exact ⟨i, hi, h, rfl⟩
theorem has_made {xs : List Lot} (ok : LotsOk xs) {i k : Nat} (hi : i < xs.length) (hk : k < xs.length) (h : ingD xs i k = false) : hasT (madeAt xs i) (nameAt xs k) = false := by
  cases hm : hasT (madeAt xs i) (nameAt xs k) with
  | false => rfl
  | true =>
    rw [(ingD_made ok hi hk (hasT_iff.1 hm)).2] at h
    cases h
theorem has_deep {xs : List Lot} (ok : LotsOk xs) {i k j : Nat} (hi : i < xs.length) (hk : k < xs.length) (h : ingD xs i k = true) (hj : j < (madeAt xs k).length) : hasT (ingredientsV xs (nameAt xs i)) ((madeAt xs k).getD j default) = true := by
  obtain ⟨m, hm, he⟩ := gone_false (show k ≤ xs.length by omega) ((ok.2 k hk).2.2 _ (getD_in (d := default) hj))
  have hmem : nameAt xs m ∈ madeAt xs k := by rw [he]; exact getD_in hj
  rw [← he, has_ingr ok hi (by omega)]
  exact ingD_trans ok i k m hi hk (by omega) h (ingD_made ok hk (by omega) hmem).2

def goodB (x : Lot) : Bool := acceptV x == 2
def goodAt (xs : List Lot) (i : Nat) : Bool := goodB (xs.getD i default)
theorem susp_zero (xs : List Lot) (i : Nat) : suspK xs i 0 = !goodAt xs i := by
  unfold suspK badB goodAt goodB
  simp [bne]
theorem susp_next (xs : List Lot) (i k : Nat) : suspK xs i (k + 1) = (suspK xs i k || (ingD xs i k && !goodAt xs k)) := by
  rw [suspK_succ]
  rfl

/-- The values us are slices of strings that read as L 0, L 1, .. -/
def TRows (w : World) (us : List Value) (L : Nat → List ByteArray) (n : Nat) : Prop :=
  us.length = n ∧ ∀ k, k < n → ∃ A c, us[k]? = some (.slice A (L k).length c) ∧ TextRow w A (L k)
section
variable {w w' : World} {us : List Value} {L : Nat → List ByteArray} {n : Nat}
theorem TRows.nil : TRows w [] L 0 := ⟨rfl, fun k h => by omega⟩
theorem TRows.same (h : TRows w us L n) (hk : ∀ (b : Nat) (cs : Array Value) (fz : Nat × Nat), w.heap[b]? = some (Obj.cells cs 9 fz) → w'.heap[b]? = w.heap[b]?) : TRows w' us L n :=
  ⟨h.1, fun k hn => by
    obtain ⟨A, c, h1, h2⟩ := h.2 k hn
    exact ⟨A, c, h1, h2.same hk⟩⟩
theorem TRows.past (h : TRows w us L n) (hb : Below w.heap.size w w') : TRows w' us L n := h.same (TextRow.kept_below hb)
theorem TRows.snoc (h : TRows w us L n) {A : Option Addr} {c : Nat} {l : List ByteArray} (hl : l = L n) (hx : TextRow w A l) : TRows w (us ++ [.slice A l.length c]) L (n + 1) := by
  subst hl
  refine ⟨by simp [h.1], fun k hk => ?_⟩
  rcases Nat.lt_or_ge k n with h1 | h1
  · obtain ⟨A', c', q1, q2⟩ := h.2 k h1
    exact ⟨A', c', by rw [List.getElem?_append_left (by rw [h.1]; exact h1)]; exact q1, q2⟩
  · obtain rfl : k = n := by omega
    exact ⟨A, c, by rw [List.getElem?_append_right (by rw [h.1]; exact Nat.le_refl _), h.1]; simp, hx⟩
theorem TRows.cell (h : TRows w us L n) : ∀ u ∈ us, u.oneCell' = true := fun u hu => by
  obtain ⟨k, hk, rfl⟩ := List.getElem_of_mem hu
  obtain ⟨A, c, q, _⟩ := h.2 k (by rw [← h.1]; exact hk)
  rw [List.getElem?_eq_getElem hk] at q
  injection q with q
  rw [q]; rfl

/-- Rows of different kinds lie apart. -/
theorem own_ne {b1 b2 s1 s2 n1 n2 : Nat} {e1 e2 : TypeId} {v1 v2 : Value} {xs1 xs2 : List Value} (h1 : w.ownsRow b1 e1 s1 v1 n1 xs1) (h2 : w.ownsRow b2 e2 s2 v2 n2 xs2) (hne : e1 ≠ e2) : v1.ownBlock = none ∨ v1.ownBlock ≠ v2.ownBlock := by
  rcases h1.2 with ⟨e, _⟩ | ⟨g, cap, cur, e, _, hh, _⟩
  · exact .inl (by rw [e]; rfl)
  · rcases h2.2 with ⟨e', _⟩ | ⟨g', cap', cur', e', _, hh', _⟩
    · exact .inr (by rw [e, e']; simp [Value.ownBlock])
    · refine .inr fun hq => ?_
      rw [e, e'] at hq
      have : g = g' := by simpa [Value.ownBlock] using hq
      subst this
      rw [hh] at hh'
      injection hh' with hh'
      injection hh' with _ ht
      exact hne ht
theorem ne_turn {v1 v2 : Value} (h : v1.ownBlock = none ∨ v1.ownBlock ≠ v2.ownBlock) : v2.ownBlock = none ∨ v2.ownBlock ≠ v1.ownBlock := by
  rcases h with h | h
  · cases h2 : v2.ownBlock with
    | none => exact .inl rfl
    | some g => exact .inr (by rw [h]; simp)
  · exact .inr (Ne.symm h)
/-- Behind an append, the row that was turned lies apart from another one still. -/
theorem ne_grown {b2 s2 n2 : Nat} {e2 : TypeId} {v1 v2 v1' : Value} {xs2 : List Value} (h : v1.ownBlock = none ∨ v1.ownBlock ≠ v2.ownBlock) (h2 : w.ownsRow b2 e2 s2 v2 n2 xs2) (hat : v1'.ownBlock = v1.ownBlock ∨ v1'.ownBlock = some w.heap.size) : v1'.ownBlock = none ∨ v1'.ownBlock ≠ v2.ownBlock := by
  rcases hat with e | e
  · rw [e]; exact h
  · refine .inr fun hq => ?_
    rw [e] at hq
    have := (h2.lt _ hq.symm).2
    omega

/-- A slice of slices of strings, as it is read. -/
def RowsAt (w : World) (v : Value) (L : Nat → List ByteArray) (n : Nat) : Prop :=
  ∃ b off c, v = .slice (some ⟨b, off, none⟩) n c ∧ b < w.heap.size ∧ ∀ k, k < n → ∃ A c', w.cell? ⟨b, off + k, none⟩ = some (.slice A (L k).length c') ∧ RowIn Value.string w.heap.size w A (L k)
theorem rowsAt_of {base : Nat} {v : Value} (ho : w.ownsRow base 53 1 v n us) (h : TRows w us L n) (hn : 0 < n) : RowsAt w v L n := by
  obtain ⟨A, c, rfl, _, _⟩ := own_form ho
  rcases cellsIn_of_own ho with hu | ⟨b, off, rfl, hb, hc⟩
  · have := h.1; rw [hu] at this; simp at this; omega
  · refine ⟨b, off, c, rfl, hb, fun k hk => ?_⟩
    obtain ⟨A', c', h1, h2⟩ := h.2 k hk
    exact ⟨A', c', (hc k (by rw [h.1]; exact hk)).trans h1, h2.row⟩
theorem RowsAt.past {v : Value} (h : RowsAt w v L n) (hb : Below w.heap.size w w') : RowsAt w' v L n := by
  obtain ⟨b, off, c, e, h1, h2⟩ := h
  refine ⟨b, off, c, e, by have := hb.size; omega, fun k hk => ?_⟩
  obtain ⟨A, c', h3, h4⟩ := h2 k hk
  exact ⟨A, c', ((bcell hb).1 _ _ h1).trans h3, (h4.below hb).more hb.size⟩
/-- A slice of answers, as it is read. -/
def BoolsAt (w : World) (v : Value) (f : Nat → Bool) (n : Nat) : Prop :=
  ∃ b off c, v = .slice (some ⟨b, off, none⟩) n c ∧ b < w.heap.size ∧ ∀ k, k < n → w.cell? ⟨b, off + k, none⟩ = some (.bool (f k))
theorem boolsAt_of {base : Nat} {v : Value} {f : Nat → Bool} (ho : w.ownsRow base 4 1 v n ((List.range n).map fun k => Value.bool (f k))) (hn : 0 < n) : BoolsAt w v f n := by
  obtain ⟨A, c, rfl, _, _⟩ := own_form ho
  rcases cellsIn_of_own ho with hu | ⟨b, off, rfl, hb, hc⟩
  · have : n = 0 := by simpa using hu
    omega
  · refine ⟨b, off, c, rfl, hb, fun k hk => ?_⟩
    rw [hc k (by simpa using hk)]
    simp [hk]
theorem BoolsAt.past {v : Value} {f : Nat → Bool} (h : BoolsAt w v f n) (hb : Below w.heap.size w w') : BoolsAt w' v f n := by
  obtain ⟨b, off, c, e, h1, h2⟩ := h
  exact ⟨b, off, c, e, by have := hb.size; omega, fun k hk => ((bcell hb).1 _ _ h1).trans (h2 k hk)⟩
end

theorem strs_info : (Try.prog.info? 53).map (fun i => (i.zero, i.size, i.bytes)) = some (some (.slice none 0 0), 1, 24) := by kernel_rfl

end Go.Proofs.Ytlgioldmjohhlaa
