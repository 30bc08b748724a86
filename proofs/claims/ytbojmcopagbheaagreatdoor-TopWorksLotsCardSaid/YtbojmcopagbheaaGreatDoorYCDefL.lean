/- What a lot of a string is: definitions and plain facts. Printed by a program (gen_wpl.py). -/
import Derived.Test.YtbojmcopagbheaaGreatDoorY1ParT
import Derived.Test.YtbojmcopagbheaaGreatDoorQB
import Derived.Deep.DeepCutAuto
namespace Go.Proofs.YtbojmcopagbheaaGreatDoor
open Go.RowKit
attribute [local go_sem ↓] Go.wp_at_zero Go.wp_at_succ

theorem lot_size6 : (Tryz.prog.info? 58).map (·.size) = some 6 := by kernel_rfl
abbrev bytesL (l : List UInt8) : ByteArray := ⟨l.toArray⟩
theorem rowIn_of_cells {B : Nat} {w : World} {A : Option Addr} {L : List (List UInt8)} (h : CellsIn B w A (L.map strV)) : RowIn Value.string B w A (L.map bytesL) := by
  rcases h with h | ⟨b, off, hA, hb, hc⟩
  · exact .inl (by simpa using h)
  · refine .inr ⟨b, off, hA, hb, fun j hj => ?_⟩
    have hj' : j < L.length := by simpa using hj
    rw [hc j (by simpa using hj')]
    simp [List.getD, hj']
/-- Cells that lie in neither of two blocks. -/
def MadeIn (r x : Nat) (w : World) (A : Option Addr) (cs : List Value) : Prop := cs = [] ∨ ∃ b off, A = some ⟨b, off, none⟩ ∧ b ≠ r ∧ b ≠ x ∧ b < w.heap.size ∧ ∀ j, j < cs.length → w.cell? ⟨b, off + j, none⟩ = cs[j]?
section
variable {r x : Nat} {w w' : World} {A : Option Addr} {cs : List Value}
theorem MadeIn.cells (h : MadeIn r x w A cs) : CellsIn w.heap.size w A cs := by
  rcases h with h | ⟨b, off, hA, _, _, hb, hc⟩
  · exact .inl h
  · exact .inr ⟨b, off, hA, hb, hc⟩
theorem MadeIn.past (h : MadeIn r x w A cs) (hb : Below w.heap.size w w') : MadeIn r x w' A cs := by
  rcases h with h | ⟨b, off, hA, h1, h2, hl, hc⟩
  · exact .inl h
  · exact .inr ⟨b, off, hA, h1, h2, Nat.lt_of_lt_of_le hl hb.size, fun j hj => ((bcell hb).1 b _ hl).trans (hc j hj)⟩
theorem MadeIn.alloc (h : MadeIn r x w A cs) {ob : Obj} : MadeIn r x (w.alloc ob) A cs := h.past (pa pr)
theorem MadeIn.put {b : Nat} (h : MadeIn r x w A cs) (hp : Put w w' b) (hb : b = r ∨ b = x) : MadeIn r x w' A cs := by
  rcases h with h | ⟨c, off, hA, h1, h2, hl, hc⟩
  · exact .inl h
  · exact .inr ⟨c, off, hA, h1, h2, by rw [hp.size]; exact hl, fun j hj => (World.cell?_of_block (hp.other c (by rcases hb with rfl | rfl <;> assumption))).trans (hc j hj)⟩
theorem MadeIn.set_ (h : MadeIn r x w A cs) (i : Nat) (u : Value) : MadeIn r x (w.setCell ⟨x, i, none⟩ u) A cs := by
  rcases h with h | ⟨c, off, hA, h1, h2, hl, hc⟩
  · exact .inl h
  · exact .inr ⟨c, off, hA, h1, h2, by simpa using hl, fun j hj => (World.cell?_of_block (Below.heap_setCell w ⟨x, i, none⟩ u c h2)).trans (hc j hj)⟩
theorem made_of {s g : Nat} {t : TypeId} (hap : 0 < cs.length → A = some ⟨g, 0, none⟩ ∧ s ≤ g ∧ Blk w g t cs.toArray) (hr : r < s) (hx : 0 < cs.length → g ≠ x) : MadeIn r x w A cs := by
  rcases Nat.eq_zero_or_pos cs.length with h0 | h0
  · exact .inl (List.eq_nil_of_length_eq_zero h0)
  · obtain ⟨h1, h2, h3⟩ := hap h0
    refine .inr ⟨g, 0, h1, by omega, hx h0, h3.lt, fun j hj => ?_⟩
    rw [Nat.zero_add, List.getElem?_eq_getElem hj]
    refine h3.cellAt j ?_
    rw [List.getElem?_toArray]
    exact List.getElem?_eq_getElem hj
end

section
variable {w : World} {g b : Nat} {t : TypeId} {cs : Array Value} {a0 a1 a2 a3 a4 a5 v0 v1 v2 v3 v4 v5 : Value}
theorem blk_set6 (h : Blk w g t #[a0, a1, a2, a3, a4, a5]) : Blk ((((((w.setCell ⟨g, 0, none⟩ v0).setCell ⟨g, 1, none⟩ v1).setCell ⟨g, 2, none⟩ v2).setCell ⟨g, 3, none⟩ v3).setCell ⟨g, 4, none⟩ v4).setCell ⟨g, 5, none⟩ v5) g t #[v0, v1, v2, v3, v4, v5] :=
  (((((h.set_ 0 v0).set_ 1 v1).set_ 2 v2).set_ 3 v3).set_ 4 v4).set_ 5 v5
theorem far6 (h : Blk w g t cs) (hne : g ≠ b) : Blk ((((((w.setCell ⟨b, 0, none⟩ v0).setCell ⟨b, 1, none⟩ v1).setCell ⟨b, 2, none⟩ v2).setCell ⟨b, 3, none⟩ v3).setCell ⟨b, 4, none⟩ v4).setCell ⟨b, 5, none⟩ v5) g t cs :=
  (((((h.far hne).far hne).far hne).far hne).far hne).far hne
theorem made6 {r x : Nat} {A : Option Addr} {l : List Value} (h : MadeIn r x w A l) : MadeIn r x ((((((w.setCell ⟨x, 0, none⟩ v0).setCell ⟨x, 1, none⟩ v1).setCell ⟨x, 2, none⟩ v2).setCell ⟨x, 3, none⟩ v3).setCell ⟨x, 4, none⟩ v4).setCell ⟨x, 5, none⟩ v5) A l :=
  (((((h.set_ 0 v0).set_ 1 v1).set_ 2 v2).set_ 3 v3).set_ 4 v4).set_ 5 v5
theorem below6 {w0 : World} (h : Below w0.heap.size w0 w) (hb : w0.heap.size ≤ b) : Below w0.heap.size w0 ((((((w.setCell ⟨b, 0, none⟩ v0).setCell ⟨b, 1, none⟩ v1).setCell ⟨b, 2, none⟩ v2).setCell ⟨b, 3, none⟩ v3).setCell ⟨b, 4, none⟩ v4).setCell ⟨b, 5, none⟩ v5) :=
  ps (ps (ps (ps (ps (ps h hb) hb) hb) hb) hb) hb
end
/-- A lot as lists of bytes. -/
abbrev LotL := List UInt8 × List (List UInt8) × Int × Int × Int × Int
def lotB (r : LotL) : Lot := ⟨bytesL r.1, r.2.1.map bytesL, r.2.2.1, r.2.2.2.1, r.2.2.2.2.1, r.2.2.2.2.2⟩
def lotOut (r : Option LotL) : LotL × Int := match r with
  | none => (([], [], 0, 0, 0, 0), 7)
  | some x => if lotE (lotB x) = 0 then (x, 0) else (([], [], 0, 0, 0, 0), lotE (lotB x))
def LotPost (w : World) (r : LotL × Int) (e : Ending) (w' : World) : Prop := ∃ A c, e = .returned (.tuple #[.agg #[strV r.1.1, .slice A r.1.2.1.length c, .int .i64 r.1.2.2.1, .int .i64 r.1.2.2.2.1, .int .i64 r.1.2.2.2.2.1, .int .i64 r.1.2.2.2.2.2], .int .i64 r.2]) ∧ r.1.2.1.length ≤ c ∧ CellsIn w'.heap.size w' A (r.1.2.1.map strV) ∧ Below w.heap.size w w'
theorem lotPost_bad {w W : World} {E : Int} (h : Below w.heap.size w W) : LotPost w (([], [], 0, 0, 0, 0), E) (.returned (.tuple #[.agg #[.string ⟨#[]⟩, .slice none 0 0, .int .i64 0, .int .i64 0, .int .i64 0, .int .i64 0], .int .i64 E])) W := ⟨none, 0, rfl, Nat.le_refl _, .inl rfl, h⟩
theorem lotPost_ok {w W : World} {nm : List UInt8} {M : List (List UInt8)} {a b c d : Int} {A : Option Addr} {k cp : Nat} (hk : M.length = k) (hc : k ≤ cp) (hi : CellsIn W.heap.size W A (M.map strV)) (h : Below w.heap.size w W) : LotPost w ((nm, M, a, b, c, d), 0) (.returned (.tuple #[.agg #[.string ⟨nm.toArray⟩, .slice A k cp, .int .i64 a, .int .i64 b, .int .i64 c, .int .i64 d], .int .i64 0])) W := by
  subst hk
  exact ⟨A, cp, rfl, hc, hi, h⟩
/-- Where the numbers are read, one after the other. -/
def Fit (a b c d : Option Int) (e0 : Bool) (k : Nat) (o : Bool) (y0 y1 y2 y3 : Int) : Prop := (o = true → e0 = false ∧ (0 < k → a = some y0) ∧ (1 < k → b = some y1) ∧ (2 < k → c = some y2) ∧ (3 < k → d = some y3)) ∧ (o = false → e0 = true ∨ a = none ∨ b = none ∨ c = none ∨ d = none)
section
variable {a b c d : Option Int} {e0 o : Bool} {y0 y1 y2 y3 x : Int}
theorem fit_start : Fit a b c d e0 0 (!e0) y0 y1 y2 y3 := ⟨fun h => ⟨by simpa using h, fun h => absurd h (by omega), fun h => absurd h (by omega), fun h => absurd h (by omega), fun h => absurd h (by omega)⟩, fun h => .inl (by simpa using h)⟩
theorem fit0 (h : Fit a b c d e0 0 o y0 y1 y2 y3) (hx : ∀ k, a = some k → x = k) : Fit a b c d e0 1 (o && a.isSome) x y1 y2 y3 := by
  obtain ⟨h1, h2⟩ := h
  cases o with
  | false => exact ⟨fun e => by simp at e, fun _ => h2 rfl⟩
  | true => cases a with
    | none => exact ⟨fun e => by simp at e, fun _ => .inr (.inl rfl)⟩
    | some v => exact ⟨fun _ => ⟨(h1 rfl).1, fun _ => by rw [hx v rfl], fun h => absurd h (by omega), fun h => absurd h (by omega), fun h => absurd h (by omega)⟩, fun e => by simp at e⟩
theorem fit1 (h : Fit a b c d e0 1 o y0 y1 y2 y3) (hx : ∀ k, b = some k → x = k) : Fit a b c d e0 2 (o && b.isSome) y0 x y2 y3 := by
  obtain ⟨h1, h2⟩ := h
  cases o with
  | false => exact ⟨fun e => by simp at e, fun _ => h2 rfl⟩
  | true => cases b with
    | none => exact ⟨fun e => by simp at e, fun _ => .inr (.inr (.inl rfl))⟩
    | some v => exact ⟨fun _ => ⟨(h1 rfl).1, fun _ => (h1 rfl).2.1 (by omega), fun _ => by rw [hx v rfl], fun h => absurd h (by omega), fun h => absurd h (by omega)⟩, fun e => by simp at e⟩
theorem fit2 (h : Fit a b c d e0 2 o y0 y1 y2 y3) (hx : ∀ k, c = some k → x = k) : Fit a b c d e0 3 (o && c.isSome) y0 y1 x y3 := by
  obtain ⟨h1, h2⟩ := h
  cases o with
  | false => exact ⟨fun e => by simp at e, fun _ => h2 rfl⟩
  | true => cases c with
    | none => exact ⟨fun e => by simp at e, fun _ => .inr (.inr (.inr (.inl rfl)))⟩
    | some v => exact ⟨fun _ => ⟨(h1 rfl).1, fun _ => (h1 rfl).2.1 (by omega), fun _ => (h1 rfl).2.2.1 (by omega), fun _ => by rw [hx v rfl], fun h => absurd h (by omega)⟩, fun e => by simp at e⟩
theorem fit3 (h : Fit a b c d e0 3 o y0 y1 y2 y3) (hx : ∀ k, d = some k → x = k) : Fit a b c d e0 4 (o && d.isSome) y0 y1 y2 x := by
  obtain ⟨h1, h2⟩ := h
  cases o with
  | false => exact ⟨fun e => by simp at e, fun _ => h2 rfl⟩
  | true => cases d with
    | none => exact ⟨fun e => by simp at e, fun _ => .inr (.inr (.inr (.inr rfl)))⟩
    | some v => exact ⟨fun _ => ⟨(h1 rfl).1, fun _ => (h1 rfl).2.1 (by omega), fun _ => (h1 rfl).2.2.1 (by omega), fun _ => (h1 rfl).2.2.2.1 (by omega), fun _ => by rw [hx v rfl]⟩, fun e => by simp at e⟩
end
/-- What the words of a lot say. -/
def wordsL (nm : List UInt8) (M : List (List UInt8)) (a b c d : Option Int) : Option LotL := if [] ∈ M then none else a.bind fun x => b.bind fun y => c.bind fun z => d.map fun u => (nm, M, x, y, z, u)
theorem parseL_words {l nm m a b c d : List UInt8} (hs : splitL 32 l = [nm, m, a, b, c, d]) (hn : nm ≠ []) : parseL l = wordsL nm (partsL m) (numberV a 7) (numberV b 7) (numberV c 7) (numberV d 7) := by
  unfold parseL wordsL
  rw [hs]
  dsimp only
  by_cases h : [] ∈ partsL m
  · rw [if_pos (.inr h), if_pos h]
  · rw [if_neg (fun q => q.elim hn h), if_neg h]
theorem words_bad {nm : List UInt8} {M : List (List UInt8)} {a b c d : Option Int} (h : decide ([] ∈ M) = true ∨ a = none ∨ b = none ∨ c = none ∨ d = none) : lotOut (wordsL nm M a b c d) = (([], [], 0, 0, 0, 0), 7) := by
  have e : wordsL nm M a b c d = none := by
    unfold wordsL
    rcases h with h | h | h | h | h
    · rw [if_pos (by simpa using h)]
    · subst h; split <;> rfl
    · subst h; split
      · rfl
      · cases a <;> rfl
    · subst h; split
      · rfl
      · cases a <;> cases b <;> rfl
    · subst h; split
      · rfl
      · cases a <;> cases b <;> cases c <;> rfl
  rw [e]; rfl
theorem words_good {nm : List UInt8} {M : List (List UInt8)} {a b c d : Option Int} {x y z u : Int} (h0 : decide ([] ∈ M) = false) (h1 : a = some x) (h2 : b = some y) (h3 : c = some z) (h4 : d = some u) :
    lotOut (wordsL nm M a b c d) = if lotE (lotB (nm, M, x, y, z, u)) = 0 then ((nm, M, x, y, z, u), 0) else (([], [], 0, 0, 0, 0), lotE (lotB (nm, M, x, y, z, u))) := by
  subst h1 h2 h3 h4
  have e : wordsL nm M (some x) (some y) (some z) (some u) = some (nm, M, x, y, z, u) := by
    unfold wordsL
    rw [if_neg (by simpa using h0)]
    rfl
  rw [e]; rfl
theorem empty_any (M : List (List UInt8)) : anyG (sameS ⟨#[]⟩) (M.map bytesL) = decide ([] ∈ M) := by
  unfold anyG
  rw [List.any_map]
  induction M with
  | nil => rfl
  | cons x M ih =>
    rw [List.any_cons, ih]
    cases x with
    | nil => simp [sameS]
    | cons b r => simp [sameS]
theorem small_lot {nm : List UInt8} {M : List (List UInt8)} (h1 : nm.length ≤ 500) (h2 : M.length ≤ 501) (h3 : ∀ x ∈ M, x.length ≤ 500) (a b c d : Int) : SmallLot (lotB (nm, M, a, b, c, d)) := by
  refine ⟨by show (bytesL nm).size ≤ 1000; rw [bsize]; omega, by show (M.map bytesL).length ≤ 1000; rw [List.length_map]; omega, fun j => ?_⟩
  show ((M.map bytesL).getD j default).size ≤ 1000
  by_cases hj : j < M.length
  · have e : (M.map bytesL).getD j default = bytesL M[j] := by simp [List.getD, hj]
    rw [e, bsize]
    exact Nat.le_trans (h3 _ (List.getElem_mem hj)) (by omega)
  · have e : (M.map bytesL).getD j default = default := by simp [List.getD, hj]
    rw [e]
    decide

end Go.Proofs.YtbojmcopagbheaaGreatDoor
