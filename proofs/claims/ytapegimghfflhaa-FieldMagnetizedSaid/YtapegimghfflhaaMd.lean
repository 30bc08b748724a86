/- A range over a function whose round begins with a box for what is handed (turned from ARange's law): the box lies at the heap's end in which the round began. No condition.
Where specifications and stocks lie: rows of flat structs, one behind the other; rows of structs that hold a slice. No program is in sight. -/
import Derived.Test.YtapegimghfflhaaM8
import Derived.Test.YtapegimghfflhaaM1
import Derived.Test.YtapegimghfflhaaM7

section
namespace Go.Proofs.Ytapegimghfflhaa
open Go.RowKit Go.Shelf
variable {P : Program}

end Go.Proofs.Ytapegimghfflhaa
end

section
namespace Go.Proofs.Ytapegimghfflhaa
open Go.RowKit

section
variable {α : Type} {f : α → List Value} {s : Nat}
theorem flat_len (hf : ∀ x, (f x).length = s) : ∀ l : List α, (l.flatMap f).length = l.length * s
  | [] => by simp
  | x :: l => by rw [List.flatMap_cons, List.length_append, hf, flat_len hf l, List.length_cons, Nat.succ_mul, Nat.add_comm]
theorem flat_at [Inhabited α] (hf : ∀ x, (f x).length = s) : ∀ {l : List α} {j k : Nat}, j < l.length → k < s → (l.flatMap f)[j * s + k]? = (f (l.getD j default))[k]?
  | [], j, k, hj, _ => by simp at hj
  | x :: l, 0, k, _, hk => by
    rw [List.flatMap_cons, Nat.zero_mul, Nat.zero_add, List.getElem?_append_left (by rw [hf]; exact hk)]
    rfl
  | x :: l, j + 1, k, hj, hk => by
    rw [List.flatMap_cons, List.getElem?_append_right (by rw [hf, Nat.succ_mul]; omega), hf, show (j + 1) * s + k - s = j * s + k by rw [Nat.succ_mul]; omega, flat_at hf (by simpa using hj) hk]
    rfl
theorem flat_one (hf : ∀ x, ∀ u ∈ f x, u.oneCell' = true) (l : List α) : ∀ u ∈ l.flatMap f, u.oneCell' = true := fun u hu => by
  obtain ⟨x, _, h⟩ := List.mem_flatMap.1 hu
  exact hf x u h
theorem getD_mem' [Inhabited α] {l : List α} {k : Nat} (h : k < l.length) : l.getD k default ∈ l := by
  have e : l.getD k default = l[k] := by simp [List.getD, h]
  rw [e]
  exact List.getElem_mem h
/-- The cells of one element of a row. -/
theorem CellsIn.elem [Inhabited α] {B : Nat} {w : World} {A : Option Addr} {xs : List α} (h : CellsIn B w A (xs.flatMap f)) (hf : ∀ x, (f x).length = s) {j : Nat} (hj : j < xs.length) (hs : 0 < s) :
    ∃ b off, A = some ⟨b, off, none⟩ ∧ b < B ∧ ∀ i, i < xs.length → ∀ k, k < s → w.cell? ⟨b, off + i * s + k, none⟩ = (f (xs.getD i default))[k]? := by
  have hl := flat_len hf xs
  rcases h with h | ⟨b, off, hA, hb, hc⟩
  · exfalso
    rw [h] at hl
    have h2 : xs.length * s = 0 := hl.symm
    rcases Nat.mul_eq_zero.1 h2 with h3 | h3 <;> omega
  · refine ⟨b, off, hA, hb, fun i hi k hk => ?_⟩
    have h1 : i * s + k < (xs.flatMap f).length := by
      rw [hl]
      have := Nat.mul_le_mul_right s (show i + 1 ≤ xs.length from hi)
      rw [Nat.succ_mul] at this
      omega
    rw [Nat.add_assoc, hc _ h1]
    exact flat_at hf hi hk
end

/-- The cells of a term, of a part. -/
def termU (t : DTerm) : List Value := [.int .i64 t.f, .int .i64 t.q]
def partU (p : DPart) : List Value := [.string p.name, .int .i64 p.price, .int .i64 (valP p 0).1, .int .i64 (valP p 0).2, .int .i64 (valP p 1).1, .int .i64 (valP p 1).2, .int .i64 (valP p 2).1, .int .i64 (valP p 2).2, .int .i64 (valP p 3).1, .int .i64 (valP p 3).2, .int .i64 (valP p 4).1, .int .i64 (valP p 4).2, .int .i64 (valP p 5).1, .int .i64 (valP p 5).2]
theorem term_len (t : DTerm) : (termU t).length = 2 := rfl
theorem term_one (t : DTerm) : ∀ u ∈ termU t, u.oneCell' = true := by simp [termU, Value.oneCell']
def termsC (ts : List DTerm) : List Value := ts.flatMap termU
def partsC (l : List DPart) : List Value := l.flatMap partU

/-- A requirement at an address, a row of them; a slot, a row of slots: all slices below block B. -/
def ReqAt (B : Nat) (w : World) (b off : Nat) (r : DReq) : Prop :=
  ∃ A c, w.cell? ⟨b, off, none⟩ = some (.slice A r.ts.length c) ∧ w.cell? ⟨b, off + 1, none⟩ = some (.bool r.ge) ∧ w.cell? ⟨b, off + 2, none⟩ = some (.int .i64 r.lim) ∧ w.cell? ⟨b, off + 3, none⟩ = some (.int .i64 r.unit) ∧ CellsIn B w A (termsC r.ts) ∧ r.ts.length ≤ c
def ReqsIn (B : Nat) (w : World) (A : Option Addr) (rs : List DReq) : Prop :=
  rs = [] ∨ ∃ b off, A = some ⟨b, off, none⟩ ∧ b < B ∧ ∀ i, i < rs.length → ReqAt B w b (off + i * 4) (rs.getD i default)
def SlotAt (B : Nat) (w : World) (b off : Nat) (l : List DPart) : Prop :=
  ∃ A c, w.cell? ⟨b, off, none⟩ = some (.slice A l.length c) ∧ CellsIn B w A (partsC l) ∧ l.length ≤ c
def SlotsIn (B : Nat) (w : World) (A : Option Addr) (sl : List (List DPart)) : Prop :=
  sl = [] ∨ ∃ b off, A = some ⟨b, off, none⟩ ∧ b < B ∧ ∀ i, i < sl.length → SlotAt B w b (off + i) (sl.getD i [])

section
variable {B B' b off : Nat} {w w' : World} {A : Option Addr} {r : DReq} {l : List DPart} {rs : List DReq} {sl : List (List DPart)}
theorem ReqAt.keep (h : ReqAt B w b off r) (hb : b < B) (hk : ∀ b o, b < B → w'.cell? ⟨b, o, none⟩ = w.cell? ⟨b, o, none⟩) : ReqAt B w' b off r := by
  obtain ⟨A, c, h0, h1, h2, h3, h4, h5⟩ := h
  exact ⟨A, c, (hk _ _ hb).trans h0, (hk _ _ hb).trans h1, (hk _ _ hb).trans h2, (hk _ _ hb).trans h3, h4.keep hk, h5⟩
theorem ReqsIn.keep (h : ReqsIn B w A rs) (hk : ∀ b o, b < B → w'.cell? ⟨b, o, none⟩ = w.cell? ⟨b, o, none⟩) : ReqsIn B w' A rs := by
  rcases h with h | ⟨b, off, hA, hb, hc⟩
  · exact .inl h
  · exact .inr ⟨b, off, hA, hb, fun i hi => (hc i hi).keep hb hk⟩
theorem ReqsIn.below (h : ReqsIn B w A rs) (hb : Below B w w') : ReqsIn B w' A rs := h.keep (bcell hb).1
theorem ReqAt.more (h : ReqAt B w b off r) (hB : B ≤ B') : ReqAt B' w b off r := by
  obtain ⟨A, c, h0, h1, h2, h3, h4, h5⟩ := h
  exact ⟨A, c, h0, h1, h2, h3, h4.more hB, h5⟩
theorem ReqsIn.more (h : ReqsIn B w A rs) (hB : B ≤ B') : ReqsIn B' w A rs := by
  rcases h with h | ⟨b, off, hA, hb, hc⟩
  · exact .inl h
  · exact .inr ⟨b, off, hA, by omega, fun i hi => (hc i hi).more hB⟩
theorem ReqsIn.past (h : ReqsIn B w A rs) (hB : B ≤ w.heap.size) (hb : Below w.heap.size w w') : ReqsIn w'.heap.size w' A rs := ((h.more hB).below hb).more hb.size
theorem ReqsIn.at_ {k : Nat} (h : ReqsIn B w A rs) (hk : k < rs.length) : ∃ b off, A = some ⟨b, off, none⟩ ∧ b < B ∧ ∀ i, i < rs.length → ReqAt B w b (off + i * 4) (rs.getD i default) := by
  rcases h with h | h
  · subst h; simp at hk
  · exact h
theorem SlotAt.keep (h : SlotAt B w b off l) (hb : b < B) (hk : ∀ b o, b < B → w'.cell? ⟨b, o, none⟩ = w.cell? ⟨b, o, none⟩) : SlotAt B w' b off l := by
  obtain ⟨A, c, h0, h1, h2⟩ := h
  exact ⟨A, c, (hk _ _ hb).trans h0, h1.keep hk, h2⟩
theorem SlotsIn.keep (h : SlotsIn B w A sl) (hk : ∀ b o, b < B → w'.cell? ⟨b, o, none⟩ = w.cell? ⟨b, o, none⟩) : SlotsIn B w' A sl := by
  rcases h with h | ⟨b, off, hA, hb, hc⟩
  · exact .inl h
  · exact .inr ⟨b, off, hA, hb, fun i hi => (hc i hi).keep hb hk⟩
theorem SlotsIn.below (h : SlotsIn B w A sl) (hb : Below B w w') : SlotsIn B w' A sl := h.keep (bcell hb).1
theorem SlotAt.more (h : SlotAt B w b off l) (hB : B ≤ B') : SlotAt B' w b off l := by
  obtain ⟨A, c, h0, h1, h2⟩ := h
  exact ⟨A, c, h0, h1.more hB, h2⟩
theorem SlotsIn.more (h : SlotsIn B w A sl) (hB : B ≤ B') : SlotsIn B' w A sl := by
  rcases h with h | ⟨b, off, hA, hb, hc⟩
  · exact .inl h
  · exact .inr ⟨b, off, hA, by omega, fun i hi => (hc i hi).more hB⟩
theorem SlotsIn.past (h : SlotsIn B w A sl) (hB : B ≤ w.heap.size) (hb : Below w.heap.size w w') : SlotsIn w'.heap.size w' A sl := ((h.more hB).below hb).more hb.size
theorem SlotsIn.at_ {k : Nat} (h : SlotsIn B w A sl) (hk : k < sl.length) : ∃ b off, A = some ⟨b, off, none⟩ ∧ b < B ∧ ∀ i, i < sl.length → SlotAt B w b (off + i) (sl.getD i []) := by
  rcases h with h | h
  · subst h; simp at hk
  · exact h
theorem terms_at {ts : List DTerm} {k : Nat} (h : CellsIn B w A (termsC ts)) (hk : k < ts.length) : ∃ b off, A = some ⟨b, off, none⟩ ∧ b < B ∧ ∀ i, i < ts.length → w.cell? ⟨b, off + i * 2, none⟩ = some (.int .i64 (ts.getD i default).f) ∧ w.cell? ⟨b, off + i * 2 + 1, none⟩ = some (.int .i64 (ts.getD i default).q) := by
  obtain ⟨b, off, hA, hb, hc⟩ := h.elem term_len hk (by decide)
  exact ⟨b, off, hA, hb, fun i hi => ⟨hc i hi 0 (by decide), hc i hi 1 (by decide)⟩⟩
/-- The cells of a part at an address. -/
def PartAt (w : World) (b off : Nat) (p : DPart) : Prop := ∀ k, k < 14 → w.cell? ⟨b, off + k, none⟩ = (partU p)[k]?
end

end Go.Proofs.Ytapegimghfflhaa
end
