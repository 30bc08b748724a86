/- Small words on memory that all walks use: a slice that reads as a list of numbers, facts on blocks. (Partly turned from the pages of small lemmas.) No condition.
Plain facts on numbers; blocks of memory that are known whole. No condition. -/
import Derived.Test.YtpdkbhjcpddnpaaGreatDoorRows
import Derived.WalkKit
import Derived.WalkSpells
import Derived.WalkLawsBesides
import Derived.Deep.AppendLies
import Derived.Deep.Draws
import Derived.Lib.Hide

section
namespace Go.Proofs.YtpdkbhjcpddnpaaGreatDoor
open Go.RowKit

/-- The cells below B read the same and bear the same marks. -/
theorem bcell {B : Nat} {W w1 : World} (hb : Below B W w1) : (∀ b o, b < B → w1.cell? ⟨b, o, none⟩ = W.cell? ⟨b, o, none⟩) ∧ (∀ b o, b < B → w1.frozen? ⟨b, o, none⟩ = W.frozen? ⟨b, o, none⟩) :=
  ⟨fun b o h => hb.cell (p := ⟨b, o, none⟩) h, fun b o h => hb.frozen (p := ⟨b, o, none⟩) h⟩

theorem below_drewN' {B : Nat} {a w : World} (h : Below B a w) (n : Nat) : Below B a (w.drewN n) := ⟨h.os, h.tape, h.output, h.size, h.block⟩

/-- What is as it was below the heap's size at the beginning: a new block; a callee; a draw. -/
theorem pa {w a : World} (h : Below w.heap.size w a) {o : Obj} : Below w.heap.size w (a.alloc o) := h.alloc h.size o
theorem pt {w a b : World} (h : Below w.heap.size w a) (h2 : Below a.heap.size a b) : Below w.heap.size w b := h.trans (h2.mono h.size)
theorem pr {w : World} : Below w.heap.size w w := Below.refl _ _
theorem pd {w a : World} (h : Below w.heap.size w a) : Below w.heap.size w a.drew := h.drew
theorem ps {w a : World} (h : Below w.heap.size w a) {p : Addr} (hp : w.heap.size ≤ p.block) {u : Value} : Below w.heap.size w (a.setCell p u) := h.setCell hp u

theorem ret_int {k : IntKind} {a b : Int} (h : a = b) : Ending.returned (.int k a) = .returned (.int k b) := by rw [h]
theorem ret_ii {k l : IntKind} {a b c d : Int} (h : a = b) (h2 : c = d) : Ending.returned (.tuple #[.int k a, .int l c]) = .returned (.tuple #[.int k b, .int l d]) := by rw [h, h2]
theorem ret_bool {a b : Bool} (h : a = b) : Ending.returned (.bool a) = .returned (.bool b) := by rw [h]

/-- A slice at A reads as the numbers xs; its cells lie below block B. -/
def IntsIn (B : Nat) (w : World) (A : Option Addr) (xs : List Int) : Prop :=
  xs = [] ∨ ∃ b off, A = some ⟨b, off, none⟩ ∧ b < B ∧ ∀ j, j < xs.length → w.cell? ⟨b, off + j, none⟩ = some (.int .i64 (xs.getD j 0))

section
variable {w w' : World} {B B' : Nat} {A : Option Addr} {xs : List Int}
theorem IntsIn.nil : IntsIn B w A [] := .inl rfl
theorem IntsIn.at_ {k : Nat} (h : IntsIn B w A xs) (hk : k < xs.length) : ∃ b off, A = some ⟨b, off, none⟩ ∧ b < B ∧ ∀ j, j < xs.length → w.cell? ⟨b, off + j, none⟩ = some (.int .i64 (xs.getD j 0)) := by
  rcases h with h | h
  · subst h; simp at hk
  · exact h
theorem IntsIn.keep (h : IntsIn B w A xs) (hk : ∀ b o, b < B → w'.cell? ⟨b, o, none⟩ = w.cell? ⟨b, o, none⟩) : IntsIn B w' A xs := by
  rcases h with h | ⟨b, off, hA, hb, hc⟩
  · exact .inl h
  · exact .inr ⟨b, off, hA, hb, fun j hj => (hk _ _ hb).trans (hc j hj)⟩
theorem IntsIn.below (h : IntsIn B w A xs) (hb : Below B w w') : IntsIn B w' A xs := h.keep (bcell hb).1
theorem IntsIn.more (h : IntsIn B w A xs) (hB : B ≤ B') : IntsIn B' w A xs := by
  rcases h with h | ⟨b, off, hA, hb, hc⟩
  · exact .inl h
  · exact .inr ⟨b, off, hA, by omega, hc⟩
end

end Go.Proofs.YtpdkbhjcpddnpaaGreatDoor
end

section
namespace Go.Proofs.YtpdkbhjcpddnpaaGreatDoor
open Go.RowKit

theorem w64 {n : Int} (h : -9223372036854775808 ≤ n ∧ n ≤ 9223372036854775807) : wrap64 n = n := by unfold wrap64; omega

/-- Block g is just these cells of this type, none of them marked. -/
def Blk (w : World) (g : Nat) (t : TypeId) (cs : Array Value) : Prop := w.heap[g]? = some (.cells cs t (0, 0))

section
variable {w w' : World} {g : Nat} {t : TypeId} {cs : Array Value}
theorem Blk.lt (h : Blk w g t cs) : g < w.heap.size := by
  rcases Nat.lt_or_ge g w.heap.size with hlt | hge
  · exact hlt
  · unfold Blk at h; rw [Array.getElem?_eq_none hge] at h; cases h
theorem Blk.cell (h : Blk w g t cs) (i : Nat) : w.cell? ⟨g, i, none⟩ = cs[i]? := by
  unfold Blk at h
  simp [World.cell?, h]
theorem Blk.cellAt (h : Blk w g t cs) (i : Nat) {v : Value} (hv : cs[i]? = some v) : w.cell? ⟨g, i, none⟩ = some v := (h.cell i).trans hv
theorem Blk.frozen (h : Blk w g t cs) (i : Nat) : w.frozen? ⟨g, i, none⟩ = false := by
  unfold Blk at h
  simp [World.frozen?, h]
theorem Blk.new (w : World) (t : TypeId) (cs : Array Value) : Blk (w.alloc (.cells cs t)) w.heap.size t cs := heap_alloc_new w _
theorem Blk.newAt {n : Nat} (h : w.heap.size = n) : Blk (w.alloc (.cells cs t)) n t cs := h ▸ Blk.new w t cs
theorem Blk.drew (h : Blk w g t cs) : Blk w.drew g t cs := h
theorem Blk.alloc (h : Blk w g t cs) {o : Obj} : Blk (w.alloc o) g t cs := (Below.heap_alloc w o g h.lt).trans h
theorem Blk.set_ (h : Blk w g t cs) (i : Nat) (u : Value) : Blk (w.setCell ⟨g, i, none⟩ u) g t (cs.setIfInBounds i u) := by
  unfold Blk at h ⊢
  simp [World.setCell, Array.getElem?_modify, h]
theorem Blk.far (h : Blk w g t cs) {p : Addr} (hp : g ≠ p.block) {u : Value} : Blk (w.setCell p u) g t cs := (Below.heap_setCell w p u g hp).trans h
theorem Blk.below {B : Nat} (h : Blk w g t cs) (hb : Below B w w') (hg : g < B) : Blk w' g t cs := (hb.block g hg).trans h
theorem Blk.past (h : Blk w g t cs) (hb : Below w.heap.size w w') : Blk w' g t cs := h.below hb h.lt
theorem Blk.grown {row : Option Nat} (h : Blk w g t cs) (hb : w.grownBy w' row) (hg : some g ≠ row) : Blk w' g t cs := (hb.block g h.lt hg).trans h
end

end Go.Proofs.YtpdkbhjcpddnpaaGreatDoor
end
