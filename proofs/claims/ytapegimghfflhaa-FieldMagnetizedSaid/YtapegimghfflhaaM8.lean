/- A range over a function whose iterator hands over memory of its own: the round is told what holds of what it is handed (Pr) in the world in which it begins. Turned from the library's law for a range over a function, at the wide fence. No condition.
Words on iterators that hand over a slice of numbers in memory of their own. No condition. -/
import Derived.Test.YtapegimghfflhaaM7
import Derived.RangeFuncNested
import Derived.RangeFuncBound
import Derived.RangeFuncCalls
import Derived.RangeFuncLeaves
import Derived.Shelf.Abstract
import Derived.Shelf.RegionOpen
import Derived.OwnWalkIn
import Derived.TacticsInMore
import Derived.LoopNIn
import Derived.LoopIn
import Derived.Maps.OwnIn

section
namespace Go.Proofs.Ytapegimghfflhaa
open Go.RowKit Go.Shelf
variable {P : Program}

/-- The iterator's word: J holds between two rounds, what has come being pre; Pr of what a round is handed, in the world in which the round begins; Kp of a round that goes on (the world in which the loop began first). -/
def SeqP {α : Type} (n : Nat) (P : Program) (g : Nat) (fb lb : Array Value) (encs : α → Array Value) (Pr : α → World → Prop) (Kp : World → World → World → Prop) (S Sp : List α → Prop) (N : Nat) (w : World) : Prop :=
  ∀ (l : Nat) (J Jx : List α → World → Prop) (W : World), Below w.heap.size w W → AbidesFrom W.heap.size J → AbidesFrom W.heap.size Jx →
    (∀ pre x W1, J pre W1 → Pr x W1 → pre.length < N → YieldAt Fence.wide (n - 1) P l (encs x) W1 fun e W' =>
      (e = .returned (.bool true) ∧ J (pre ++ [x]) W' ∧ Kp W W1 W') ∨ (e = .returned (.bool false) ∧ Jx (pre ++ [x]) W')) →
    J [] W →
    CallsIn Fence.wide n P g (fb ++ #[.func (.yield l) #[] #[]] ++ lb) W fun e W' => (∃ v, e = .returned v) ∧ ((∃ xs, S xs ∧ J xs W') ∨ (∃ pre, Sp pre ∧ Jx pre W'))

end Go.Proofs.Ytapegimghfflhaa
end

section
namespace Go.Proofs.Ytapegimghfflhaa
open Go.RowKit Go.Shelf

theorem roundIn_any {m m' : Nat} {P : Program} {l : Nat} {f : FuncId} {tmps : Array Value} {assign body : Code} {w : World} {R : Ending → World → Prop}
    (h : RoundIn Fence.wide m P l f tmps assign body w R) : RoundIn Fence.wide m' P l f tmps assign body w R := ⟨h.1, fun c cs _ => h.2 c cs (room_wide _)⟩
/-- From block B on, what was there is as it was. -/
structure Above (B : Nat) (w w' : World) : Prop where
  size : w.heap.size ≤ w'.heap.size
  block : ∀ k, B ≤ k → k < w.heap.size → w'.heap[k]? = w.heap[k]?
theorem Above.refl (B : Nat) (w : World) : Above B w w := ⟨Nat.le_refl _, fun _ _ _ => rfl⟩
theorem Above.trans {B : Nat} {a b c : World} (h : Above B a b) (k : Above B b c) : Above B a c :=
  ⟨Nat.le_trans h.size k.size, fun i hi h2 => (k.block i hi (Nat.lt_of_lt_of_le h2 h.size)).trans (h.block i hi h2)⟩
theorem Above.of_below {B : Nat} {a b : World} (h : Below a.heap.size a b) : Above B a b := ⟨h.size, fun k _ hk => h.block k hk⟩

/-- A slice at A reads as xs; its cells lie in blocks from B on. -/
def IntsAb (B : Nat) (w : World) (A : Option Addr) (xs : List Int) : Prop :=
  xs = [] ∨ ∃ b off, A = some ⟨b, off, none⟩ ∧ B ≤ b ∧ b < w.heap.size ∧ ∀ j, j < xs.length → w.cell? ⟨b, off + j, none⟩ = some (.int .i64 (xs.getD j 0))
theorem IntsAb.ints {B : Nat} {w : World} {A : Option Addr} {xs : List Int} (h : IntsAb B w A xs) : IntsIn w.heap.size w A xs := by
  rcases h with h | ⟨b, off, hA, _, hb, hc⟩
  · exact .inl h
  · exact .inr ⟨b, off, hA, hb, hc⟩
theorem IntsAb.above {B : Nat} {w w' : World} {A : Option Addr} {xs : List Int} (h : IntsAb B w A xs) (hk : Above B w w') : IntsAb B w' A xs := by
  rcases h with h | ⟨b, off, hA, hB, hb, hc⟩
  · exact .inl h
  · exact .inr ⟨b, off, hA, hB, Nat.lt_of_lt_of_le hb hk.size, fun j hj => (World.cell?_of_block (w := w) (hk.block b hB hb)).trans (hc j hj)⟩
theorem IntsAb.mono {B B' : Nat} {w : World} {A : Option Addr} {xs : List Int} (h : IntsAb B w A xs) (hB : B' ≤ B) : IntsAb B' w A xs := by
  rcases h with h | ⟨b, off, hA, hb, r⟩
  · exact .inl h
  · exact .inr ⟨b, off, hA, by omega, r⟩
theorem IntsAb.far {B : Nat} {w : World} {A : Option Addr} {xs : List Int} (h : IntsAb B w A xs) {p : Addr} (hp : p.block < B) {u : Value} : IntsAb B (w.setCell p u) A xs := by
  rcases h with h | ⟨b, off, hA, hB, hb, hc⟩
  · exact .inl h
  · exact .inr ⟨b, off, hA, hB, by simpa [World.setCell] using hb, fun j hj => (World.cell?_setCell_other w p _ u (fun e => by subst e; simp at hp; omega)).trans (hc j hj)⟩
theorem own_blk {β : Type} (B g : Nat) (t : TypeId) (cs : Array Value) : OwnFrom B (fun (_ : β) W => Blk W g t cs) := fun _ W W' row hs hg hr =>
  hs.grown hg (fun e => by
    obtain ⟨_, o, ho, hc⟩ := hr g e.symm
    rw [show W.heap[g]? = _ from hs] at ho
    cases ho
    cases hc)
theorem own_ints {β : Type} (B B' : Nat) (A : Option Addr) (xs : List Int) : OwnFrom B (fun (_ : β) W => IntsAb B' W A xs) := fun _ W W' row hs hg hr => by
  rcases hs with h | ⟨b, off, hA, hB, hb, hc⟩
  · exact .inl h
  · exact .inr ⟨b, off, hA, hB, Nat.lt_of_lt_of_le hb hg.size, fun j hj => cell_kept (hc j hj) hg (fun r e => (hr r e).2)⟩
theorem Blk.putObj {w : World} {g D : Nat} {t : TypeId} {cs : Array Value} (h : Blk w g t cs) (hne : g ≠ D) {o : Obj} : Blk (w.putObj D o) g t cs := (World.putObj_heap_other hne).trans h

/-- What a round is handed: where the slice lies, its capacity, its numbers. -/
abbrev RowI := (Option Addr × Nat) × List Int
def rowEnc (n : Nat) (x : RowI) : Array Value := #[.slice x.1.1 n x.1.2]
def RowPr (B n : Nat) (x : RowI) (W : World) : Prop := IntsAb B W x.1.1 x.2 ∧ x.2.length = n ∧ n ≤ x.1.2
theorem RowPr.put {B n : Nat} {x : RowI} {A : World} {l : Nat} {o : Obj} (o' : Obj) (h : RowPr B n x A) (ho : A.heap[l]? = some o) (hc : o.isCells = false) : RowPr B n x (A.putObj l o') :=
  ⟨own_ints (β := Unit) 0 B x.1.1 x.2 () A _ (some l) h.1 (grownBy_putObj' A l o') (fun r e => by cases e; exact ⟨Nat.zero_le _, o, ho, hc⟩), h.2⟩
/-- What a round keeps for the iterator: what has been made since the loop began, and the blocks of S. -/
structure KeepS (S : Nat → Prop) (W0 A A' : World) : Prop where
  above : Above W0.heap.size A A'
  own : ∀ k, S k → A'.heap[k]? = A.heap[k]?
theorem KeepS.trans {S : Nat → Prop} {W A B C : World} (h : KeepS S W A B) (k : KeepS S W B C) : KeepS S W A C := ⟨h.above.trans k.above, fun i hi => (k.own i hi).trans (h.own i hi)⟩
theorem KeepS.put {S : Nat → Prop} {W A : World} {l : Nat} {_o : Obj} (o' : Obj) (hS : ∀ k, S k → k ≠ l) (hl : l < W.heap.size) : KeepS S W A (A.putObj l o') :=
  ⟨⟨by simp, fun k hk _ => World.putObj_heap_other (by omega)⟩, fun k hk => World.putObj_heap_other (hS k hk)⟩
theorem KeepS.of_below {S : Nat → Prop} {W A A' : World} (h : Below A.heap.size A A') (hS : ∀ k, S k → k < A.heap.size) : KeepS S W A A' := ⟨Above.of_below h, fun k hk => h.block k (hS k hk)⟩
theorem KeepS.blk {S : Nat → Prop} {W A A' : World} (h : KeepS S W A A') {g : Nat} {t : TypeId} {cs : Array Value} (hb : Blk A g t cs) (hg : S g ∨ W.heap.size ≤ g) : Blk A' g t cs := by
  have hlt := hb.lt
  have e : A'.heap[g]? = A.heap[g]? := by
    rcases hg with hg | hg
    · exact h.own g hg
    · exact h.above.block g hg hlt
  exact e.trans hb

/-- A block of numbers. -/
def IntBlk (W : World) (g : Nat) (xs : List Int) : Prop := Blk W g 3 (xs.map (Value.int .i64)).toArray
section
variable {W : World} {g : Nat} {xs : List Int}
theorem IntBlk.cell (h : IntBlk W g xs) {j : Nat} (hj : j < xs.length) : W.cell? ⟨g, j, none⟩ = some (.int .i64 (xs.getD j 0)) := by
  unfold IntBlk at h
  rw [h.cell]
  simp [List.getD, hj]
theorem IntBlk.set (h : IntBlk W g xs) (j : Nat) (v : Int) : IntBlk (W.setCell ⟨g, j, none⟩ (.int .i64 v)) g (xs.set j v) := by
  have h1 := Blk.set_ h j (.int .i64 v)
  unfold IntBlk
  rwa [show (xs.map (Value.int .i64)).toArray.setIfInBounds j (.int .i64 v) = ((xs.set j v).map (Value.int .i64)).toArray by
    rw [List.setIfInBounds_toArray, List.map_set]] at h1
theorem IntBlk.ints (h : IntBlk W g xs) (B : Nat) (hB : B ≤ g) : IntsAb B W (some ⟨g, 0, none⟩) xs := .inr ⟨g, 0, rfl, hB, Blk.lt h, fun j hj => by rw [Nat.zero_add]; exact h.cell hj⟩
end

end Go.Proofs.Ytapegimghfflhaa
end
