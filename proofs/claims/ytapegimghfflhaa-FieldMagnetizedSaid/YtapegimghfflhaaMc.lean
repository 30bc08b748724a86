/- The law for a region that draws its order (a quiet head, walked once in the order of the text, then its tail), inside the wide fence, in a round or not. No condition.
Contract: the iterator over all ascending sets of so many numbers (package design). -/
import Derived.Test.YtapegimghfflhaaMb
import Derived.OrdersIn
import Derived.Test.YtapegimghfflhaaM9
import Derived.Test.YtapegimghfflhaaM4
import Derived.Laws.MakeOwn
import Derived.Deep.LoopGhost

section
namespace Go.Proofs.Ytapegimghfflhaa
open Go.RowKit
section
variable {P : Program} {ops : Array Oper} {md : Region.Mode} {C : World → Prop} {F : Fence} {m : Nat}

def noDefer (ops : Array Oper) : Bool := ops.all fun o => match o.op with | .defer _ => false | _ => true

end

end Go.Proofs.Ytapegimghfflhaa
end

section
namespace Go.Proofs.Ytapegimghfflhaa
open Go.RowKit Go.Shelf
attribute [local go_sem] Oper.semAt_some undef

section
variable {β : Type} {B : Nat} {G : Nat → Prop} {J : β → World → Prop} {s : β} {W W' : World}
theorem abG_past (hJ : AbidesG B G J) (h : J s W) (hb : Below W.heap.size W W') : J s W' :=
  hJ s W W' none h ⟨hb.os, hb.tape, hb.output, hb.size, fun i hi _ => hb.block i hi⟩ (fun r e => by cases e)
theorem grownBy_set (W : World) (g o : Nat) (v : Value) : W.grownBy (W.setCell ⟨g, o, none⟩ v) (some g) := ⟨rfl, rfl, rfl, by simp, fun i _ hne => Below.heap_setCell W _ _ i (fun e => hne (by rw [e]))⟩
theorem abG_set (hJ : AbidesG B G J) {g : Nat} (hg : G g) (h : J s W) (o : Nat) (v : Value) : J s (W.setCell ⟨g, o, none⟩ v) :=
  hJ s W _ (some g) h (grownBy_set W g o v) (fun r e => by cases e; exact .inl hg)
end
/-- What a round keeps for the iterator: its own blocks, and those of S. -/
structure KeepG (S G : Nat → Prop) (A A' : World) : Prop where
  size : A.heap.size ≤ A'.heap.size
  mine : ∀ k, G k → A'.heap[k]? = A.heap[k]?
  own : ∀ k, S k → A'.heap[k]? = A.heap[k]?
theorem KeepG.trans {S G : Nat → Prop} {A B C : World} (h : KeepG S G A B) (k : KeepG S G B C) : KeepG S G A C := ⟨Nat.le_trans h.size k.size, fun i hi => (k.mine i hi).trans (h.mine i hi), fun i hi => (k.own i hi).trans (h.own i hi)⟩
theorem KeepG.put {S G : Nat → Prop} {A : World} {l : Nat} (o' : Obj) (hS : ∀ k, S k → k ≠ l) (hG : ∀ k, G k → k ≠ l) : KeepG S G A (A.putObj l o') :=
  ⟨by simp, fun k hk => World.putObj_heap_other (hG k hk), fun k hk => World.putObj_heap_other (hS k hk)⟩
theorem KeepG.of_below {S G : Nat → Prop} {A A' : World} (h : Below A.heap.size A A') (hS : ∀ k, S k → k < A.heap.size) (hG : ∀ k, G k → k < A.heap.size) : KeepG S G A A' := ⟨h.size, fun k hk => h.block k (hG k hk), fun k hk => h.block k (hS k hk)⟩
/-- What holds of what a round is handed: a slice of n numbers in a block from B on; the iterator's own blocks are there. -/
def RowPG (L : List (List Int)) (B n : Nat) (G : Nat → Prop) (x : RowI) (W : World) : Prop := RowPr B n x W ∧ (∀ k, G k → k < W.heap.size) ∧ x.2 ∈ L
theorem RowPG.put {L : List (List Int)} {B n : Nat} {G : Nat → Prop} {x : RowI} {A : World} {l : Nat} {o : Obj} (o' : Obj) (h : RowPG L B n G x A) (ho : A.heap[l]? = some o) (hc : o.isCells = false) : RowPG L B n G x (A.putObj l o') := ⟨h.1.put o' ho hc, (fun k hk => by have := h.2.1 k hk; simpa using this), h.2.2⟩

theorem ints_zero (n : Nat) : ((List.replicate n (0 : Int)).map (Value.int .i64)).toArray = Array.replicate n (Value.int .i64 0) := by
  rw [List.map_replicate, List.toArray_replicate]
theorem ints_made (n : Nat) (h : n ≤ 1000) (W : World) : (Instr.makeSlice 42 (.int .i64 (n : Int)) (.int .i64 (n : Int))).run Try.prog W = .ok (.slice (some ⟨W.heap.size, 0, none⟩) n n) (W.alloc (.cells (Array.replicate n (Value.int .i64 0)) 3)) := by
  obtain ⟨i, hi, hz⟩ := Option.map_eq_some_iff.1 int_info
  simp only [Prod.mk.injEq] at hz
  obtain ⟨z1, z2, z3⟩ := hz
  have hr := run_make (P := Try.prog) W 42 3 i _ Try.underlying42 hi z1 .i64 .i64 n n (by omega) (Int.le_refl _) (by rw [show i.bytes = 8 from z3]; omega) (by omega)
  simp only [Int.toNat_natCast, z2] at hr
  have e : madeCells (Value.int .i64 0).cells (n * 1) = Array.replicate n (Value.int .i64 0) := by
    unfold madeCells
    apply Array.ext
    · simp
    · intro j h1 h2
      simp [Value.cells, Nat.mod_one]
  rw [e] at hr
  exact hr
/-- What holds of the memory of the iterator. -/
structure SubW (J : List RowI → World → Prop) (g b1 b2 : Nat) (count N : Nat) (p : List RowI) (xs : List Int) (wr : World) : Prop where
  x : IntBlk wr g xs
  j : J p wr
  c1 : Blk wr b1 3 #[.int .i64 (count : Int)]
  c2 : Blk wr b2 3 #[.int .i64 (N : Int)]
section
variable {J : List RowI → World → Prop} {g b1 b2 B count N : Nat} {p : List RowI} {xs : List Int} {wr w1 : World}
theorem SubW.past (h : SubW J g b1 b2 count N p xs wr) (hJ : AbidesG B (· = g) J) (hb : Below wr.heap.size wr w1) : SubW J g b1 b2 count N p xs w1 := ⟨Blk.past h.x hb, abG_past hJ h.j hb, h.c1.past hb, h.c2.past hb⟩
theorem SubW.set (h : SubW J g b1 b2 count N p xs wr) (hJ : AbidesG B (· = g) J) (h1 : b1 ≠ g) (h2 : b2 ≠ g) (k : Nat) (v : Int) : SubW J g b1 b2 count N p (xs.set k v) (wr.setCell ⟨g, k, none⟩ (.int .i64 v)) :=
  ⟨h.x.set k v, abG_set hJ rfl h.j k (.int .i64 v), h.c1.far (p := ⟨g, k, none⟩) (u := .int .i64 v) h1, h.c2.far (p := ⟨g, k, none⟩) (u := .int .i64 v) h2⟩
theorem SubW.keep {B0 b : Nat} {q : List RowI} (h : SubW J g b1 b2 count N p xs wr) (hk : KeepG (fun k => B0 ≤ k ∧ k < b) (· = g) wr w1) (h1 : B0 ≤ b1 ∧ b1 < b) (h2 : B0 ≤ b2 ∧ b2 < b) (hj : J q w1) : SubW J g b1 b2 count N q xs w1 :=
  ⟨(hk.mine g rfl).trans h.x, hj, (hk.own b1 h1).trans h.c1, (hk.own b2 h2).trans h.c2⟩
end
/-- Between two rounds: m sets at most are still to come. -/
def SubsSt (L : List (List Int)) (J : List RowI → World → Prop) (g b1 b2 count N m : Nat) (wr : World) : Prop :=
  ∃ (idx : Nat) (p : List RowI), m + idx = L.length ∧ idx < L.length ∧ p.map (·.2) = L.take idx ∧ SubW J g b1 b2 count N p (L.getD idx []) wr
section
attribute [local go_sem] ints_made
end

end Go.Proofs.Ytapegimghfflhaa
end
