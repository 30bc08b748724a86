/- Contract: MarginsOf (package design). Printed by a program (gen_d8mar.py). -/
import Derived.Test.YtnfbdkdjoekifaaGreatDoorOn3

section
namespace Go.Proofs.YtnfbdkdjoekifaaGreatDoor
open Go.RowKit Go.Shelf
attribute [local go_sem] Oper.semAt_some undef

/-- What a round keeps for the iterator of margins: what of S was there, and its own values. -/
structure KeepT (S : Nat → Prop) (W0 A A' : World) : Prop where
  size : A.heap.size ≤ A'.heap.size
  own : ∀ k, S k → k < A.heap.size → A'.heap[k]? = A.heap[k]?
  kind : KeptT 118 A A'
theorem KeepT.trans {S : Nat → Prop} {W A B C : World} (h : KeepT S W A B) (k : KeepT S W B C) : KeepT S W A C := ⟨Nat.le_trans h.size k.size, fun i hi h2 => (k.own i hi (Nat.lt_of_lt_of_le h2 h.size)).trans (h.own i hi h2), fun b cs fz ht => (k.kind b cs fz ((h.kind b cs fz ht).trans ht)).trans (h.kind b cs fz ht)⟩
theorem KeepT.put {S : Nat → Prop} {W A : World} {l : Nat} {o : Obj} (o' : Obj) (hS : ∀ k, S k → k ≠ l) (ho : A.heap[l]? = some o) (hc : o.isCells = false) : KeepT S W A (A.putObj l o') :=
  ⟨by simp, fun k hk _ => World.putObj_heap_other (hS k hk), fun b cs fz ht => World.putObj_heap_other fun e => by
    subst e
    rw [ht] at ho
    cases ho
    cases hc⟩
theorem KeepT.of_below {S : Nat → Prop} {W A A' : World} (h : Below A.heap.size A A') : KeepT S W A A' := ⟨h.size, fun k _ hk => h.block k hk, KeptT.below h⟩
theorem KeepT.blk {S : Nat → Prop} {W A A' : World} (h : KeepT S W A A') {g : Nat} {cs : Array Value} (hb : Blk A g 118 cs) : Blk A' g 118 cs := (h.kind g cs (0, 0) hb).trans hb
/-- The cells of a range, of ranges. -/
def rngU (m : Int × Int) : List Value := [.int .i64 m.1, .int .i64 m.2]
def rangesC (L : List (Int × Int)) : List Value := L.flatMap rngU
theorem rng_len (m : Int × Int) : (rngU m).length = 2 := rfl
theorem range_infoC : (Tryz.prog.info? 57).map (fun i => (i.zero, i.size, i.bytes)) = some (some (.agg #[.int .i64 0, .int .i64 0]), 2, 16) := by kernel_rfl
/-- Ranges of the callee's own, and an error. -/
def MargRet (w : World) (L : List (Int × Int)) (E : Int) (e : Ending) (w' : World) : Prop := ∃ A c, e = .returned (.tuple #[.slice A L.length c, .int .i64 E]) ∧ CellsIn w'.heap.size w' A (rangesC L) ∧ Below w.heap.size w w'
def rowM (pre : List RowM) : List Value := rangesC (pre.map (·.2))
end Go.Proofs.YtnfbdkdjoekifaaGreatDoor
end
