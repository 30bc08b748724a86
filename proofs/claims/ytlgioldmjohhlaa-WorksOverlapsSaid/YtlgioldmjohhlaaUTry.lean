/- Contract: the search goes on from the tasks started so far. -/
import Derived.Test.YtlgioldmjohhlaaTTryLaw
namespace Go.Proofs.Ytlgioldmjohhlaa
open Go.RowKit Go.Shelf

/-- All but the search's two blocks is as it was. -/
def SKeep (sb rb : Nat) (w w' : World) : Prop := Below 0 w w' ∧ ∀ k, k < w.heap.size → k ≠ sb → k ≠ rb → w'.heap[k]? = w.heap[k]?
theorem SKeep.refl (sb rb : Nat) (w : World) : SKeep sb rb w w := ⟨Below.refl _ _, fun _ _ _ _ => rfl⟩
theorem SKeep.trans {sb rb : Nat} {a b c : World} (h : SKeep sb rb a b) (k : SKeep sb rb b c) : SKeep sb rb a c :=
  ⟨h.1.trans k.1, fun j hj h1 h2 => (k.2 j (Nat.lt_of_lt_of_le hj h.1.size) h1 h2).trans (h.2 j hj h1 h2)⟩
theorem SKeep.of_below {sb rb : Nat} {a b : World} (h : Below a.heap.size a b) : SKeep sb rb a b := ⟨h.mono (Nat.zero_le _), fun j hj _ _ => h.block j hj⟩
theorem SKeep.set_ {sb rb : Nat} {a : World} {p : Addr} {v : Value} (h : p.block = sb ∨ p.block = rb) : SKeep sb rb a (a.setCell p v) :=
  ⟨(Below.refl 0 a).setCell (Nat.zero_le _) v, fun j _ h1 h2 => Below.heap_setCell _ _ _ _ (by rcases h with h | h <;> omega)⟩
theorem SKeep.below {sb rb B : Nat} {a b : World} (h : SKeep sb rb a b) (hs : B ≤ sb) (hr : B ≤ rb) (hB : B ≤ a.heap.size) : Below B a b :=
  ⟨h.1.os, h.1.tape, h.1.output, h.1.size, fun k hk => h.2 k (by omega) (by omega) (by omega)⟩
theorem Blk.skeep {sb rb g : Nat} {t : TypeId} {cs : Array Value} {a b : World} (h : Blk a g t cs) (k : SKeep sb rb a b) (h1 : g ≠ sb) (h2 : g ≠ rb) : Blk b g t cs := (k.2 g h.lt h1 h2).trans h

/-- The best schedule so far, as a slice. -/
def BestIs (sb rb : Nat) (W : World) : Option (List Int) → Value → Prop
  | none, v => v = .slice none 0 0
  | some b, v => ∃ A c, v = .slice A b.length c ∧ (b = [] ∨ ∃ g off, A = some ⟨g, off, none⟩ ∧ g ≠ sb ∧ g ≠ rb ∧ g < W.heap.size ∧ ∀ j, j < b.length → W.cell? ⟨g, off + j, none⟩ = some (.int .i64 (b.getD j 0)))
theorem BestIs.skeep {sb rb : Nat} {W W' : World} {o : Option (List Int)} {v : Value} (h : BestIs sb rb W o v) (k : SKeep sb rb W W') : BestIs sb rb W' o v := by
  cases o with
  | none => exact h
  | some b =>
    obtain ⟨A, c, hv, h⟩ := h
    refine ⟨A, c, hv, ?_⟩
    rcases h with h | ⟨g, off, hA, h1, h2, h3, h4⟩
    · exact .inl h
    · exact .inr ⟨g, off, hA, h1, h2, Nat.lt_of_lt_of_le h3 k.1.size, fun j hj => by
        have := h4 j hj
        unfold World.cell? at *
        dsimp only at *
        rw [k.2 g h3 h1 h2]
        exact this⟩

def srchCells (m : Int) (A : Option Addr) (n c tb rb : Nat) (st : Srch) (bv : Value) : Array Value :=
  #[.int .i64 m, .slice A n c, .slice (some ⟨tb, 0, none⟩) n n, .slice (some ⟨rb, 0, none⟩) n n, .int .i64 (st.free.getD 0 0), .int .i64 (st.free.getD 1 0), .int .i64 (st.free.getD 2 0), .int .i64 (st.free.getD 3 0), bv, .int .i64 st.last]

/-- What the search holds, in memory. -/
def SrchIn (ts : List Task) (sb rb tb c : Nat) (m : Int) (A : Option Addr) (tails : List Int) (st : Srch) (bv : Value) (W : World) : Prop :=
  Blk W sb 114 (srchCells m A ts.length c tb rb st bv) ∧ Blk W rb 3 (iarr st.starts) ∧ Blk W tb 3 (iarr tails) ∧ BestIs sb rb W st.best bv

theorem SrchIn.past {ts : List Task} {sb rb tb c : Nat} {m : Int} {A : Option Addr} {tails : List Int} {st : Srch} {bv : Value} {W W' : World} (h : SrchIn ts sb rb tb c m A tails st bv W) (hb : Below W.heap.size W W') : SrchIn ts sb rb tb c m A tails st bv W' :=
  ⟨h.1.past hb, h.2.1.past hb, h.2.2.1.past hb, h.2.2.2.skeep (SKeep.of_below hb)⟩

end Go.Proofs.Ytlgioldmjohhlaa
