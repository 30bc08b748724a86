/- Plain facts on the errors of sources; where sources lie in memory. No program is in sight. -/
import Derived.Test.YtpdkbhjcpddnpaaDoorL3CurP
import Derived.Test.YtpdkbhjcpddnpaaDoorL9Gcd
namespace Go.Proofs.YtpdkbhjcpddnpaaDoor
open Go.RowKit

theorem src_cast (n : Nat) : (0 : Int) ≤ (n : Int) := by omega
theorem src_lt {a b : Nat} (h : a < b) : (a : Int) < (b : Int) := by omega
theorem src_meas {j n : Nat} (h : j < n) : n - ((j : Int) + 1).toNat < n - (j : Int).toNat := by omega
theorem src_succ (n : Nat) : Value.int .i64 ((n : Int) + 1) = Value.int .i64 ((n + 1 : Nat) : Int) := by push_cast; rfl
def srcE (s : Src) : Int := firstV [phE s.p s.q, unlessV (lowestB s.n s.d) 3, unlessV (withinB s.n 1 100 && decide (s.d ≤ 100)) 2]
def srcsE : List Src → Int
  | [] => 0
  | s :: l => if srcE s = 0 then srcsE l else srcE s
def countE (n : Nat) : Int := firstV [unlessV (decide (0 < n)) 10, unlessV (decide (n ≤ 4)) 8]
/-- The error of sources; with a load. -/
def sourcesE (ls : List Src) : Int := if countE ls.length = 0 then srcsE ls else countE ls.length
def loadE (ls : List Src) (p q : Int) : Int := if sourcesE ls = 0 then phE p q else sourcesE ls
def Src64 (s : Src) : Prop := W64 s.p ∧ W64 s.q ∧ W64 s.n ∧ W64 s.d
/-- The cells of sources. -/
def srcU (s : Src) : List Value := [.int .i64 s.p, .int .i64 s.q, .int .i64 s.n, .int .i64 s.d]
def SrcsIn (B : Nat) (w : World) (A : Option Addr) (ls : List Src) : Prop :=
  ls = [] ∨ ∃ b off, A = some ⟨b, off, none⟩ ∧ b < B ∧ ∀ j, j < ls.length → w.cell? ⟨b, off + j * 4, none⟩ = some (.int .i64 (ls.getD j default).p) ∧ w.cell? ⟨b, off + j * 4 + 1, none⟩ = some (.int .i64 (ls.getD j default).q) ∧ w.cell? ⟨b, off + j * 4 + 2, none⟩ = some (.int .i64 (ls.getD j default).n) ∧ w.cell? ⟨b, off + j * 4 + 3, none⟩ = some (.int .i64 (ls.getD j default).d)
theorem SrcsIn.at_ {B : Nat} {w : World} {A : Option Addr} {ls : List Src} {k : Nat} (h : SrcsIn B w A ls) (hk : k < ls.length) : ∃ b off, A = some ⟨b, off, none⟩ ∧ b < B ∧ ∀ j, j < ls.length → w.cell? ⟨b, off + j * 4, none⟩ = some (.int .i64 (ls.getD j default).p) ∧ w.cell? ⟨b, off + j * 4 + 1, none⟩ = some (.int .i64 (ls.getD j default).q) ∧ w.cell? ⟨b, off + j * 4 + 2, none⟩ = some (.int .i64 (ls.getD j default).n) ∧ w.cell? ⟨b, off + j * 4 + 3, none⟩ = some (.int .i64 (ls.getD j default).d) := by
  rcases h with h | h
  · subst h; simp at hk
  · exact h
theorem SrcsIn.keep {B : Nat} {w w' : World} {A : Option Addr} {ls : List Src} (h : SrcsIn B w A ls) (hk : ∀ b o, b < B → w'.cell? ⟨b, o, none⟩ = w.cell? ⟨b, o, none⟩) : SrcsIn B w' A ls := by
  rcases h with h | ⟨b, off, hA, hb, hc⟩
  · exact .inl h
  · exact .inr ⟨b, off, hA, hb, fun j hj => by
      obtain ⟨h1, h2, h3, h4⟩ := hc j hj
      exact ⟨(hk _ _ hb).trans h1, (hk _ _ hb).trans h2, (hk _ _ hb).trans h3, (hk _ _ hb).trans h4⟩⟩
theorem SrcsIn.below {B : Nat} {w w' : World} {A : Option Addr} {ls : List Src} (h : SrcsIn B w A ls) (hb : Below B w w') : SrcsIn B w' A ls := h.keep (bcell hb).1
theorem SrcsIn.more {B B' : Nat} {w : World} {A : Option Addr} {ls : List Src} (h : SrcsIn B w A ls) (hB : B ≤ B') : SrcsIn B' w A ls := by
  rcases h with h | ⟨b, off, hA, hb, hc⟩
  · exact .inl h
  · exact .inr ⟨b, off, hA, by omega, hc⟩

theorem srcsE_at : ∀ {ls : List Src} {i : Nat}, i < ls.length → srcsE (ls.drop i) = if srcE (ls.getD i default) = 0 then srcsE (ls.drop (i + 1)) else srcE (ls.getD i default)
  | [], i, h => by simp at h
  | s :: l, 0, _ => by simp [srcsE]
  | s :: l, i + 1, h => by
    have := srcsE_at (ls := l) (i := i) (by simpa using h)
    simpa using this
theorem srcE_ok {s : Src} (h : srcE s = 0) : SrcOk s ∧ gcdI s.n s.d = 1 := by
  obtain ⟨h1, h2⟩ := firstV_zero.1 h
  obtain ⟨h3, h4⟩ := firstV_zero.1 h2
  obtain ⟨h5, _⟩ := firstV_zero.1 h4
  have g1 := phE_sm h1
  have g2 := (unless_ne (by decide)).1 h3
  have g3 := (unless_ne (by decide)).1 h5
  unfold lowestB at g2
  simp only [withinB, Bool.and_eq_true, decide_eq_true_eq] at g2 g3
  unfold Sm at g1
  exact ⟨⟨g1.1, g1.2, by omega, by omega⟩, g2.2⟩
theorem srcsE_ok : ∀ {ls : List Src}, srcsE ls = 0 → ∀ s ∈ ls, SrcOk s ∧ gcdI s.n s.d = 1
  | [], _, s, h => by cases h
  | t :: l, h, s, hs => by
    rw [srcsE] at h
    split at h
    · rename_i h1
      rcases List.mem_cons.1 hs with rfl | hs
      · exact srcE_ok h1
      · exact srcsE_ok h s hs
    · rename_i h1
      exact absurd h h1
theorem countE_ok {n : Nat} : countE n = 0 ↔ 0 < n ∧ n ≤ 4 := by
  unfold countE
  rw [firstV_zero, firstV_zero, unless_ne (by decide), unless_ne (by decide)]
  simp [firstV]
theorem sourcesE_ok {ls : List Src} (h : sourcesE ls = 0) : SrcsOk ls ∧ ∀ s ∈ ls, gcdI s.n s.d = 1 := by
  unfold sourcesE at h
  split at h
  · rename_i h1
    have h2 := srcsE_ok h
    exact ⟨⟨countE_ok.1 h1, fun s hs => (h2 s hs).1⟩, fun s hs => (h2 s hs).2⟩
  · rename_i h1
    exact absurd h h1

end Go.Proofs.YtpdkbhjcpddnpaaDoor
