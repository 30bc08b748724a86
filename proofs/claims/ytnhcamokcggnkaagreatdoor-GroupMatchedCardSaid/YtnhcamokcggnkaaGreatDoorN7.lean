/- A range over a function whose iterator ranges over functions itself: its word is asked only of what abides its own records (OwnFrom in place of AbidesFrom). Turned from ARangeB's law. No condition.
Contract of group.matches: an iterator over all pairs of renamings (a range over a function in a round of a range over a function).
Contract of the specification's Match. Printed by a program (gen_refmatch2.py).
Contract of group.MatchFor: the first pair of renamings that makes two units match. -/
import Derived.Test.YtnhcamokcggnkaaGreatDoorN3
import Derived.RangeFuncNested
import Derived.Test.YtnhcamokcggnkaaGreatDoorG1Match
import Derived.Test.YtnhcamokcggnkaaGreatDoorN6

section
namespace Go.Proofs.YtnhcamokcggnkaaGreatDoor
open Go.RowKit Go.Shelf
variable {P : Program}

/-- SeqP's word with stronger memory of the caller: what is kept between two rounds abides all that is no cells from the iterator's beginning on. -/
def SeqO {α : Type} (n : Nat) (P : Program) (g : Nat) (fb lb : Array Value) (encs : α → Array Value) (Pr : α → World → Prop) (Kp : World → World → World → Prop) (S Sp : List α → Prop) (N : Nat) (w : World) : Prop :=
  ∀ (l : Nat) (J Jx : List α → World → Prop) (W : World), Below w.heap.size w W → OwnFrom W.heap.size J → OwnFrom W.heap.size Jx →
    (∀ pre x W1, J pre W1 → Pr x W1 → pre.length < N → YieldAt Fence.wide (n - 1) P l (encs x) W1 fun e W' =>
      KeepsFrom W.heap.size W1 W' ∧ ((e = .returned (.bool true) ∧ J (pre ++ [x]) W' ∧ Kp W W1 W') ∨ (e = .returned (.bool false) ∧ Jx (pre ++ [x]) W'))) →
    J [] W →
    CallsIn Fence.wide n P g (fb ++ #[.func (.yield l) #[] #[]] ++ lb) W fun e W' => (∃ v, e = .returned v) ∧ ((∃ xs, S xs ∧ J xs W') ∨ (∃ pre, Sp pre ∧ Jx pre W'))

theorem rangeFunc_lawO {α : Type} {g : Operand} {ps : Array Tmp} {assign body : Code} {Q : Exit → Act → World → Prop} {a : Act} {w : World} {n : Nat}
    (h1 : 1 ≤ n) {gf : Nat} {fb lb : Array Value} (hg : a.eval g = .func (.func gf) fb lb) (eg : ∀ args w, (callFunc gf args).run P w = .ok (.enter gf args) w)
    {encs : α → Array Value} {Pr : α → World → Prop} {Kp : World → World → World → Prop} {S Sp : List α → Prop} {N : Nat} {w0 : World} (hseq : SeqO (n - 1) P gf fb lb encs Pr Kp S Sp N w0) (hb0 : Below w0.heap.size w0 w)
    (hKt : ∀ {W A B C : World}, Kp W A B → Kp W B C → Kp W A C) (hKr : ∀ (W A : World) (l : Nat) (o o' : Obj), w.heap.size ≤ l → l < W.heap.size → A.heap[l]? = some o → o.isCells = false → Kp W A (A.putObj l o'))
    (hPr : ∀ x (A : World) (l : Nat) (o o' : Obj), A.heap[l]? = some o → o.isCells = false → Pr x A → Pr x (A.putObj l o')) (hps : ∀ x, (encs x).size = ps.size)
    (I : List α → World → Prop) (Ix : Code → List α → World → Prop) (hI : OwnFrom w.heap.size I) (hIx : ∀ c, OwnFrom w.heap.size (Ix c)) (h0 : I [] w) (a₁ : α → World → Act) (ao : α → Obj)
    (hKa : ∀ (W A : World) (o : Obj), Kp W A (A.alloc o)) (hPa : ∀ x (A : World) (o : Obj), Pr x A → Pr x (A.alloc o))
    (hassign : ∀ (l : Nat) (x : α) (W : World) (K : Act → World → Prop), K (a₁ x W) (W.alloc (ao x)) →
      assign.wpIn (Fence.wide.inRound l) (n - 1 - 1) P (Exit.then K (fun _ _ _ => False)) { tmps := (ps.zip (encs x)).foldl (fun t (p, v) => t.setIfInBounds p v) a.tmps, defers := [] } W)
    (hbody : ∀ (l : Nat) (pre : List α) (x : α) (Wb W0 W : World), Wb.heap.size = w.heap.size + 1 + 1 → w.heap.size + 1 + 1 ≤ W0.heap.size → W.heap.size = W0.heap.size + 1 → W.heap[W0.heap.size]? = some (ao x) → I pre W → Pr x W → pre.length < N → body.wpIn (Fence.wide.inRound l) (n - 1 - 1) P (ownPostG w.heap.size (Kp Wb) I Ix (pre ++ [x]) W) (a₁ x W0) W)
    (hdone : ∀ (D : Nat) (xs : List α) (W : World), w.heap.size ≤ D → S xs → I xs W → W.heap[D]? = some (.deferred (some [])) → Q .normal { a with defers := { target := .collected D, args := #[] } :: a.defers } W)
    (hstop : ∀ (D : Nat) (c : Code) (pre : List α) (W : World), w.heap.size ≤ D → Sp pre → Ix c pre W → W.heap[D]? = some (.deferred (some [])) → c.wpIn Fence.wide n P Q { a with defers := { target := .collected D, args := #[] } :: a.defers } W) :
    (Code.rangeFunc g ps assign body).wpIn Fence.wide n P Q a w := by
  refine wpIn_rangeFunc ?_
  intro fn hfn
  rw [show Fence.wide.round = none from rfl]
  obtain ⟨rec, hrec⟩ : ∃ rec : LoopState → Option Code → Loop, rec = fun st pe => { state := st, pending := pe, fn, tmps := a.tmps, params := ps, assign, body, defers := w.heap.size } := ⟨_, rfl⟩
  obtain ⟨W1, hW1⟩ : ∃ W1, (w.alloc (.deferred (some []))).alloc (.loop (rec .ready none)) = W1 := ⟨_, rfl⟩
  have hS1 : W1.heap.size = w.heap.size + 1 + 1 := by rw [← hW1]; simp
  have hL1 : W1.heap[w.heap.size + 1]? = some (.loop (rec .ready none)) := by
    rw [← hW1]; have := World.alloc_heap_new (w.alloc (.deferred (some []))) (.loop (rec .ready none)); rwa [World.size_alloc] at this
  have hK1 : W1.heap[w.heap.size]? = some (.deferred (some [])) := by
    rw [← hW1]; exact (Below.heap_alloc _ _ _ (by simp)).trans (World.alloc_heap_new w _)
  have hI1 : I [] W1 := by rw [← hW1]; exact hI.alloc _ (hI.alloc _ h0)
  have hb1 : Below w0.heap.size w0 W1 := by
    rw [← hW1]; exact hb0.trans ((((Below.refl _ w).alloc (Nat.le_refl _) _).alloc (by simp) _).mono hb0.size)
  refine ⟨w.heap.size + 1, [{ target := .collected w.heap.size, args := #[] }], W1, { target := .fn (.func gf) lb, args := fb ++ #[.func (.yield (w.heap.size + 1)) #[] #[]] }, W1, gf,
    fb ++ #[.func (.yield (w.heap.size + 1)) #[] #[]] ++ lb, W1, ?_, ?_, ?_, ?_, fun _ => h1, ?_⟩
  · rw [← hW1, hrec]; exact run_enterLoop_outer _ _ _ _ _
  · simp only [resolve, hg]
    simp [go_sem]
  · intro f' hf'; trivial
  · simp [invoke, go_sem, eg]
  · have hnw : ∀ {A : World} {row : Option Nat}, (∀ r, row = some r → W1.heap.size ≤ r ∧ ∃ o : Obj, A.heap[r]? = some o ∧ o.isCells = false) → (∀ r, row = some r → w.heap.size ≤ r ∧ ∃ o : Obj, A.heap[r]? = some o ∧ o.isCells = false) :=
      fun hr r e => by obtain ⟨hB, o, ho, hw⟩ := hr r e; exact ⟨by omega, o, ho, hw⟩
    refine (hseq (w.heap.size + 1)
      (fun pre W => I pre W ∧ W.heap[w.heap.size + 1]? = some (.loop (rec .ready none)) ∧ W.heap[w.heap.size]? = some (.deferred (some [])))
      (fun pre W => ∃ c, Ix c pre W ∧ W.heap[w.heap.size + 1]? = some (.loop (rec .done (some c))) ∧ W.heap[w.heap.size]? = some (.deferred (some [])))
      W1 hb1
      (fun s A B row hs hg' hr => ⟨hI s A B row hs.1 hg' (hnw hr), (hg'.block _ (Array.getElem?_eq_some_iff.1 hs.2.1).1 (fun e => by have := (hr _ e.symm).1; omega)).trans hs.2.1, (hg'.block _ (Array.getElem?_eq_some_iff.1 hs.2.2).1 (fun e => by have := (hr _ e.symm).1; omega)).trans hs.2.2⟩)
      (fun s A B row hs hg' hr => by
        obtain ⟨c, hc, hl, hk⟩ := hs
        exact ⟨c, hIx c s A B row hc hg' (hnw hr), (hg'.block _ (Array.getElem?_eq_some_iff.1 hl).1 (fun e => by have := (hr _ e.symm).1; omega)).trans hl, (hg'.block _ (Array.getElem?_eq_some_iff.1 hk).1 (fun e => by have := (hr _ e.symm).1; omega)).trans hk⟩)
      ?_ ⟨hI1, hL1, hK1⟩).mono ?_
    · rintro pre x W ⟨hi, hl, hk⟩ hpr hlen
      have hlt : w.heap.size + 1 < W.heap.size := (Array.getElem?_eq_some_iff.1 hl).1
      have hy := run_yield (P := P) (args := encs x) hl (by rw [hrec]; exact hps x)
      rw [hrec] at hy
      refine ⟨fn, _, assign, body, hy, roundIn_of_wpIn hfn (hassign _ x W _ ?_)⟩
      clear hy
      have hka : Kp W1 W (W.alloc (ao x)) := hKa _ _ _
      have hs0 : w.heap.size + 1 + 1 ≤ W.heap.size := hlt
      have hn0 : (W.alloc (ao x)).heap[W.heap.size]? = some (ao x) := World.alloc_heap_new _ _
      have hz0 : (W.alloc (ao x)).heap.size = W.heap.size + 1 := World.size_alloc _ _
      replace hi : I pre (W.alloc (ao x)) := hI.alloc _ hi
      replace hpr : Pr x (W.alloc (ao x)) := hPa _ _ _ hpr
      replace hk : (W.alloc (ao x)).heap[w.heap.size]? = some (.deferred (some [])) := (Below.heap_alloc _ _ _ (by omega)).trans hk
      replace hl : (W.alloc (ao x)).heap[w.heap.size + 1]? = some (.loop (rec .ready none)) := (Below.heap_alloc _ _ _ hlt).trans hl
      replace hlt : w.heap.size + 1 < (W.alloc (ao x)).heap.size := by omega
      refine ⟨_, run_beginRound hl (by rw [hrec]), ?_⟩
      generalize hU : W.alloc (ao x) = U at *
      have hl2 : (U.putObj (w.heap.size + 1) (.loop { rec .ready none with state := .busy })).heap[w.heap.size + 1]? = some (.loop { rec .ready none with state := .busy }) := World.putObj_heap_same hlt
      have hk2 : (U.putObj (w.heap.size + 1) (.loop { rec .ready none with state := .busy })).heap[w.heap.size]? = some (.deferred (some [])) := (World.putObj_heap_other (by omega)).trans hk
      have hw2 : Kp W1 U (U.putObj (w.heap.size + 1) (.loop { rec .ready none with state := .busy })) := hKr _ _ _ _ _ (by omega) (by omega) hl rfl
      refine wpIn_mono (hbody _ pre x W1 W _ hS1 hs0 (by simpa using hz0) ((World.putObj_heap_other (by omega)).trans hn0) (hI.putObj _ hi (by omega) hl rfl) (hPr _ _ _ _ _ hl rfl hpr) hlen) ?_
      have fin : ∀ (jump : Option Code) (W3 : World), KeepsFrom w.heap.size (U.putObj (w.heap.size + 1) (.loop { rec .ready none with state := .busy })) W3 →
          (Instr.endRound (w.heap.size + 1) jump).run P W3 = .ok (.bool jump.isNone) (W3.putObj (w.heap.size + 1) (.loop (rec (if jump.isNone then .ready else .done) jump))) ∧
          W3.heap[w.heap.size + 1]? = some (.loop { rec .ready none with state := .busy }) ∧
          (W3.putObj (w.heap.size + 1) (.loop (rec (if jump.isNone then .ready else .done) jump))).heap[w.heap.size + 1]? = some (.loop (rec (if jump.isNone then .ready else .done) jump)) ∧
          (W3.putObj (w.heap.size + 1) (.loop (rec (if jump.isNone then .ready else .done) jump))).heap[w.heap.size]? = some (.deferred (some [])) := fun jump W3 hk3 => by
        have hl3 := hk3.same _ _ (by omega) hl2 rfl
        have := run_endRound (P := P) jump hl3
        rw [hrec] at this ⊢
        exact ⟨this, by rw [hrec] at hl3; exact hl3, World.putObj_heap_same (Array.getElem?_eq_some_iff.1 hl3).1, (World.putObj_heap_other (by omega)).trans (hk3.same _ _ (Nat.le_refl _) hk2 rfl)⟩
      have kf : ∀ (o1 o2 : Obj) (W3 : World), KeepsFrom w.heap.size (U.putObj (w.heap.size + 1) o1) W3 → KeepsFrom W1.heap.size W (W3.putObj (w.heap.size + 1) o2) := fun o1 o2 W3 h => by
        have hz := h.size
        simp only [World.putObj_size] at hz ⊢
        refine ⟨by simp only [World.putObj_size]; omega, fun k o hk ho hc => ?_⟩
        have hkl : k < W.heap.size := (Array.getElem?_eq_some_iff.1 ho).1
        have q1 : U.heap[k]? = some o := by rw [← hU]; exact (Below.heap_alloc _ _ _ hkl).trans ho
        exact (World.putObj_heap_other (by omega)).trans (h.same k o (by omega) ((World.putObj_heap_other (by omega)).trans q1) hc)
      rintro e a3 W3 hp
      cases e with
      | normal =>
        obtain ⟨hk3, hkp3, hi3⟩ := hp
        obtain ⟨hr, hl3, hl4, hk4⟩ := fin none W3 hk3
        exact ⟨_, _, hr, kf _ _ _ hk3, .inl ⟨rfl, ⟨hI.putObj _ hi3 (by omega) hl3 rfl, hl4, hk4⟩, hKt hka (hKt (hKt hw2 hkp3) (hKr _ _ _ _ _ (by omega) (by omega) hl3 rfl))⟩⟩
      | ret =>
        obtain ⟨hk3, hi3⟩ := hp
        obtain ⟨hr, hl3, hl4, hk4⟩ := fin (some .ret) W3 hk3
        exact ⟨_, _, hr, kf _ _ _ hk3, .inr ⟨rfl, .ret, (hIx _).putObj _ hi3 (by omega) hl3 rfl, hl4, hk4⟩⟩
      | exit id =>
        obtain ⟨hk3, hi3⟩ := hp
        obtain ⟨hr, hl3, hl4, hk4⟩ := fin (some (.exit id)) W3 hk3
        exact ⟨_, _, hr, kf _ _ _ hk3, .inr ⟨rfl, .exit id, (hIx _).putObj _ hi3 (by omega) hl3 rfl, hl4, hk4⟩⟩
      | goto t =>
        obtain ⟨hk3, hi3⟩ := hp
        obtain ⟨hr, hl3, hl4, hk4⟩ := fin (some (.goto t)) W3 hk3
        exact ⟨_, _, hr, kf _ _ _ hk3, .inr ⟨rfl, .goto t, (hIx _).putObj _ hi3 (by omega) hl3 rfl, hl4, hk4⟩⟩
      | panic ch => exact hp.elim
      | outgrown => exact hp.elim
    · rintro e W2 ⟨⟨v, rfl⟩, (⟨xs, hS, hi, hl, hk⟩ | ⟨pre, hSp, c, hi, hl, hk⟩)⟩
      · exact ⟨none, _, by have := run_endLoop (P := P) hl (by rw [hrec]; simp); rw [hrec] at this; exact this, hdone _ xs _ (Nat.le_refl _) hS (hI.putObj _ hi (by omega) hl rfl) ((World.putObj_heap_other (by omega)).trans hk)⟩
      · exact ⟨some c, _, by have := run_endLoop (P := P) hl (by rw [hrec]; simp); rw [hrec] at this; exact this, hstop _ c pre _ (Nat.le_refl _) hSp ((hIx c).putObj _ hi (by omega) hl rfl) ((World.putObj_heap_other (by omega)).trans hk)⟩

end Go.Proofs.YtnhcamokcggnkaaGreatDoor
end

section
namespace Go.Proofs.YtnhcamokcggnkaaGreatDoor
open Go.RowKit Go.Shelf
attribute [local go_sem] Oper.semAt_some

abbrev PermS := { p : V3 // isPerm p = true }
theorem perm_stops (n : Nat) (w0 : World) : SeqStopsK Fence.wide n Tryz.prog 127 #[] (fun p : PermS => permEnc p.1) (fun _ _ => True) (fun xs => xs.map (·.1) = permL) (fun pre => pre ≠ [] ∧ pre.map (·.1) <+: permL) 6 w0 := by
  intro l J Jx W hW hJ hJx hY h0
  refine (perm_seqP n w0 l (fun p V => ∃ p' : List PermS, p'.map (·.1) = p ∧ J p' V) (fun p V => ∃ p' : List PermS, p'.map (·.1) = p ∧ Jx p' V) W hW
    (fun s A B row ⟨p', e, h⟩ hg hr => ⟨p', e, hJ _ A B row h hg hr⟩) (fun s A B row ⟨p', e, h⟩ hg hr => ⟨p', e, hJx _ A B row h hg hr⟩) ?_ ⟨[], rfl, h0⟩).mono ?_
  · rintro pre x W1 ⟨p', rfl, hj⟩ hx hl
    obtain ⟨fn, tmps, assign, body, hy, hR⟩ := hY p' ⟨x, hx⟩ W1 hj (by simpa using hl)
    refine ⟨fn, tmps, assign, body, hy, hR.mono ?_⟩
    rintro e V (⟨rfl, h, _⟩ | ⟨rfl, h⟩)
    · exact .inl ⟨rfl, ⟨_, by simp, h⟩, trivial⟩
    · exact .inr ⟨rfl, _, by simp, h⟩
  · rintro e V ⟨hv, (⟨xs, rfl, p', e', h⟩ | ⟨pre, hp, p', rfl, h⟩)⟩
    · exact ⟨hv, .inl ⟨p', e', h⟩⟩
    · exact ⟨hv, .inr ⟨p', ⟨fun h => hp.1 (by rw [h]; rfl), hp.2⟩, h⟩⟩

/-- The first match of two units; none if the ratios are not near. -/
def matchR (near : Bool) (a b : Int) : Option (V3 × V3) := if near then matchV a b else none
def matchEnc (m : V3 × V3) : Array Value := #[.agg #[.int .i64 m.1.a, .int .i64 m.1.b, .int .i64 m.1.c, .int .i64 m.2.a, .int .i64 m.2.b, .int .i64 m.2.c]]
def pairsOf (l : List PermS) : List (V3 × V3) := l.flatMap fun p => permL.map fun q => (p.1, q)
theorem pairsOf_snoc (l : List PermS) (x : PermS) : pairsOf (l ++ [x]) = pairsOf l ++ permL.map (fun q => (x.1, q)) := by simp [pairsOf]
theorem pairsOf_len (l : List PermS) : (pairsOf l).length = 6 * l.length := by
  induction l with
  | nil => rfl
  | cons a l ih => simp [pairsOf, permL] at ih ⊢; omega
theorem pairsOf_map (l : List PermS) : pairsOf l = (l.map (·.1)).flatMap fun p => permL.map fun q => (p, q) := by simp [pairsOf, List.flatMap_map]
theorem inner_map (x : PermS) (l : List PermS) : l.map (fun q : PermS => (x.1, q.1)) = (l.map (·.1)).map fun q => (x.1, q) := by simp
theorem prefix_map {α β : Type} (f : α → β) {l m : List α} (h : l <+: m) : l.map f <+: m.map f := by
  obtain ⟨t, rfl⟩ := h
  exact ⟨t.map f, by simp⟩
theorem pairs_prefix {pre : List PermS} {x : PermS} {l : List PermS} (h : (pre ++ [x]).map (·.1) <+: permL) (hl : l.map (·.1) <+: permL) : pairsOf pre ++ l.map (fun q => (x.1, q.1)) <+: pairL := by
  obtain ⟨t, ht⟩ := h
  have e : pairL = pairsOf (pre ++ [x]) ++ t.flatMap fun p => permL.map fun q => (p, q) := by
    have : pairL = permL.flatMap fun p => permL.map fun q => (p, q) := rfl
    rw [this, pairsOf_map]
    conv => lhs; rw [show (permL.flatMap fun p => permL.map fun q => (p, q)) = permL.flatMap (fun p => permL.map fun q => (p, q)) from rfl]
    conv => lhs; arg 2; rw [← ht]
    simp
  rw [e, pairsOf_snoc, List.append_assoc, inner_map]
  obtain ⟨u, hu⟩ := prefix_map (fun q => (x.1, q)) hl
  exact ⟨u ++ t.flatMap fun p => permL.map fun q => (p, q), by rw [← hu]; simp [List.append_assoc]⟩

theorem roundIn_in {l1 l2 m m' : Nat} {P : Program} {l : Nat} {f : FuncId} {tmps : Array Value} {assign body : Code} {w : World} {R : Ending → World → Prop}
    (h : RoundIn Fence.wide m P l f tmps assign body w R) : RoundIn ((Fence.wide.inRound l1).inRound l2) m' P l f tmps assign body w R := ⟨h.1, fun c cs _ => h.2 c cs (room_wide _)⟩
/-- What was laid since the first world lies as it lay. -/
def NewKept (W A B : World) : Prop := A.heap.size ≤ B.heap.size ∧ ∀ k, W.heap.size ≤ k → k < A.heap.size → B.heap[k]? = A.heap[k]?
theorem NewKept.trans {W A B C : World} (h : NewKept W A B) (k : NewKept W B C) : NewKept W A C := ⟨Nat.le_trans h.1 k.1, fun i hi hl => (k.2 i hi (by have := h.1; omega)).trans (h.2 i hi hl)⟩
theorem NewKept.put {W : World} (A : World) (l : Nat) (o' : Obj) (h : l < W.heap.size) : NewKept W A (A.putObj l o') := ⟨by simp, fun k hk _ => World.putObj_heap_other (by omega)⟩
theorem NewKept.alloc (W A : World) (o : Obj) : NewKept W A (A.alloc o) := ⟨by simp, fun _ _ hl => Below.heap_alloc _ _ _ hl⟩
theorem NewKept.below {W A B : World} (h : Below A.heap.size A B) : NewKept W A B := ⟨h.size, fun k _ hl => h.block k hl⟩
theorem NewKept.refl (W A : World) : NewKept W A A := ⟨Nat.le_refl _, fun _ _ _ => rfl⟩
theorem NewKept.blk {W A B : World} (h : NewKept W A B) {g : Nat} {t : TypeId} {cs : Array Value} (hb : Blk A g t cs) (hg : W.heap.size ≤ g) : Blk B g t cs := (h.2 g hg hb.lt).trans hb
theorem keepsFrom_le {B B' : Nat} {W W' : World} (h : KeepsFrom B W W') (hB : B ≤ B') : KeepsFrom B' W W' := ⟨h.size, fun k o hk ho hc => h.same k o (by omega) ho hc⟩
theorem keepsFrom_alloc (B : Nat) (W : World) (o : Obj) : KeepsFrom B W (W.alloc o) := ⟨by simp, fun k o' _ ho _ => (Below.heap_alloc _ _ _ (Array.getElem?_eq_some_iff.1 ho).1).trans ho⟩

set_option maxRecDepth 100000 in
set_option maxHeartbeats 4000000 in
theorem matches_seq (n : Nat) (h3 : 3 ≤ n) (w0 : World) :
    SeqO n Tryz.prog 78 #[] #[] matchEnc (fun m _ => isPerm m.1 = true ∧ isPerm m.2 = true) NewKept
      (fun xs => xs = pairL) (fun pre => pre ≠ [] ∧ pre <+: pairL) 36 w0 := by
  intro l J Jx W hW hJ hJx hY h0
  have HY := Lib.hid hY
  clear hY hW
  refine callsIn_of_wp_marks Tryz.func78 rfl trivial ?_ rfl
  simp only [Tryz.ntmps78, List.size_toArray, List.length_cons, List.length_nil, Nat.reduceAdd, Nat.reduceSub, Array.replicate_succ, Array.replicate_zero, List.push_toArray, List.append_toArray, List.nil_append, List.cons_append]
  gi_wp2
  have j0 := hJ.alloc (.cells #[Value.func (Fn.yield l) #[] #[]] 187) h0
  have y0 : Blk (W.alloc (.cells #[Value.func (Fn.yield l) #[] #[]] 187)) W.heap.size 187 #[Value.func (Fn.yield l) #[] #[]] := Blk.newAt rfl
  have z0 : (W.alloc (.cells #[Value.func (Fn.yield l) #[] #[]] 187)).heap.size = W.heap.size + 1 := by simp
  generalize W.alloc (.cells #[Value.func (Fn.yield l) #[] #[]] 187) = W1 at *
  have oJ : ∀ {β : Type} (B : Nat) (f : β → List (V3 × V3)), W.heap.size ≤ B → OwnFrom B (fun b V => J (f b) V) := fun B f hB s A B' row hs hg hr => hJ _ A B' row hs hg (fun r e => ⟨by have := (hr r e).1; omega, (hr r e).2⟩)
  have oX : ∀ {β : Type} (B : Nat) (f : β → List (V3 × V3)), W.heap.size ≤ B → OwnFrom B (fun b V => Jx (f b) V) := fun B f hB s A B' row hs hg hr => hJx _ A B' row hs hg (fun r e => ⟨by have := (hr r e).1; omega, (hr r e).2⟩)
  have oB : ∀ {β : Type} (B g : Nat) (t : TypeId) (cs : Array Value), OwnFrom B (fun (_ : β) V => Blk V g t cs) := fun B g t cs => own_blk B g t cs
  refine wpIn_rangeFunc_ownH (F := Fence.wide) (w0 := W1) (N := 6) rfl (by omega) (gf := 127) (lb := #[]) rfl trivial (enters_of Tryz.func127 (by kernel_rfl) rfl)
    (perm_stops (n - 1) W1) (fun _ _ => trivial) (fun _ _ _ _ _ _ _ _ => trivial) (Below.refl _ _) (fun _ => rfl)
    (fun pre V => (J (pairsOf pre) V ∧ W1.heap.size ≤ V.heap.size) ∧ Blk V W.heap.size 187 #[Value.func (Fn.yield l) #[] #[]])
    (fun c pre V => c = .ret ∧ ∃ (pre' : List PermS) (x : PermS) (pre2 : List PermS), pre = pre' ++ [x] ∧ pre2 ≠ [] ∧ pre2.map (·.1) <+: permL ∧ Jx (pairsOf pre' ++ pre2.map (fun q : PermS => (x.1, q.1))) V)
    (fun s A B row hs hg hr => ⟨⟨oJ _ pairsOf (by omega) s A B row hs.1.1 hg hr, by have := hg.size; have := hs.1.2; omega⟩, oB _ _ _ _ s A B row hs.2 hg hr⟩)
    (fun c s A B row hs hg hr => by
      obtain ⟨e, pre', x, pre2, e1, e2, e3, hx⟩ := hs
      exact ⟨e, pre', x, pre2, e1, e2, e3, oX (β := Unit) _ (fun _ => _) (by omega) () A B row hx hg hr⟩)
    ⟨⟨j0, Nat.le_refl _⟩, y0⟩
    (fun x a' V => ∃ b, a' = { tmps := #[Value.func (Fn.yield l) #[] #[], .pointer (some ⟨W.heap.size, 0, none⟩), .pointer (some ⟨b, 0, none⟩), undef, .agg #[.int .i64 x.1.a, .int .i64 x.1.b, .int .i64 x.1.c], undef, undef, undef, undef, undef, undef, undef], defers := [] } ∧ Blk V b 68 #[.int .i64 x.1.a, .int .i64 x.1.b, .int .i64 x.1.c] ∧ W.heap.size ≤ b)
    (fun x a' s A B row hs hg hr => by obtain ⟨b, e, hb, hc⟩ := hs; exact ⟨b, e, oB (β := Unit) _ _ _ _ () A B row hb hg hr, hc⟩)
    ?assign ?body ?done ?stop
  case assign =>
    intro l1 pre x V K hi hK
    unfold permEnc
    gi_wp2
    exact hK _ _ (keepsFrom_alloc _ _ _) trivial ⟨⟨(oJ W.heap.size pairsOf (Nat.le_refl _)).alloc _ hi.1.1, by have := hi.1.2; simp; omega⟩, hi.2.alloc⟩ ⟨_, rfl, Blk.newAt rfl, by have := hi.1.2; omega⟩
  case body =>
    rintro l1 pre x a' V hl1 ⟨r1, hr1⟩ ⟨⟨hj, hVs⟩, hy0⟩ ⟨b, rfl, hb, hbge⟩ hlen
    gi_wp2
    refine wpIn_rangeFunc_ownN (F := Fence.wide.inRound l1) (w0 := V) (N := 6) rfl hr1 (by omega) (gf := 127) (lb := #[]) rfl trivial (enters_of Tryz.func127 (by kernel_rfl) rfl)
      ((perm_stops (n - 1 - 1 - 1) V).inRound l1) (fun _ _ => trivial) (fun _ _ _ _ _ _ _ _ => trivial) (Below.refl _ _) (fun _ => rfl)
      (fun pre2 U => KeepsFrom W1.heap.size V U ∧ J (pairsOf pre ++ pre2.map (fun q : PermS => (x.1, q.1))) U ∧ Blk U W.heap.size 187 #[Value.func (Fn.yield l) #[] #[]] ∧ Blk U b 68 #[.int .i64 x.1.a, .int .i64 x.1.b, .int .i64 x.1.c])
      (fun c pre2 U => c = .ret ∧ KeepsFrom W1.heap.size V U ∧ Jx (pairsOf pre ++ pre2.map (fun q : PermS => (x.1, q.1))) U)
      ?own ?ownx ?start
      (fun y a' U => ∃ b2, a' = { tmps := #[Value.func (Fn.yield l) #[] #[], .pointer (some ⟨W.heap.size, 0, none⟩), .pointer (some ⟨b, 0, none⟩), .pointer (some ⟨b2, 0, none⟩), .agg #[.int .i64 x.1.a, .int .i64 x.1.b, .int .i64 x.1.c], .agg #[.int .i64 y.1.a, .int .i64 y.1.b, .int .i64 y.1.c], undef, undef, undef, undef, undef, undef], defers := [] } ∧ Blk U b2 68 #[.int .i64 y.1.a, .int .i64 y.1.b, .int .i64 y.1.c])
      (fun x a' s A B row hs hg hr => by obtain ⟨b, e, hb⟩ := hs; exact ⟨b, e, oB (β := Unit) _ _ _ _ () A B row hb hg hr⟩)
      ?assign2 ?body2 ?done2 ?stop2
    case own =>
      intro s A B row hs hg hr
      have hz : W1.heap.size ≤ V.heap.size := by have := (Array.getElem?_eq_some_iff.1 hr1).1; omega
      exact ⟨ownFrom_keepsFrom (β := Unit) (Nat.le_refl _) () A B row hs.1 hg hr, oJ _ (fun p : List PermS => pairsOf pre ++ p.map (fun q : PermS => (x.1, q.1))) (by omega) s A B row hs.2.1 hg hr, oB (β := Unit) _ _ _ _ () A B row hs.2.2.1 hg hr, oB (β := Unit) _ _ _ _ () A B row hs.2.2.2 hg hr⟩
    case ownx =>
      intro c s A B row hs hg hr
      have hz : W1.heap.size ≤ V.heap.size := by have := (Array.getElem?_eq_some_iff.1 hr1).1; omega
      exact ⟨hs.1, ownFrom_keepsFrom (β := Unit) (Nat.le_refl _) () A B row hs.2.1 hg hr, oX _ (fun p : List PermS => pairsOf pre ++ p.map (fun q : PermS => (x.1, q.1))) (by omega) s A B row hs.2.2 hg hr⟩
    case start => exact ⟨KeepsFrom.refl _ _, by simpa using hj, hy0, hb⟩
    case assign2 =>
      intro l2 pre2 y U K hi hK
      unfold permEnc
      gi_wp2
      exact hK _ _ (keepsFrom_alloc _ _ _) trivial ⟨hi.1.trans (keepsFrom_alloc _ _ _), (oJ W.heap.size (fun p : List PermS => pairsOf pre ++ p.map (fun q : PermS => (x.1, q.1))) (Nat.le_refl _)).alloc _ hi.2.1, hi.2.2.1.alloc, hi.2.2.2.alloc⟩ ⟨_, rfl, Blk.newAt rfl⟩
    case body2 =>
      rintro l2 pre2 y a' U hl2 ⟨r2, hr2⟩ ⟨hk, hj2, hy2, hb2⟩ ⟨b2, rfl, hc2⟩ hlen2
      obtain ⟨fn, tmps, assign, body, hy, hR⟩ := HY.out (pairsOf pre ++ pre2.map (fun q : PermS => (x.1, q.1))) (x.1, y.1) _ hj2 ⟨x.2, y.2⟩ (by simp [pairsOf_len]; omega)
      have a0 := hy2.cellAt 0 rfl
      have al := hy2.lt
      have b0 := hb2.cellAt 0 rfl
      have b1 := hb2.cellAt 1 rfl
      have b2' := hb2.cellAt 2 rfl
      have bl := hb2.lt
      have c0 := hc2.cellAt 0 rfl
      have c1 := hc2.cellAt 1 rfl
      have c2 := hc2.cellAt 2 rfl
      have cl := hc2.lt
      have HRD := Lib.hid hR
      simp only [matchEnc, List.nil_append, List.cons_append] at hy
      clear hR
      gi_wp2
      refine ⟨(fun h => nomatch h), (roundIn_in HRD.out).mono ?_⟩
      rintro e v2 ⟨hkf, (⟨rfl, k2, hnk⟩ | ⟨rfl, k2⟩)⟩
      · gi_wp2
        have hz : W1.heap.size ≤ V.heap.size := hVs
        exact ⟨keepsFrom_le hkf (by omega), trivial, hk.trans (keepsFrom_le hkf (by omega)), by simpa using k2, hnk.blk hy2 (Nat.le_refl _), hnk.blk hb2 hbge⟩
      · gi_wp2
        exact ⟨keepsFrom_le hkf (by omega), rfl, hk.trans (keepsFrom_le hkf (by omega)), by simpa using k2⟩
    case done2 =>
      rintro xs U hxs ⟨hk, hj2, hy2, hb2⟩
      gi_wp2
      exact ⟨hk, trivial, ⟨by rw [pairsOf_snoc, ← hxs, ← inner_map]; exact hj2, by have := hk.size; omega⟩, hy2⟩
    case stop2 =>
      rintro c pre2 U hSp ⟨rfl, hk, hj2⟩
      gi_wp2
      exact ⟨hk, rfl, _, _, pre2, rfl, hSp.1, hSp.2, hj2⟩
  case done =>
    rintro D xs V hD hxs ⟨⟨hj, _⟩, hy0⟩ hK
    gi_wp2
    refine ⟨by simp, .inl ⟨_, _, rfl, run_takeDeferred hK, ?_⟩⟩
    exact ⟨_, results_none rfl _ _ _, ⟨_, rfl⟩, .inl ⟨_, by rw [pairsOf_map, hxs]; rfl, hJ.putObj _ hj (by omega) hK rfl⟩⟩
  case stop =>
    rintro D c pre V hD hSp ⟨rfl, pre', x, pre2, rfl, h1, h2, hj⟩ hK
    gi_wp2
    refine ⟨by simp, .inl ⟨_, _, rfl, run_takeDeferred hK, ?_⟩⟩
    exact ⟨_, results_none rfl _ _ _, ⟨_, rfl⟩, .inr ⟨_, ⟨fun h => h1 (List.map_eq_nil_iff.1 (List.append_eq_nil_iff.1 h).2), pairs_prefix hSp.2 h2⟩, hJx.putObj _ hj (by omega) hK rfl⟩⟩

end Go.Proofs.YtnhcamokcggnkaaGreatDoor
end

section
namespace Go.Proofs.YtnhcamokcggnkaaGreatDoor
open Go.RowKit
attribute [local go_sem ↓] Go.wp_at_zero Go.wp_at_succ

theorem refPermutations_b (w : World) :
    Calls Tryz.prog 80 #[] w fun e w' => e = .returned (.slice (some ⟨w.heap.size, 0, none⟩) 6 6) ∧ Below w.heap.size w w' := (refPermutations_any w).mono fun _ _ h => ⟨h.1, h.2.2⟩

set_option maxHeartbeats 4000000 in
set_option maxRecDepth 100000 in
theorem refMatch_far (k t s : Int) (r : Bool) (k2 t2 s2 : Int) (r2 : Bool) (n : Int) (l u o : Int) (z : Bool) (l2 u2 o2 : Int) (z2 : Bool) (m p : Int)
    (hn : ∀ w, Calls Tryz.prog 32 #[.agg #[.int .i64 k, .int .i64 t, .int .i64 s, .bool r, .int .i64 k2, .int .i64 t2, .int .i64 s2, .bool r2, .int .i64 n], .agg #[.int .i64 l, .int .i64 u, .int .i64 o, .bool z, .int .i64 l2, .int .i64 u2, .int .i64 o2, .bool z2, .int .i64 m], .int .i64 p] w fun e w' => e = .returned (.bool false) ∧ Below w.heap.size w w') (w : World) :
    Calls Tryz.prog 31 #[.agg #[.int .i64 k, .int .i64 t, .int .i64 s, .bool r, .int .i64 k2, .int .i64 t2, .int .i64 s2, .bool r2, .int .i64 n], .agg #[.int .i64 l, .int .i64 u, .int .i64 o, .bool z, .int .i64 l2, .int .i64 u2, .int .i64 o2, .bool z2, .int .i64 m], .int .i64 p] w fun e w' =>
      e = .returned (.tuple #[.agg #[.int .i64 0, .int .i64 0, .int .i64 0, .int .i64 0, .int .i64 0, .int .i64 0], .bool false]) ∧ Below w.heap.size w w' := by
  have HN := Lib.hid hn
  clear hn
  go_enter Tryz.func31, Tryz.ntmps31
  go_wp2_with (first
    | (go_at_call 80; (with_reducible refine (refPermutations_b _).mono ?_); rintro e w1_ ⟨rfl, h1_⟩; have A_1 : Blk w1_ (w.heap.size) 25 #[.int .i64 k, .int .i64 t, .int .i64 s, .bool r, .int .i64 k2, .int .i64 t2, .int .i64 s2, .bool r2, .int .i64 n] := (Blk.newAt (by simp)).alloc.alloc.past h1_; have B_1 : Blk w1_ (w.heap.size + 1) 25 #[.int .i64 l, .int .i64 u, .int .i64 o, .bool z, .int .i64 l2, .int .i64 u2, .int .i64 o2, .bool z2, .int .i64 m] := (Blk.newAt (by simp)).alloc.past h1_; have R_1 : Blk w1_ (w.heap.size + 1 + 1) 70 #[.int .i64 0, .int .i64 0, .int .i64 0, .int .i64 0, .int .i64 0, .int .i64 0] := (Blk.newAt (by simp)).past h1_; have ne_R_A : w.heap.size + 1 + 1 ≠ w.heap.size := (by omega); have ne_R_B : w.heap.size + 1 + 1 ≠ w.heap.size + 1 := (by omega); have ge_R : w.heap.size ≤ w.heap.size + 1 + 1 := (by omega); have S_1 := pt (pa (pa (pa (pr)))) h1_; clear h1_))
  refine wp_loop_rounds 7 ?_
  rw [rounds_succ]
  have Ac0 := A_1.cellAt 0 rfl
  have Ac1 := A_1.cellAt 1 rfl
  have Ac2 := A_1.cellAt 2 rfl
  have Ac3 := A_1.cellAt 3 rfl
  have Ac4 := A_1.cellAt 4 rfl
  have Ac5 := A_1.cellAt 5 rfl
  have Ac6 := A_1.cellAt 6 rfl
  have Ac7 := A_1.cellAt 7 rfl
  have Ac8 := A_1.cellAt 8 rfl
  have Al := A_1.lt
  have Bc0 := B_1.cellAt 0 rfl
  have Bc1 := B_1.cellAt 1 rfl
  have Bc2 := B_1.cellAt 2 rfl
  have Bc3 := B_1.cellAt 3 rfl
  have Bc4 := B_1.cellAt 4 rfl
  have Bc5 := B_1.cellAt 5 rfl
  have Bc6 := B_1.cellAt 6 rfl
  have Bc7 := B_1.cellAt 7 rfl
  have Bc8 := B_1.cellAt 8 rfl
  have Bl := B_1.lt
  go_wp2_with (first
    | (go_at_call 32; (with_reducible refine (HN.out _).mono ?_); rintro e w2_ ⟨rfl, h2_⟩; have A_2 : Blk w2_ (w.heap.size) 25 #[.int .i64 k, .int .i64 t, .int .i64 s, .bool r, .int .i64 k2, .int .i64 t2, .int .i64 s2, .bool r2, .int .i64 n] := (A_1).past h2_; have B_2 : Blk w2_ (w.heap.size + 1) 25 #[.int .i64 l, .int .i64 u, .int .i64 o, .bool z, .int .i64 l2, .int .i64 u2, .int .i64 o2, .bool z2, .int .i64 m] := (B_1).past h2_; have R_2 : Blk w2_ (w.heap.size + 1 + 1) 70 #[.int .i64 0, .int .i64 0, .int .i64 0, .int .i64 0, .int .i64 0, .int .i64 0] := (R_1).past h2_; have S_2 := pt (S_1) h2_; clear A_1 B_1 R_1 S_1 Ac0 Ac1 Ac2 Ac3 Ac4 Ac5 Ac6 Ac7 Ac8 Al Bc0 Bc1 Bc2 Bc3 Bc4 Bc5 Bc6 Bc7 Bc8 Bl; clear h2_)
    | ((with_reducible refine store_sub (T := 70) (x := .tmp 6) (y := .tmp 47) (o := 0) (cs' := #[.int .i64 0, .int .i64 0, .int .i64 0, .int .i64 0, .int .i64 0, .int .i64 0]) (vs := #[.int .i64 0, .int .i64 0, .int .i64 0, .int .i64 0, .int .i64 0, .int .i64 0]) (show Blk _ (w.heap.size + 1 + 1) 70 #[.int .i64 0, .int .i64 0, .int .i64 0, .int .i64 0, .int .i64 0, .int .i64 0] from (R_2)) ?_ ?_ ?_ ?_ ?_ ?_ ?_); (focus rfl); (focus rfl); (focus rfl); (focus exact Nat.le_of_ble_eq_true rfl); (focus exact gmatch_size); (focus (simp [Value.oneCell']; done)); intro w3_ b3_ h3_; have A_3 : Blk w3_ (w.heap.size) 25 #[.int .i64 k, .int .i64 t, .int .i64 s, .bool r, .int .i64 k2, .int .i64 t2, .int .i64 s2, .bool r2, .int .i64 n] := (A_2).put h3_ (Ne.symm ne_R_A); have B_3 : Blk w3_ (w.heap.size + 1) 25 #[.int .i64 l, .int .i64 u, .int .i64 o, .bool z, .int .i64 l2, .int .i64 u2, .int .i64 o2, .bool z2, .int .i64 m] := (B_2).put h3_ (Ne.symm ne_R_B); have R_3 : Blk w3_ (w.heap.size + 1 + 1) 70 #[.int .i64 0, .int .i64 0, .int .i64 0, .int .i64 0, .int .i64 0, .int .i64 0] := b3_; have S_3 := pp (S_2) h3_ ge_R; clear A_2 B_2 R_2 S_2; clear h3_ b3_))
  have Rc0 := R_3.cellAt 0 rfl
  have Rc1 := R_3.cellAt 1 rfl
  have Rc2 := R_3.cellAt 2 rfl
  have Rc3 := R_3.cellAt 3 rfl
  have Rc4 := R_3.cellAt 4 rfl
  have Rc5 := R_3.cellAt 5 rfl
  have Rl := R_3.lt
  exact bodyPost_ret (v := .tuple #[.agg #[.int .i64 0, .int .i64 0, .int .i64 0, .int .i64 0, .int .i64 0, .int .i64 0], .bool false]) (by simp [results, Tryz.results31, go_sem, Rc0, Rc1, Rc2, Rc3, Rc4, Rc5]) rfl ⟨rfl, S_3⟩

set_option maxHeartbeats 8000000 in
set_option maxRecDepth 100000 in
theorem refMatch_any (k t s : Int) (r : Bool) (k2 t2 s2 : Int) (r2 : Bool) (n : Int) (l u o : Int) (z : Bool) (l2 u2 o2 : Int) (z2 : Bool) (m p : Int) (e1 : unitE k t s k2 t2 s2 n = 0) (e2 : unitE l u o l2 u2 o2 m = 0) (hp : withinB p 0 100 = true) (w : World) :
    Calls Tryz.prog 31 #[.agg #[.int .i64 k, .int .i64 t, .int .i64 s, .bool r, .int .i64 k2, .int .i64 t2, .int .i64 s2, .bool r2, .int .i64 n], .agg #[.int .i64 l, .int .i64 u, .int .i64 o, .bool z, .int .i64 l2, .int .i64 u2, .int .i64 o2, .bool z2, .int .i64 m], .int .i64 p] w fun e w' =>
      e = .returned (.tuple #[.agg (matchCells (matchR (closeV (ratN (sqW k t) (sqW k2 t2)) (ratD (sqW k t) (sqW k2 t2)) (ratN (sqW l u) (sqW l2 u2)) (ratD (sqW l u) (sqW l2 u2)) p) ((whV k s r - whV k2 s2 r2) % 12) ((whV l o z - whV l2 o2 z2) % 12))), .bool (matchR (closeV (ratN (sqW k t) (sqW k2 t2)) (ratD (sqW k t) (sqW k2 t2)) (ratN (sqW l u) (sqW l2 u2)) (ratD (sqW l u) (sqW l2 u2)) p) ((whV k s r - whV k2 s2 r2) % 12) ((whV l o z - whV l2 o2 z2) % 12)).isSome]) ∧ Below w.heap.size w w' := by
  obtain ⟨u1, u2', _, _⟩ := unitE_ok r r2 e1
  obtain ⟨u3, u4, _, _⟩ := unitE_ok z z2 e2
  have hp' : 0 ≤ p ∧ p ≤ 100 := by simpa [withinB] using hp
  have HA := refIsNear_any k t s r k2 t2 s2 r2 n l u o z l2 u2 o2 z2 m p u1 u2' u3 u4 hp'
  generalize closeV (ratN (sqW k t) (sqW k2 t2)) (ratD (sqW k t) (sqW k2 t2)) (ratN (sqW l u) (sqW l2 u2)) (ratD (sqW l u) (sqW l2 u2)) p = X at *
  cases X
  · exact refMatch_far k t s r k2 t2 s2 r2 n l u o z l2 u2 o2 z2 m p HA w
  · exact refMatch_core k t s r k2 t2 s2 r2 n l u o z l2 u2 o2 z2 m p _ (newV ((whV l o z - whV l2 o2 z2) % 12)) _ (by unfold matchR matchV; rw [if_pos rfl]) HA (fun w => refClock_any k t s r k2 t2 s2 r2 n u1 u2' w)
      (fun x y hx hy w => refNewClock_any l u o z l2 u2 o2 z2 m x.a x.b x.c y.a y.b y.c u3 u4 hx hy w) w

end Go.Proofs.YtnhcamokcggnkaaGreatDoor
end

section
namespace Go.Proofs.YtnhcamokcggnkaaGreatDoor
open Go.RowKit Go.Shelf
attribute [local go_sem ↓] Go.wp_at_zero Go.wp_at_succ
attribute [local go_sem] Oper.semAt_some undef

theorem kf_below {B : Nat} {W W' : World} (h : Below W.heap.size W W') : KeepsFrom B W W' := ⟨h.size, fun k o _ ho _ => (h.block k (Array.getElem?_eq_some_iff.1 ho).1).trans ho⟩
theorem kf_set {B : Nat} {W W' : World} (h : KeepsFrom B W W') {a : Addr} {v : Value} : KeepsFrom B W (W'.setCell a v) := h.trans ((KeepsOthers.setCell _ _ _).from _)
theorem find_ite' {α : Type} (q : α → Bool) (a : α) (l : List α) : (a :: l).find? q = if q a then some a else l.find? q := by
  rw [List.find?_cons]
  cases q a <;> rfl
def matchFVal : Option (V3 × V3) → Value
  | none => .tuple #[.agg #[.int .i64 0, .int .i64 0, .int .i64 0, .int .i64 0, .int .i64 0, .int .i64 0], .int .i64 12]
  | some (p, q) => .tuple #[.agg #[.int .i64 p.a, .int .i64 p.b, .int .i64 p.c, .int .i64 q.a, .int .i64 q.b, .int .i64 q.c], .int .i64 0]

set_option maxHeartbeats 4000000 in
set_option maxRecDepth 100000 in
theorem MatchFor_bad (k t s : Int) (r : Bool) (k2 t2 s2 : Int) (r2 : Bool) (n : Int) (l u o : Int) (z : Bool) (l2 u2 o2 : Int) (z2 : Bool) (m p : Int) (he : bothE (unitE k t s k2 t2 s2 n) (unitE l u o l2 u2 o2 m) p ≠ 0) (w : World) :
    Calls Tryz.prog 28 #[.agg #[.int .i64 k, .int .i64 t, .int .i64 s, .bool r, .int .i64 k2, .int .i64 t2, .int .i64 s2, .bool r2, .int .i64 n], .agg #[.int .i64 l, .int .i64 u, .int .i64 o, .bool z, .int .i64 l2, .int .i64 u2, .int .i64 o2, .bool z2, .int .i64 m], .int .i64 p] w fun e w' =>
      e = .returned (.tuple #[.agg #[.int .i64 0, .int .i64 0, .int .i64 0, .int .i64 0, .int .i64 0, .int .i64 0], .int .i64 (bothE (unitE k t s k2 t2 s2 n) (unitE l u o l2 u2 o2 m) p)]) ∧ Below w.heap.size w w' := by
  have HB := Lib.hid (bothErr_any k t s r k2 t2 s2 r2 n l u o z l2 u2 o2 z2 m p)
  have h0 : (bothE (unitE k t s k2 t2 s2 n) (unitE l u o l2 u2 o2 m) p == 0) = false := by simpa using he
  have h1 : (bothE (unitE k t s k2 t2 s2 n) (unitE l u o l2 u2 o2 m) p != 0) = true := by simpa using he
  generalize bothE (unitE k t s k2 t2 s2 n) (unitE l u o l2 u2 o2 m) p = E at *
  clear he
  refine (callsIn_wide (n := 4)).1 ?_
  refine callsIn_of_wp_marks Tryz.func28 rfl trivial ?_ rfl
  simp only [Tryz.ntmps28, List.size_toArray, List.length_cons, List.length_nil, Nat.reduceAdd, Nat.reduceSub, Array.replicate_succ, Array.replicate_zero, List.push_toArray, List.append_toArray, List.nil_append, List.cons_append]
  simp only [undef]
  gi_wp2_with (refine ⟨trivial, ?_⟩; gi_at_call 76; refine (callsIn_wide.2 (HB.out _)).mono ?_; rintro e w1 ⟨rfl, hb1⟩; have R_1 : Blk w1 (w.heap.size + 1 + 1 + 1) 70 #[.int .i64 0, .int .i64 0, .int .i64 0, .int .i64 0, .int .i64 0, .int .i64 0] := (Blk.newAt (by simp)).alloc.past hb1; have E_1 : Blk w1 (w.heap.size + 1 + 1 + 1 + 1) 27 #[.int .i64 0] := (Blk.newAt (by simp)).past hb1; have r0 := R_1.cellAt 0 rfl; have r1 := R_1.cellAt 1 rfl; have r2' := R_1.cellAt 2 rfl; have r3 := R_1.cellAt 3 rfl; have r4 := R_1.cellAt 4 rfl; have r5 := R_1.cellAt 5 rfl; have f0 := R_1.frozen 0; have f1 := R_1.frozen 1; have f2 := R_1.frozen 2; have f3 := R_1.frozen 3; have f4 := R_1.frozen 4; have f5 := R_1.frozen 5; have rl := R_1.lt; have q0 := E_1.cellAt 0 rfl; have q1 := E_1.frozen 0; have ql := E_1.lt; have S_1 := pt (pa (pa (pa (pa (pa pr))))) hb1)
  refine ⟨.tuple #[.agg #[.int .i64 0, .int .i64 0, .int .i64 0, .int .i64 0, .int .i64 0, .int .i64 0], .int .i64 E], by simp [results, Tryz.results28, go_sem, r0, r1, r2', r3, r4, r5, rl, q0, ql], rfl, by repeat (first | with_reducible exact S_1 | (with_reducible refine ps ?_ ?_; rotate_left; (dsimp only; omega)))⟩

set_option maxHeartbeats 8000000 in
set_option maxRecDepth 100000 in
theorem MatchFor_ok (k t s : Int) (r : Bool) (k2 t2 s2 : Int) (r2 : Bool) (n : Int) (l u o : Int) (z : Bool) (l2 u2 o2 : Int) (z2 : Bool) (m p : Int) (e1 : unitE k t s k2 t2 s2 n = 0) (e2 : unitE l u o l2 u2 o2 m = 0) (hp : withinB p 0 100 = true) (w : World) (hT : TwIn w) (hP : PatIn w) :
    Calls Tryz.prog 28 #[.agg #[.int .i64 k, .int .i64 t, .int .i64 s, .bool r, .int .i64 k2, .int .i64 t2, .int .i64 s2, .bool r2, .int .i64 n], .agg #[.int .i64 l, .int .i64 u, .int .i64 o, .bool z, .int .i64 l2, .int .i64 u2, .int .i64 o2, .bool z2, .int .i64 m], .int .i64 p] w fun e w' =>
      e = .returned (matchFVal (matchR (closeV (ratN (sqW k t) (sqW k2 t2)) (ratD (sqW k t) (sqW k2 t2)) (ratN (sqW l u) (sqW l2 u2)) (ratD (sqW l u) (sqW l2 u2)) p) ((whV k s r - whV k2 s2 r2) % 12) ((whV l o z - whV l2 o2 z2) % 12))) ∧ Below w.heap.size w w' := by
  have HB := bothErr_any k t s r k2 t2 s2 r2 n l u o z l2 u2 o2 z2 m p
  rw [bothE_zero.2 ⟨e1, e2, hp⟩] at HB
  replace HB := Lib.hid HB
  obtain ⟨u1, u2', _, _⟩ := unitE_ok r r2 e1
  obtain ⟨u3, u4, _, _⟩ := unitE_ok z z2 e2
  have hp' : 0 ≤ p ∧ p ≤ 100 := by simpa [withinB] using hp
  have HK := Lib.hid (clock_any k t s r k2 t2 s2 r2 n u1 u2')
  have HA := Lib.hid (areClose_any k t s r k2 t2 s2 r2 n l u o z l2 u2 o2 z2 m p u1 u2' u3 u4 hp')
  have HN := Lib.hid (fun (x y : V3) (hx : isPerm x = true) (hy : isPerm y = true) => renamedClock_new l u o z l2 u2 o2 z2 m x.a x.b x.c y.a y.b y.c u3 u4 hx hy)
  have hc0 : 0 ≤ ((whV k s r - whV k2 s2 r2) % 12) := by omega
  have HT := Lib.hid (fun w' (h : Below w.heap.size w w') => hT.below h)
  have HP := Lib.hid (fun w' (h : Below w.heap.size w w') => hP.below h)
  clear e1 e2 u1 u2' u3 u4 hp hp' hT hP
  generalize closeV (ratN (sqW k t) (sqW k2 t2)) (ratD (sqW k t) (sqW k2 t2)) (ratN (sqW l u) (sqW l2 u2)) (ratD (sqW l u) (sqW l2 u2)) p = X at *
  generalize ((whV k s r - whV k2 s2 r2) % 12) = c at *
  generalize ((whV l o z - whV l2 o2 z2) % 12) = d at *
  refine (callsIn_wide (n := 5)).1 ?_
  refine callsIn_of_wp_marks Tryz.func28 rfl trivial ?_ rfl
  simp only [Tryz.ntmps28, List.size_toArray, List.length_cons, List.length_nil, Nat.reduceAdd, Nat.reduceSub, Array.replicate_succ, Array.replicate_zero, List.push_toArray, List.append_toArray, List.nil_append, List.cons_append]
  simp only [undef]
  gi_wp2_with (refine ⟨trivial, ?_⟩; gi_at_call 76; refine (callsIn_wide.2 (HB.out _)).mono ?_; rintro e w1 ⟨rfl, hb1⟩)
  have A_1 : Blk w1 w.heap.size 25 #[.int .i64 k, .int .i64 t, .int .i64 s, .bool r, .int .i64 k2, .int .i64 t2, .int .i64 s2, .bool r2, .int .i64 n] := (Blk.newAt (by simp)).alloc.alloc.alloc.alloc.past hb1
  have B_1 : Blk w1 (w.heap.size + 1) 25 #[.int .i64 l, .int .i64 u, .int .i64 o, .bool z, .int .i64 l2, .int .i64 u2, .int .i64 o2, .bool z2, .int .i64 m] := (Blk.newAt (by simp)).alloc.alloc.alloc.past hb1
  have P_1 : Blk w1 (w.heap.size + 1 + 1) 3 #[.int .i64 p] := (Blk.newAt (by simp)).alloc.alloc.past hb1
  have R_1 : Blk w1 (w.heap.size + 1 + 1 + 1) 70 #[.int .i64 0, .int .i64 0, .int .i64 0, .int .i64 0, .int .i64 0, .int .i64 0] := (Blk.newAt (by simp)).alloc.past hb1
  have E_1 : Blk w1 (w.heap.size + 1 + 1 + 1 + 1) 27 #[.int .i64 0] := (Blk.newAt (by simp)).past hb1
  have S_1 := pt (pa (pa (pa (pa (pa pr))))) hb1
  clear hb1 HB
  have hsz : w.heap.size + 1 + 1 + 1 + 1 < w1.heap.size := E_1.lt
  have HB1 := Lib.hid S_1
  clear S_1
  refine rangeFunc_lawO (by omega) (N := 36) (w0 := w1) (gf := 78) (fb := #[]) (lb := #[]) rfl (enters_of Tryz.func78 (by kernel_rfl) rfl)
    (matches_seq 4 (by omega) w1) (Below.refl _ _) (fun h k => h.trans k) (fun _ _ _ _ _ _ h _ _ => NewKept.put _ _ _ h) (fun _ _ _ _ _ _ _ h => h) (fun x => rfl)
    (fun pre W => (∀ x ∈ pre, (X && newV d x.1 x.2 == c) = false) ∧ Blk W w.heap.size 25 #[.int .i64 k, .int .i64 t, .int .i64 s, .bool r, .int .i64 k2, .int .i64 t2, .int .i64 s2, .bool r2, .int .i64 n] ∧ Blk W (w.heap.size + 1) 25 #[.int .i64 l, .int .i64 u, .int .i64 o, .bool z, .int .i64 l2, .int .i64 u2, .int .i64 o2, .bool z2, .int .i64 m] ∧ Blk W (w.heap.size + 1 + 1) 3 #[.int .i64 p] ∧ Blk W (w.heap.size + 1 + 1 + 1) 70 #[.int .i64 0, .int .i64 0, .int .i64 0, .int .i64 0, .int .i64 0, .int .i64 0] ∧ Blk W (w.heap.size + 1 + 1 + 1 + 1) 27 #[.int .i64 0] ∧ Below w.heap.size w W)
    (fun c' pre W => c' = .ret ∧ ∃ pre' x, pre = pre' ++ [x] ∧ (∀ x ∈ pre', (X && newV d x.1 x.2 == c) = false) ∧ (X && newV d x.1 x.2 == c) = true ∧ Blk W (w.heap.size + 1 + 1 + 1) 70 #[.int .i64 x.1.a, .int .i64 x.1.b, .int .i64 x.1.c, .int .i64 x.2.a, .int .i64 x.2.b, .int .i64 x.2.c] ∧ Blk W (w.heap.size + 1 + 1 + 1 + 1) 27 #[.int .i64 0] ∧ Below w.heap.size w W)
    (fun s A B row ⟨h0, h1, h2, h3, h4, h5, h6⟩ hg hr => ⟨h0, own_blk _ _ _ _ s A B row h1 hg hr, own_blk _ _ _ _ s A B row h2 hg hr, own_blk _ _ _ _ s A B row h3 hg hr, own_blk _ _ _ _ s A B row h4 hg hr, own_blk _ _ _ _ s A B row h5 hg hr, ownFrom_below (Nat.le_refl _) HB1.out.size s A B row h6 hg hr⟩)
    (fun c' s A B row ⟨h0, pre', x, h1, h2, h3, h4, h5, h6⟩ hg hr => ⟨h0, pre', x, h1, h2, h3, own_blk _ _ _ _ s A B row h4 hg hr, own_blk _ _ _ _ s A B row h5 hg hr, ownFrom_below (Nat.le_refl _) HB1.out.size s A B row h6 hg hr⟩)
    ⟨(fun _ h => by cases h), A_1, B_1, P_1, R_1, E_1, HB1.out⟩
    (fun x W0 => { tmps := #[.agg #[.int .i64 k, .int .i64 t, .int .i64 s, .bool r, .int .i64 k2, .int .i64 t2, .int .i64 s2, .bool r2, .int .i64 n], .agg #[.int .i64 l, .int .i64 u, .int .i64 o, .bool z, .int .i64 l2, .int .i64 u2, .int .i64 o2, .bool z2, .int .i64 m], .int .i64 p, .pointer (some ⟨w.heap.size, 0, none⟩), .pointer (some ⟨w.heap.size + 1, 0, none⟩), .pointer (some ⟨w.heap.size + 1 + 1, 0, none⟩), .pointer (some ⟨w.heap.size + 1 + 1 + 1, 0, none⟩), .pointer (some ⟨w.heap.size + 1 + 1 + 1 + 1, 0, none⟩), .int .i64 0, .pointer (some ⟨W0.heap.size, 0, none⟩), undef, undef, .agg #[.int .i64 k, .int .i64 t, .int .i64 s, .bool r, .int .i64 k2, .int .i64 t2, .int .i64 s2, .bool r2, .int .i64 n], .agg #[.int .i64 l, .int .i64 u, .int .i64 o, .bool z, .int .i64 l2, .int .i64 u2, .int .i64 o2, .bool z2, .int .i64 m], .int .i64 p, .int .i64 0, .int .i64 0, .bool false, undef, undef, .agg #[.int .i64 x.1.a, .int .i64 x.1.b, .int .i64 x.1.c, .int .i64 x.2.a, .int .i64 x.2.b, .int .i64 x.2.c], undef, undef, undef, undef, undef, undef, undef, undef, undef, undef, undef, undef, undef, undef, undef, undef, undef, undef, undef, undef, undef], defers := [] })
    (fun x => .cells #[.int .i64 x.1.a, .int .i64 x.1.b, .int .i64 x.1.c, .int .i64 x.2.a, .int .i64 x.2.b, .int .i64 x.2.c] 70) (fun _ _ _ => NewKept.alloc _ _ _) (fun _ _ _ h => h) ?assign ?body ?done ?stop
  case assign =>
    intro l x W K hK
    unfold matchEnc
    gi_wp2
    exact hK
  case body =>
    rintro l1 pre ⟨⟨xa, xb, xc⟩, ⟨ya, yb, yc⟩⟩ Wb V0 V hW hVb hVs hVo ⟨hp, A_2, B_2, P_2, R_2, E_2, hq⟩ ⟨hx1, hx2⟩ hlt
    dsimp only at hVo hx1 hx2 ⊢
    obtain ⟨xv, hxc, hxe⟩ := HN.out ⟨xa, xb, xc⟩ ⟨ya, yb, yc⟩ hx1 hx2
    have hG := (hxe c hc0).symm
    clear hxe
    dsimp only at hG hxc
    generalize (seqP (⟨xa, xb, xc⟩ : V3) == seqP (⟨ya, yb, yc⟩ : V3)) = sb at hG hxc
    have HXC := Lib.hid hxc
    have HP0 := Lib.hid hp
    have HG := Lib.hid hG
    have HQ := Lib.hid hq
    have M_2 : Blk V V0.heap.size 70 #[.int .i64 xa, .int .i64 xb, .int .i64 xc, .int .i64 ya, .int .i64 yb, .int .i64 yc] := hVo
    clear hxc hp hG hVo hx1 hx2 hq
    have ges : w.heap.size ≤ V.heap.size := HQ.out.size
    have b0 := B_2.cellAt 0 rfl
    have b1 := B_2.cellAt 1 rfl
    have b2 := B_2.cellAt 2 rfl
    have b3 := B_2.cellAt 3 rfl
    have b4 := B_2.cellAt 4 rfl
    have b5 := B_2.cellAt 5 rfl
    have b6 := B_2.cellAt 6 rfl
    have b7 := B_2.cellAt 7 rfl
    have b8 := B_2.cellAt 8 rfl
    have bl := B_2.lt
    have m0 := M_2.cellAt 0 rfl
    have m1 := M_2.cellAt 1 rfl
    have m2 := M_2.cellAt 2 rfl
    have m3 := M_2.cellAt 3 rfl
    have m4 := M_2.cellAt 4 rfl
    have m5 := M_2.cellAt 5 rfl
    have ml := M_2.lt
    cases sb
    · gi_wp2_with (first | (refine ⟨trivial, ?_⟩; gi_at_call 79; refine (callsIn_wide.2 (HXC.out _ (HT.out _ HQ.out) (HP.out _ HQ.out))).mono ?_; rintro e w2 ⟨rfl, hb2⟩; have HQ2 := Lib.hid (pt HQ.out hb2); have A_3 := A_2.past hb2; have B_3 := B_2.past hb2; have P_3 := P_2.past hb2; have R_3 := R_2.past hb2; have E_3 := E_2.past hb2; have M_3 := M_2.past hb2; have HV2 := Lib.hid hb2; clear hb2 A_2 B_2 P_2 R_2 E_2 M_2 b0 b1 b2 b3 b4 b5 b6 b7 b8 bl m0 m1 m2 m3 m4 m5 ml; have a0 := A_3.cellAt 0 rfl; have a1 := A_3.cellAt 1 rfl; have a2 := A_3.cellAt 2 rfl; have a3 := A_3.cellAt 3 rfl; have a4 := A_3.cellAt 4 rfl; have a5 := A_3.cellAt 5 rfl; have a6 := A_3.cellAt 6 rfl; have a7 := A_3.cellAt 7 rfl; have a8 := A_3.cellAt 8 rfl; have al := A_3.lt) | (refine ⟨(trivial : Fence.wide.fn _), ?_⟩))
      refine ⟨kf_below HV2.out, NewKept.below HV2.out, ?_, A_3, B_3, P_3, R_3, E_3, HQ2.out⟩
      intro y hy
      rcases List.mem_append.1 hy with h | h
      · exact HP0.out y h
      · rw [List.mem_singleton.1 h]; dsimp only; rw [HG.out]; simp [*]
    · cases hv : (xv == c)
      · gi_wp2_with (first | (refine ⟨trivial, ?_⟩; gi_at_call 79; refine (callsIn_wide.2 (HXC.out _ (HT.out _ HQ.out) (HP.out _ HQ.out))).mono ?_; rintro e w2 ⟨rfl, hb2⟩; have HQ2 := Lib.hid (pt HQ.out hb2); have A_3 := A_2.past hb2; have B_3 := B_2.past hb2; have P_3 := P_2.past hb2; have R_3 := R_2.past hb2; have E_3 := E_2.past hb2; have M_3 := M_2.past hb2; have HV2 := Lib.hid hb2; clear hb2 A_2 B_2 P_2 R_2 E_2 M_2 b0 b1 b2 b3 b4 b5 b6 b7 b8 bl m0 m1 m2 m3 m4 m5 ml; have a0 := A_3.cellAt 0 rfl; have a1 := A_3.cellAt 1 rfl; have a2 := A_3.cellAt 2 rfl; have a3 := A_3.cellAt 3 rfl; have a4 := A_3.cellAt 4 rfl; have a5 := A_3.cellAt 5 rfl; have a6 := A_3.cellAt 6 rfl; have a7 := A_3.cellAt 7 rfl; have a8 := A_3.cellAt 8 rfl; have al := A_3.lt) | (refine ⟨trivial, ?_⟩; gi_at_call 44; refine (callsIn_wide.2 (HK.out _ (HT.out _ HQ2.out) (HP.out _ HQ2.out))).mono ?_; rintro e w3 ⟨rfl, hb3⟩; have HQ3 := Lib.hid (pt HQ2.out hb3); have A_4 := A_3.past hb3; have B_4 := B_3.past hb3; have P_4 := P_3.past hb3; have R_4 := R_3.past hb3; have E_4 := E_3.past hb3; have M_4 := M_3.past hb3; have HV3 := Lib.hid (pt HV2.out hb3); clear hb3 A_3 B_3 P_3 R_3 E_3 M_3 a0 a1 a2 a3 a4 a5 a6 a7 a8 al; have a0 := A_4.cellAt 0 rfl; have a1 := A_4.cellAt 1 rfl; have a2 := A_4.cellAt 2 rfl; have a3 := A_4.cellAt 3 rfl; have a4 := A_4.cellAt 4 rfl; have a5 := A_4.cellAt 5 rfl; have a6 := A_4.cellAt 6 rfl; have a7 := A_4.cellAt 7 rfl; have a8 := A_4.cellAt 8 rfl; have al := A_4.lt; have b0 := B_4.cellAt 0 rfl; have b1 := B_4.cellAt 1 rfl; have b2 := B_4.cellAt 2 rfl; have b3 := B_4.cellAt 3 rfl; have b4 := B_4.cellAt 4 rfl; have b5 := B_4.cellAt 5 rfl; have b6 := B_4.cellAt 6 rfl; have b7 := B_4.cellAt 7 rfl; have b8 := B_4.cellAt 8 rfl; have bl := B_4.lt; have c0 := P_4.cellAt 0 rfl; have cl := P_4.lt) | (refine ⟨(trivial : Fence.wide.fn _), ?_⟩))
        refine ⟨kf_below HV3.out, NewKept.below HV3.out, ?_, A_4, B_4, P_4, R_4, E_4, HQ3.out⟩
        intro y hy
        rcases List.mem_append.1 hy with h | h
        · exact HP0.out y h
        · rw [List.mem_singleton.1 h]; dsimp only; rw [HG.out]; simp [*]
      · cases X
        · gi_wp2_with (first | (refine ⟨trivial, ?_⟩; gi_at_call 79; refine (callsIn_wide.2 (HXC.out _ (HT.out _ HQ.out) (HP.out _ HQ.out))).mono ?_; rintro e w2 ⟨rfl, hb2⟩; have HQ2 := Lib.hid (pt HQ.out hb2); have A_3 := A_2.past hb2; have B_3 := B_2.past hb2; have P_3 := P_2.past hb2; have R_3 := R_2.past hb2; have E_3 := E_2.past hb2; have M_3 := M_2.past hb2; have HV2 := Lib.hid hb2; clear hb2 A_2 B_2 P_2 R_2 E_2 M_2 b0 b1 b2 b3 b4 b5 b6 b7 b8 bl m0 m1 m2 m3 m4 m5 ml; have a0 := A_3.cellAt 0 rfl; have a1 := A_3.cellAt 1 rfl; have a2 := A_3.cellAt 2 rfl; have a3 := A_3.cellAt 3 rfl; have a4 := A_3.cellAt 4 rfl; have a5 := A_3.cellAt 5 rfl; have a6 := A_3.cellAt 6 rfl; have a7 := A_3.cellAt 7 rfl; have a8 := A_3.cellAt 8 rfl; have al := A_3.lt) | (refine ⟨trivial, ?_⟩; gi_at_call 44; refine (callsIn_wide.2 (HK.out _ (HT.out _ HQ2.out) (HP.out _ HQ2.out))).mono ?_; rintro e w3 ⟨rfl, hb3⟩; have HQ3 := Lib.hid (pt HQ2.out hb3); have A_4 := A_3.past hb3; have B_4 := B_3.past hb3; have P_4 := P_3.past hb3; have R_4 := R_3.past hb3; have E_4 := E_3.past hb3; have M_4 := M_3.past hb3; have HV3 := Lib.hid (pt HV2.out hb3); clear hb3 A_3 B_3 P_3 R_3 E_3 M_3 a0 a1 a2 a3 a4 a5 a6 a7 a8 al; have a0 := A_4.cellAt 0 rfl; have a1 := A_4.cellAt 1 rfl; have a2 := A_4.cellAt 2 rfl; have a3 := A_4.cellAt 3 rfl; have a4 := A_4.cellAt 4 rfl; have a5 := A_4.cellAt 5 rfl; have a6 := A_4.cellAt 6 rfl; have a7 := A_4.cellAt 7 rfl; have a8 := A_4.cellAt 8 rfl; have al := A_4.lt; have b0 := B_4.cellAt 0 rfl; have b1 := B_4.cellAt 1 rfl; have b2 := B_4.cellAt 2 rfl; have b3 := B_4.cellAt 3 rfl; have b4 := B_4.cellAt 4 rfl; have b5 := B_4.cellAt 5 rfl; have b6 := B_4.cellAt 6 rfl; have b7 := B_4.cellAt 7 rfl; have b8 := B_4.cellAt 8 rfl; have bl := B_4.lt; have c0 := P_4.cellAt 0 rfl; have cl := P_4.lt) | (refine ⟨trivial, ?_⟩; gi_at_call 77; refine (callsIn_wide.2 (HA.out _ (HP.out _ HQ3.out))).mono ?_; rintro e w4 ⟨rfl, hb4⟩; have HQ4 := Lib.hid (pt HQ3.out hb4); have A_5 := A_4.past hb4; have B_5 := B_4.past hb4; have P_5 := P_4.past hb4; have R_5 := R_4.past hb4; have E_5 := E_4.past hb4; have M_5 := M_4.past hb4; have HV4 := Lib.hid (pt HV3.out hb4); clear hb4 A_4 B_4 P_4 R_4 E_4 M_4 a0 a1 a2 a3 a4 a5 a6 a7 a8 al b0 b1 b2 b3 b4 b5 b6 b7 b8 bl c0 cl; have m0 := M_5.cellAt 0 rfl; have m1 := M_5.cellAt 1 rfl; have m2 := M_5.cellAt 2 rfl; have m3 := M_5.cellAt 3 rfl; have m4 := M_5.cellAt 4 rfl; have m5 := M_5.cellAt 5 rfl; have ml := M_5.lt; have r0 := R_5.cellAt 0 rfl; have r1 := R_5.cellAt 1 rfl; have r2 := R_5.cellAt 2 rfl; have r3 := R_5.cellAt 3 rfl; have r4 := R_5.cellAt 4 rfl; have r5 := R_5.cellAt 5 rfl; have rl := R_5.lt; have rf0 := R_5.frozen 0; have rf1 := R_5.frozen 1; have rf2 := R_5.frozen 2; have rf3 := R_5.frozen 3; have rf4 := R_5.frozen 4; have rf5 := R_5.frozen 5; have e0 := E_5.cellAt 0 rfl; have ef := E_5.frozen 0; have el := E_5.lt) | (refine ⟨(trivial : Fence.wide.fn _), ?_⟩))
          refine ⟨kf_below HV4.out, NewKept.below HV4.out, ?_, A_5, B_5, P_5, R_5, E_5, HQ4.out⟩
          intro y hy
          rcases List.mem_append.1 hy with h | h
          · exact HP0.out y h
          · rw [List.mem_singleton.1 h]; dsimp only; rw [HG.out]; simp [*]
        · gi_wp2_with (first | (refine ⟨trivial, ?_⟩; gi_at_call 79; refine (callsIn_wide.2 (HXC.out _ (HT.out _ HQ.out) (HP.out _ HQ.out))).mono ?_; rintro e w2 ⟨rfl, hb2⟩; have HQ2 := Lib.hid (pt HQ.out hb2); have A_3 := A_2.past hb2; have B_3 := B_2.past hb2; have P_3 := P_2.past hb2; have R_3 := R_2.past hb2; have E_3 := E_2.past hb2; have M_3 := M_2.past hb2; have HV2 := Lib.hid hb2; clear hb2 A_2 B_2 P_2 R_2 E_2 M_2 b0 b1 b2 b3 b4 b5 b6 b7 b8 bl m0 m1 m2 m3 m4 m5 ml; have a0 := A_3.cellAt 0 rfl; have a1 := A_3.cellAt 1 rfl; have a2 := A_3.cellAt 2 rfl; have a3 := A_3.cellAt 3 rfl; have a4 := A_3.cellAt 4 rfl; have a5 := A_3.cellAt 5 rfl; have a6 := A_3.cellAt 6 rfl; have a7 := A_3.cellAt 7 rfl; have a8 := A_3.cellAt 8 rfl; have al := A_3.lt) | (refine ⟨trivial, ?_⟩; gi_at_call 44; refine (callsIn_wide.2 (HK.out _ (HT.out _ HQ2.out) (HP.out _ HQ2.out))).mono ?_; rintro e w3 ⟨rfl, hb3⟩; have HQ3 := Lib.hid (pt HQ2.out hb3); have A_4 := A_3.past hb3; have B_4 := B_3.past hb3; have P_4 := P_3.past hb3; have R_4 := R_3.past hb3; have E_4 := E_3.past hb3; have M_4 := M_3.past hb3; have HV3 := Lib.hid (pt HV2.out hb3); clear hb3 A_3 B_3 P_3 R_3 E_3 M_3 a0 a1 a2 a3 a4 a5 a6 a7 a8 al; have a0 := A_4.cellAt 0 rfl; have a1 := A_4.cellAt 1 rfl; have a2 := A_4.cellAt 2 rfl; have a3 := A_4.cellAt 3 rfl; have a4 := A_4.cellAt 4 rfl; have a5 := A_4.cellAt 5 rfl; have a6 := A_4.cellAt 6 rfl; have a7 := A_4.cellAt 7 rfl; have a8 := A_4.cellAt 8 rfl; have al := A_4.lt; have b0 := B_4.cellAt 0 rfl; have b1 := B_4.cellAt 1 rfl; have b2 := B_4.cellAt 2 rfl; have b3 := B_4.cellAt 3 rfl; have b4 := B_4.cellAt 4 rfl; have b5 := B_4.cellAt 5 rfl; have b6 := B_4.cellAt 6 rfl; have b7 := B_4.cellAt 7 rfl; have b8 := B_4.cellAt 8 rfl; have bl := B_4.lt; have c0 := P_4.cellAt 0 rfl; have cl := P_4.lt) | (refine ⟨trivial, ?_⟩; gi_at_call 77; refine (callsIn_wide.2 (HA.out _ (HP.out _ HQ3.out))).mono ?_; rintro e w4 ⟨rfl, hb4⟩; have HQ4 := Lib.hid (pt HQ3.out hb4); have A_5 := A_4.past hb4; have B_5 := B_4.past hb4; have P_5 := P_4.past hb4; have R_5 := R_4.past hb4; have E_5 := E_4.past hb4; have M_5 := M_4.past hb4; have HV4 := Lib.hid (pt HV3.out hb4); clear hb4 A_4 B_4 P_4 R_4 E_4 M_4 a0 a1 a2 a3 a4 a5 a6 a7 a8 al b0 b1 b2 b3 b4 b5 b6 b7 b8 bl c0 cl; have m0 := M_5.cellAt 0 rfl; have m1 := M_5.cellAt 1 rfl; have m2 := M_5.cellAt 2 rfl; have m3 := M_5.cellAt 3 rfl; have m4 := M_5.cellAt 4 rfl; have m5 := M_5.cellAt 5 rfl; have ml := M_5.lt; have r0 := R_5.cellAt 0 rfl; have r1 := R_5.cellAt 1 rfl; have r2 := R_5.cellAt 2 rfl; have r3 := R_5.cellAt 3 rfl; have r4 := R_5.cellAt 4 rfl; have r5 := R_5.cellAt 5 rfl; have rl := R_5.lt; have rf0 := R_5.frozen 0; have rf1 := R_5.frozen 1; have rf2 := R_5.frozen 2; have rf3 := R_5.frozen 3; have rf4 := R_5.frozen 4; have rf5 := R_5.frozen 5; have e0 := E_5.cellAt 0 rfl; have ef := E_5.frozen 0; have el := E_5.lt) | (refine ⟨(trivial : Fence.wide.fn _), ?_⟩))
          refine ⟨?_, rfl, pre, ⟨⟨xa, xb, xc⟩, ⟨ya, yb, yc⟩⟩, rfl, HP0.out, ?_, ?_, ?_, ?_⟩
          · repeat (first | (with_reducible exact kf_below HV4.out) | with_reducible refine kf_set ?_)
          · dsimp only
            rw [HG.out, hv]
            rfl
          · refine Blk.far ?_ (by simp)
            simpa using ((((((R_5.set_ 0 (.int .i64 xa)).set_ 1 (.int .i64 xb)).set_ 2 (.int .i64 xc)).set_ 3 (.int .i64 ya)).set_ 4 (.int .i64 yb)).set_ 5 (.int .i64 yc))
          · have q : Blk w4 (w.heap.size + 1 + 1 + 1 + 1) 27 #[.int .i64 0] := E_5
            have q2 := Blk.set_ (Blk.far (Blk.far (Blk.far (Blk.far (Blk.far (Blk.far q (p := ⟨w.heap.size + 1 + 1 + 1, 0, none⟩) (u := .int .i64 xa) (by simp)) (p := ⟨w.heap.size + 1 + 1 + 1, 1, none⟩) (u := .int .i64 xb) (by simp)) (p := ⟨w.heap.size + 1 + 1 + 1, 2, none⟩) (u := .int .i64 xc) (by simp)) (p := ⟨w.heap.size + 1 + 1 + 1, 3, none⟩) (u := .int .i64 ya) (by simp)) (p := ⟨w.heap.size + 1 + 1 + 1, 4, none⟩) (u := .int .i64 yb) (by simp)) (p := ⟨w.heap.size + 1 + 1 + 1, 5, none⟩) (u := .int .i64 yc) (by simp)) 0 (.int .i64 0)
            simpa using q2
          · repeat (first | with_reducible exact HQ4.out | (with_reducible refine ps ?_ ?_; rotate_left; (dsimp only; omega)))
  case done =>
    rintro D xs W hD rfl ⟨hp, a0, b0, p0, R_5, E_5, hq⟩ hK
    have hn : matchR X c d = none := by
      unfold matchR
      cases X
      · rfl
      · rw [if_pos rfl]
        unfold matchV
        rw [List.find?_eq_none]
        intro x hx
        have := hp x hx
        simpa using this
    have HN0 := Lib.hid hn
    have HP0 := Lib.hid hq
    clear hp hn hq a0 b0 p0
    have r0 := R_5.cellAt 0 rfl
    have rf0 := R_5.frozen 0
    have r1 := R_5.cellAt 1 rfl
    have rf1 := R_5.frozen 1
    have r2 := R_5.cellAt 2 rfl
    have rf2 := R_5.frozen 2
    have r3 := R_5.cellAt 3 rfl
    have rf3 := R_5.frozen 3
    have r4 := R_5.cellAt 4 rfl
    have rf4 := R_5.frozen 4
    have r5 := R_5.cellAt 5 rfl
    have rf5 := R_5.frozen 5
    have rl := R_5.lt
    have e0 := E_5.cellAt 0 rfl
    have ef := E_5.frozen 0
    have el := E_5.lt
    gi_wp2
    clear r0 rf0 r1 rf1 r2 rf2 r3 rf3 r4 rf4 r5 rf5 rl e0 ef el
    have hK7 : (((((((W.setCell ⟨w.heap.size + 1 + 1 + 1, 0, none⟩ (.int .i64 0)).setCell ⟨w.heap.size + 1 + 1 + 1, 1, none⟩ (.int .i64 0)).setCell ⟨w.heap.size + 1 + 1 + 1, 2, none⟩ (.int .i64 0)).setCell ⟨w.heap.size + 1 + 1 + 1, 3, none⟩ (.int .i64 0)).setCell ⟨w.heap.size + 1 + 1 + 1, 4, none⟩ (.int .i64 0)).setCell ⟨w.heap.size + 1 + 1 + 1, 5, none⟩ (.int .i64 0)).setCell ⟨w.heap.size + 1 + 1 + 1 + 1, 0, none⟩ (.int .i64 12)).heap[D]? = some (.deferred (some [])) := KeepsFrom.same (B := 0) (W := W) (by repeat (first | with_reducible exact KeepsFrom.refl 0 W | with_reducible refine kf_set ?_)) D _ (Nat.zero_le _) hK rfl
    have R7 : Blk (((((((W.setCell ⟨w.heap.size + 1 + 1 + 1, 0, none⟩ (.int .i64 0)).setCell ⟨w.heap.size + 1 + 1 + 1, 1, none⟩ (.int .i64 0)).setCell ⟨w.heap.size + 1 + 1 + 1, 2, none⟩ (.int .i64 0)).setCell ⟨w.heap.size + 1 + 1 + 1, 3, none⟩ (.int .i64 0)).setCell ⟨w.heap.size + 1 + 1 + 1, 4, none⟩ (.int .i64 0)).setCell ⟨w.heap.size + 1 + 1 + 1, 5, none⟩ (.int .i64 0)).setCell ⟨w.heap.size + 1 + 1 + 1 + 1, 0, none⟩ (.int .i64 12)) (w.heap.size + 1 + 1 + 1) 70 #[.int .i64 0, .int .i64 0, .int .i64 0, .int .i64 0, .int .i64 0, .int .i64 0] := Blk.far (by simpa using ((((((R_5.set_ 0 (.int .i64 0)).set_ 1 (.int .i64 0)).set_ 2 (.int .i64 0)).set_ 3 (.int .i64 0)).set_ 4 (.int .i64 0)).set_ 5 (.int .i64 0))) (by simp)
    have E7 : Blk (((((((W.setCell ⟨w.heap.size + 1 + 1 + 1, 0, none⟩ (.int .i64 0)).setCell ⟨w.heap.size + 1 + 1 + 1, 1, none⟩ (.int .i64 0)).setCell ⟨w.heap.size + 1 + 1 + 1, 2, none⟩ (.int .i64 0)).setCell ⟨w.heap.size + 1 + 1 + 1, 3, none⟩ (.int .i64 0)).setCell ⟨w.heap.size + 1 + 1 + 1, 4, none⟩ (.int .i64 0)).setCell ⟨w.heap.size + 1 + 1 + 1, 5, none⟩ (.int .i64 0)).setCell ⟨w.heap.size + 1 + 1 + 1 + 1, 0, none⟩ (.int .i64 12)) (w.heap.size + 1 + 1 + 1 + 1) 27 #[.int .i64 12] := by simpa using Blk.set_ (Blk.far (Blk.far (Blk.far (Blk.far (Blk.far (Blk.far E_5 (p := ⟨w.heap.size + 1 + 1 + 1, 0, none⟩) (u := .int .i64 0) (by simp)) (p := ⟨w.heap.size + 1 + 1 + 1, 1, none⟩) (u := .int .i64 0) (by simp)) (p := ⟨w.heap.size + 1 + 1 + 1, 2, none⟩) (u := .int .i64 0) (by simp)) (p := ⟨w.heap.size + 1 + 1 + 1, 3, none⟩) (u := .int .i64 0) (by simp)) (p := ⟨w.heap.size + 1 + 1 + 1, 4, none⟩) (u := .int .i64 0) (by simp)) (p := ⟨w.heap.size + 1 + 1 + 1, 5, none⟩) (u := .int .i64 0) (by simp)) 0 (.int .i64 12)
    have B7 : Below w.heap.size w (((((((W.setCell ⟨w.heap.size + 1 + 1 + 1, 0, none⟩ (.int .i64 0)).setCell ⟨w.heap.size + 1 + 1 + 1, 1, none⟩ (.int .i64 0)).setCell ⟨w.heap.size + 1 + 1 + 1, 2, none⟩ (.int .i64 0)).setCell ⟨w.heap.size + 1 + 1 + 1, 3, none⟩ (.int .i64 0)).setCell ⟨w.heap.size + 1 + 1 + 1, 4, none⟩ (.int .i64 0)).setCell ⟨w.heap.size + 1 + 1 + 1, 5, none⟩ (.int .i64 0)).setCell ⟨w.heap.size + 1 + 1 + 1 + 1, 0, none⟩ (.int .i64 12)) := by repeat (first | with_reducible exact HP0.out | (with_reducible refine ps ?_ ?_; rotate_left; (dsimp only; omega)))
    generalize (((((((W.setCell ⟨w.heap.size + 1 + 1 + 1, 0, none⟩ (.int .i64 0)).setCell ⟨w.heap.size + 1 + 1 + 1, 1, none⟩ (.int .i64 0)).setCell ⟨w.heap.size + 1 + 1 + 1, 2, none⟩ (.int .i64 0)).setCell ⟨w.heap.size + 1 + 1 + 1, 3, none⟩ (.int .i64 0)).setCell ⟨w.heap.size + 1 + 1 + 1, 4, none⟩ (.int .i64 0)).setCell ⟨w.heap.size + 1 + 1 + 1, 5, none⟩ (.int .i64 0)).setCell ⟨w.heap.size + 1 + 1 + 1 + 1, 0, none⟩ (.int .i64 12)) = U at *
    refine ⟨by simp, .inl ⟨_, _, rfl, run_takeDeferred hK7, ?_⟩⟩
    have R8 := Blk.putObj R7 (D := D) (by omega) (o := .deferred none)
    have E8 := Blk.putObj E7 (D := D) (by omega) (o := .deferred none)
    have r0 := R8.cellAt 0 rfl
    have r1 := R8.cellAt 1 rfl
    have r2 := R8.cellAt 2 rfl
    have r3 := R8.cellAt 3 rfl
    have r4 := R8.cellAt 4 rfl
    have r5 := R8.cellAt 5 rfl
    have e0 := E8.cellAt 0 rfl
    refine ⟨.tuple #[.agg #[.int .i64 0, .int .i64 0, .int .i64 0, .int .i64 0, .int .i64 0, .int .i64 0], .int .i64 12], by simp [results, Tryz.results28, go_sem, r0, r1, r2, r3, r4, r5, e0], ?_⟩
    rw [HN0.out]
    exact ⟨rfl, below_put B7 (by omega)⟩
  case stop =>
    rintro D c' pre W hD hSp ⟨rfl, pre', x, rfl, hp, hx, R_5, E_5, hq⟩ hK
    have hn : matchR X c d = some x := by
      cases X
      · simp at hx
      · unfold matchR matchV
        rw [if_pos rfl]
        obtain ⟨_, t, ht⟩ := hSp
        rw [← ht, List.append_assoc, List.find?_append]
        rw [List.find?_eq_none.2 (fun y hy => by have := hp y hy; simpa using this)]
        have hx' : (newV d x.1 x.2 == c) = true := by simpa using hx
        simp [find_ite', hx']
    obtain ⟨⟨xa, xb, xc⟩, ⟨ya, yb, yc⟩⟩ := x
    have HN0 := Lib.hid hn
    have HP0 := Lib.hid hq
    clear hp hn hq hx hSp
    have r0 := R_5.cellAt 0 rfl
    have r1 := R_5.cellAt 1 rfl
    have r2 := R_5.cellAt 2 rfl
    have r3 := R_5.cellAt 3 rfl
    have r4 := R_5.cellAt 4 rfl
    have r5 := R_5.cellAt 5 rfl
    have rl := R_5.lt
    have e0 := E_5.cellAt 0 rfl
    have el := E_5.lt
    gi_wp2
    clear r0 r1 r2 r3 r4 r5 rl e0 el
    have hK7 := hK
    have R7 : Blk W (w.heap.size + 1 + 1 + 1) 70 #[.int .i64 xa, .int .i64 xb, .int .i64 xc, .int .i64 ya, .int .i64 yb, .int .i64 yc] := R_5
    have E7 := E_5
    have B7 := HP0.out
    clear R_5 E_5
    refine ⟨by simp, .inl ⟨_, _, rfl, run_takeDeferred hK7, ?_⟩⟩
    have R8 := Blk.putObj R7 (D := D) (by omega) (o := .deferred none)
    have E8 := Blk.putObj E7 (D := D) (by omega) (o := .deferred none)
    have r0 := R8.cellAt 0 rfl
    have r1 := R8.cellAt 1 rfl
    have r2 := R8.cellAt 2 rfl
    have r3 := R8.cellAt 3 rfl
    have r4 := R8.cellAt 4 rfl
    have r5 := R8.cellAt 5 rfl
    have e0 := E8.cellAt 0 rfl
    refine ⟨.tuple #[.agg #[.int .i64 xa, .int .i64 xb, .int .i64 xc, .int .i64 ya, .int .i64 yb, .int .i64 yc], .int .i64 0], by simp [results, Tryz.results28, go_sem, r0, r1, r2, r3, r4, r5, e0], ?_⟩
    rw [HN0.out]
    exact ⟨rfl, below_put B7 (by omega)⟩

end Go.Proofs.YtnhcamokcggnkaaGreatDoor
end
