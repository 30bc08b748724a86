/- Contract: a slice's copy (slices.Clone at numbers) is a row of the call's own with the same numbers.
A range over a function whose iterator hands over memory of its own: the round is told what holds of what it is handed (Pr) in the world in which it begins. Turned from the library's law for a range over a function, at the wide fence. No condition.
Contract: the recursive iterator over all stacks that overlap.
Laws: a whole array, or struct, that fills a block is read, or stored, in one step. No condition.
A store into a part of a block that is known whole: the block is known whole afterwards. No condition. -/
import Derived.Test.YtbojmcopagbheaaGreatDoorQ3
import Derived.Test.YtbojmcopagbheaaGreatDoorQ1
import Derived.RangeFuncNested
import Derived.RangeFuncBound
import Derived.RangeFuncCalls
import Derived.RangeFuncLeaves
import Derived.Shelf.Abstract
import Derived.Shelf.RegionOpen
import Derived.OwnWalkIn
import Derived.TacticsInMore
import Derived.LoopNIn
import Derived.LoopIn
import Derived.Maps.OwnIn
import Derived.Deep.MidRow
import Derived.KernelRfl

section
namespace Go.Proofs.YtbojmcopagbheaaGreatDoor
open Go.RowKit

/-- A result that is a new row of numbers. -/
def RowRet (w : World) (xs : List Int) (e : Ending) (w' : World) : Prop :=
  ∃ v, e = .returned v ∧ w'.ownsRow w.heap.size 3 1 v xs.length (xs.map (Value.int .i64)) ∧ Below w.heap.size w w'

set_option maxRecDepth 100000 in
set_option maxHeartbeats 400000 in
theorem clone_any (B : Nat) (A : Option Addr) (n c : Nat) (xs : List Int) (w : World) (hr : IntsIn B w A xs) (hn : xs.length = n) (hB : B ≤ w.heap.size) (hm : n ≤ 1000) :
    Calls Tryz.prog 98 #[.slice A n c] w (RowRet w xs) := by
  obtain ⟨i0, hi0, hz0, hz1, hz2⟩ := info_parts int_info
  have hnil := fun (w : World) (A : Option Addr) => Lib.run_eql_slice_nil (P := Tryz.prog) w 32 3 A n c 0 0 Tryz.underlying32
  have HR := Lib.hid hr.cells
  have HN := Lib.hid hn
  clear hr hn
  rcases A with _ | ad
  · have hx : xs = [] := by
      rcases HR.out with h | ⟨_, _, h, _⟩
      · simpa using h
      · cases h
    subst hx
    go_enter Tryz.func98, Tryz.ntmps98
    go_wp2
    go_ret
    exact ⟨_, rfl, World.ownsRow_nil _ _ _ _, pr⟩
  · go_enter Tryz.func98, Tryz.ntmps98
    have own0 : (w.alloc (.cells #[] 3)).ownsRow w.heap.size 3 1 (.slice (some ⟨w.heap.size, 0, none⟩) 0 0) 0 [] := World.ownsRow_lit w #[] 0 (Nat.le_refl _) (Nat.zero_le _) rfl
    have hcl : CellsIn B (w.alloc (.cells #[] 3)) (some ad) (List.map (Value.int IntKind.i64) xs) := HR.out.below ((pa (Below.refl _ w)).mono hB)
    have hone : ∀ u ∈ List.map (Value.int IntKind.i64) xs, u.oneCell' = true := by simp [Value.oneCell']
    have hlen : (List.map (Value.int IntKind.i64) xs).length = n * 1 := by simp [HN.out]
    have hmx : 0 + n ≤ maxLen := by simp only [maxLen]; omega
    have HO := Lib.hid own0
    have HC := Lib.hid hcl
    have H1 := Lib.hid hone
    have HL := Lib.hid hlen
    have HM := Lib.hid hmx
    clear own0 hcl hone hlen hmx
    go_wp2_with (at_builtin; go_must (refine wpList_append_cells _ rfl (.tmp 5) (.tmp 6) _ rfl w.heap.size 3 i0 _ 1 8 Tryz.underlying32 hi0 hz0 hz1 hz2 rfl (by omega) (.slice (some ⟨w.heap.size, 0, none⟩) 0 0) 0 [] rfl HO.out B (some ad) n c _ rfl HC.out HL.out H1.out HM.out (by omega) (by simp) ?_); intro v1 w1 hown1 hg1 hat1)
    go_ret
    refine ⟨v1, rfl, ?_, pg (pa pr) HO.out (Nat.le_refl _) hg1⟩
    rw [HN.out]
    simpa using hown1

end Go.Proofs.YtbojmcopagbheaaGreatDoor
end

section
namespace Go.Proofs.YtbojmcopagbheaaGreatDoor
open Go.RowKit Go.Shelf
variable {P : Program}

/-- The iterator's word: J holds between two rounds, what has come being pre; Pr of what a round is handed, in the world in which the round begins; Kp of a round that goes on (the world in which the loop began first). -/
def SeqP {α : Type} (n : Nat) (P : Program) (g : Nat) (fb lb : Array Value) (encs : α → Array Value) (Pr : α → World → Prop) (Kp : World → World → World → Prop) (S Sp : List α → Prop) (N : Nat) (w : World) : Prop :=
  ∀ (l : Nat) (J Jx : List α → World → Prop) (W : World), Below w.heap.size w W → AbidesFrom W.heap.size J → AbidesFrom W.heap.size Jx →
    (∀ pre x W1, J pre W1 → Pr x W1 → pre.length < N → YieldAt Fence.wide (n - 1) P l (encs x) W1 fun e W' =>
      (e = .returned (.bool true) ∧ J (pre ++ [x]) W' ∧ Kp W W1 W') ∨ (e = .returned (.bool false) ∧ Jx (pre ++ [x]) W')) →
    J [] W →
    CallsIn Fence.wide n P g (fb ++ #[.func (.yield l) #[] #[]] ++ lb) W fun e W' => (∃ v, e = .returned v) ∧ ((∃ xs, S xs ∧ J xs W') ∨ (∃ pre, Sp pre ∧ Jx pre W'))

theorem rangeFunc_law {α : Type} {g : Operand} {ps : Array Tmp} {assign body : Code} {Q : Exit → Act → World → Prop} {a : Act} {w : World} {n : Nat}
    (h1 : 1 ≤ n) {gf : Nat} {fb lb : Array Value} (hg : a.eval g = .func (.func gf) fb lb) (eg : ∀ args w, (callFunc gf args).run P w = .ok (.enter gf args) w)
    {encs : α → Array Value} {Pr : α → World → Prop} {Kp : World → World → World → Prop} {S Sp : List α → Prop} {N : Nat} {w0 : World} (hseq : SeqP (n - 1) P gf fb lb encs Pr Kp S Sp N w0) (hb0 : Below w0.heap.size w0 w)
    (hKt : ∀ {W A B C : World}, Kp W A B → Kp W B C → Kp W A C) (hKr : ∀ (W A : World) (l : Nat) (o o' : Obj), w.heap.size ≤ l → l < W.heap.size → A.heap[l]? = some o → o.isCells = false → Kp W A (A.putObj l o'))
    (hPr : ∀ x (A : World) (l : Nat) (o o' : Obj), A.heap[l]? = some o → o.isCells = false → Pr x A → Pr x (A.putObj l o')) (hps : ∀ x, (encs x).size = ps.size)
    (I : List α → World → Prop) (Ix : Code → List α → World → Prop) (hI : OwnFrom w.heap.size I) (hIx : ∀ c, OwnFrom w.heap.size (Ix c)) (h0 : I [] w) (a₁ : α → Act)
    (hassign : ∀ (l : Nat) (x : α) (W : World) (K : Act → World → Prop), K (a₁ x) W →
      assign.wpIn (Fence.wide.inRound l) (n - 1 - 1) P (Exit.then K (fun _ _ _ => False)) { tmps := (ps.zip (encs x)).foldl (fun t (p, v) => t.setIfInBounds p v) a.tmps, defers := [] } W)
    (hbody : ∀ (l : Nat) (pre : List α) (x : α) (Wb W : World), Wb.heap.size = w.heap.size + 1 + 1 → I pre W → Pr x W → pre.length < N → body.wpIn (Fence.wide.inRound l) (n - 1 - 1) P (ownPostG w.heap.size (Kp Wb) I Ix (pre ++ [x]) W) (a₁ x) W)
    (hdone : ∀ (D : Nat) (xs : List α) (W : World), w.heap.size ≤ D → S xs → I xs W → W.heap[D]? = some (.deferred (some [])) → Q .normal { a with defers := { target := .collected D, args := #[] } :: a.defers } W)
    (hstop : ∀ (D : Nat) (c : Code) (pre : List α) (W : World), w.heap.size ≤ D → Sp pre → Ix c pre W → W.heap[D]? = some (.deferred (some [])) → c.wpIn Fence.wide n P Q { a with defers := { target := .collected D, args := #[] } :: a.defers } W) :
    (Code.rangeFunc g ps assign body).wpIn Fence.wide n P Q a w := by
  refine wpIn_rangeFunc ?_
  intro fn hfn
  rw [show Fence.wide.round = none from rfl]
  obtain ⟨rec, hrec⟩ : ∃ rec : LoopState → Option Code → Loop, rec = fun st pe => { state := st, pending := pe, fn, tmps := a.tmps, params := ps, assign, body, defers := w.heap.size } := ⟨_, rfl⟩
  obtain ⟨W1, hW1⟩ : ∃ W1, (w.alloc (.deferred (some []))).alloc (.loop (rec .ready none)) = W1 := ⟨_, rfl⟩
  have hS1 : W1.heap.size = w.heap.size + 1 + 1 := by rw [← hW1]; simp
  have hL1 : W1.heap[w.heap.size + 1]? = some (.loop (rec .ready none)) := by
    rw [← hW1]; have := World.alloc_heap_new (w.alloc (.deferred (some []))) (.loop (rec .ready none)); rwa [World.size_alloc] at this
  have hK1 : W1.heap[w.heap.size]? = some (.deferred (some [])) := by
    rw [← hW1]; exact (Below.heap_alloc _ _ _ (by simp)).trans (World.alloc_heap_new w _)
  have hI1 : I [] W1 := by rw [← hW1]; exact hI.alloc _ (hI.alloc _ h0)
  have hb1 : Below w0.heap.size w0 W1 := by
    rw [← hW1]; exact hb0.trans ((((Below.refl _ w).alloc (Nat.le_refl _) _).alloc (by simp) _).mono hb0.size)
  refine ⟨w.heap.size + 1, [{ target := .collected w.heap.size, args := #[] }], W1, { target := .fn (.func gf) lb, args := fb ++ #[.func (.yield (w.heap.size + 1)) #[] #[]] }, W1, gf,
    fb ++ #[.func (.yield (w.heap.size + 1)) #[] #[]] ++ lb, W1, ?_, ?_, ?_, ?_, fun _ => h1, ?_⟩
  · rw [← hW1, hrec]; exact run_enterLoop_outer _ _ _ _ _
  · simp only [resolve, hg]
    simp [go_sem]
  · intro f' hf'; trivial
  · simp [invoke, go_sem, eg]
  · have hnw : ∀ {A : World} {row : Option Nat}, (∀ r, row = some r → W1.heap.size ≤ r ∧ ∃ o : Obj, A.heap[r]? = some o ∧ o.isWalk = true) → (∀ r, row = some r → w.heap.size ≤ r ∧ ∃ o : Obj, A.heap[r]? = some o ∧ o.isCells = false) :=
      fun hr r e => by obtain ⟨hB, o, ho, hw⟩ := hr r e; exact ⟨by omega, o, ho, Obj.not_cells_of_walk hw⟩
    refine (hseq (w.heap.size + 1)
      (fun pre W => I pre W ∧ W.heap[w.heap.size + 1]? = some (.loop (rec .ready none)) ∧ W.heap[w.heap.size]? = some (.deferred (some [])))
      (fun pre W => ∃ c, Ix c pre W ∧ W.heap[w.heap.size + 1]? = some (.loop (rec .done (some c))) ∧ W.heap[w.heap.size]? = some (.deferred (some [])))
      W1 hb1
      (fun s A B row hs hg' hr => ⟨hI s A B row hs.1 hg' (hnw hr), (grownBy_keeps hg' (fun r e => (hr r e).2) hs.2.1 rfl).trans hs.2.1, (grownBy_keeps hg' (fun r e => (hr r e).2) hs.2.2 rfl).trans hs.2.2⟩)
      (fun s A B row hs hg' hr => by
        obtain ⟨c, hc, hl, hk⟩ := hs
        exact ⟨c, hIx c s A B row hc hg' (hnw hr), (grownBy_keeps hg' (fun r e => (hr r e).2) hl rfl).trans hl, (grownBy_keeps hg' (fun r e => (hr r e).2) hk rfl).trans hk⟩)
      ?_ ⟨hI1, hL1, hK1⟩).mono ?_
    · rintro pre x W ⟨hi, hl, hk⟩ hpr hlen
      have hlt : w.heap.size + 1 < W.heap.size := (Array.getElem?_eq_some_iff.1 hl).1
      have hy := run_yield (P := P) (args := encs x) hl (by rw [hrec]; exact hps x)
      rw [hrec] at hy
      refine ⟨fn, _, assign, body, hy, roundIn_of_wpIn hfn (hassign _ x W _ ?_)⟩
      clear hy
      refine ⟨_, run_beginRound hl (by rw [hrec]), ?_⟩
      have hl2 : (W.putObj (w.heap.size + 1) (.loop { rec .ready none with state := .busy })).heap[w.heap.size + 1]? = some (.loop { rec .ready none with state := .busy }) := World.putObj_heap_same hlt
      have hk2 : (W.putObj (w.heap.size + 1) (.loop { rec .ready none with state := .busy })).heap[w.heap.size]? = some (.deferred (some [])) := (World.putObj_heap_other (by omega)).trans hk
      have hw2 : Kp W1 W (W.putObj (w.heap.size + 1) (.loop { rec .ready none with state := .busy })) := hKr _ _ _ _ _ (by omega) (by omega) hl rfl
      refine wpIn_mono (hbody _ pre x W1 _ hS1 (hI.putObj _ hi (by omega) hl rfl) (hPr _ _ _ _ _ hl rfl hpr) hlen) ?_
      have fin : ∀ (jump : Option Code) (W3 : World), KeepsFrom w.heap.size (W.putObj (w.heap.size + 1) (.loop { rec .ready none with state := .busy })) W3 →
          (Instr.endRound (w.heap.size + 1) jump).run P W3 = .ok (.bool jump.isNone) (W3.putObj (w.heap.size + 1) (.loop (rec (if jump.isNone then .ready else .done) jump))) ∧
          W3.heap[w.heap.size + 1]? = some (.loop { rec .ready none with state := .busy }) ∧
          (W3.putObj (w.heap.size + 1) (.loop (rec (if jump.isNone then .ready else .done) jump))).heap[w.heap.size + 1]? = some (.loop (rec (if jump.isNone then .ready else .done) jump)) ∧
          (W3.putObj (w.heap.size + 1) (.loop (rec (if jump.isNone then .ready else .done) jump))).heap[w.heap.size]? = some (.deferred (some [])) := fun jump W3 hk3 => by
        have hl3 := hk3.same _ _ (by omega) hl2 rfl
        have := run_endRound (P := P) jump hl3
        rw [hrec] at this ⊢
        exact ⟨this, by rw [hrec] at hl3; exact hl3, World.putObj_heap_same (Array.getElem?_eq_some_iff.1 hl3).1, (World.putObj_heap_other (by omega)).trans (hk3.same _ _ (Nat.le_refl _) hk2 rfl)⟩
      rintro e a3 W3 hp
      cases e with
      | normal =>
        obtain ⟨hk3, hkp3, hi3⟩ := hp
        obtain ⟨hr, hl3, hl4, hk4⟩ := fin none W3 hk3
        exact ⟨_, _, hr, .inl ⟨rfl, ⟨hI.putObj _ hi3 (by omega) hl3 rfl, hl4, hk4⟩, hKt (hKt hw2 hkp3) (hKr _ _ _ _ _ (by omega) (by omega) hl3 rfl)⟩⟩
      | ret =>
        obtain ⟨hk3, hi3⟩ := hp
        obtain ⟨hr, hl3, hl4, hk4⟩ := fin (some .ret) W3 hk3
        exact ⟨_, _, hr, .inr ⟨rfl, .ret, (hIx _).putObj _ hi3 (by omega) hl3 rfl, hl4, hk4⟩⟩
      | exit id =>
        obtain ⟨hk3, hi3⟩ := hp
        obtain ⟨hr, hl3, hl4, hk4⟩ := fin (some (.exit id)) W3 hk3
        exact ⟨_, _, hr, .inr ⟨rfl, .exit id, (hIx _).putObj _ hi3 (by omega) hl3 rfl, hl4, hk4⟩⟩
      | goto t =>
        obtain ⟨hk3, hi3⟩ := hp
        obtain ⟨hr, hl3, hl4, hk4⟩ := fin (some (.goto t)) W3 hk3
        exact ⟨_, _, hr, .inr ⟨rfl, .goto t, (hIx _).putObj _ hi3 (by omega) hl3 rfl, hl4, hk4⟩⟩
      | panic ch => exact hp.elim
      | outgrown => exact hp.elim
    · rintro e W2 ⟨⟨v, rfl⟩, (⟨xs, hS, hi, hl, hk⟩ | ⟨pre, hSp, c, hi, hl, hk⟩)⟩
      · exact ⟨none, _, by have := run_endLoop (P := P) hl (by rw [hrec]; simp); rw [hrec] at this; exact this, hdone _ xs _ (Nat.le_refl _) hS (hI.putObj _ hi (by omega) hl rfl) ((World.putObj_heap_other (by omega)).trans hk)⟩
      · exact ⟨some c, _, by have := run_endLoop (P := P) hl (by rw [hrec]; simp); rw [hrec] at this; exact this, hstop _ c pre _ (Nat.le_refl _) hSp ((hIx c).putObj _ hi (by omega) hl rfl) ((World.putObj_heap_other (by omega)).trans hk)⟩

end Go.Proofs.YtbojmcopagbheaaGreatDoor
end

section
namespace Go.Proofs.YtbojmcopagbheaaGreatDoor
open Go.RowKit Go.Shelf
attribute [local go_sem] Oper.semAt_some undef

theorem roundIn_any {m m' : Nat} {P : Program} {l : Nat} {f : FuncId} {tmps : Array Value} {assign body : Code} {w : World} {R : Ending → World → Prop}
    (h : RoundIn Fence.wide m P l f tmps assign body w R) : RoundIn Fence.wide m' P l f tmps assign body w R := ⟨h.1, fun c cs _ => h.2 c cs (room_wide _)⟩

/-- From block B on, what was there is as it was. -/
structure Above (B : Nat) (w w' : World) : Prop where
  size : w.heap.size ≤ w'.heap.size
  block : ∀ k, B ≤ k → k < w.heap.size → w'.heap[k]? = w.heap[k]?
theorem Above.refl (B : Nat) (w : World) : Above B w w := ⟨Nat.le_refl _, fun _ _ _ => rfl⟩
theorem Above.trans {B : Nat} {a b c : World} (h : Above B a b) (k : Above B b c) : Above B a c :=
  ⟨Nat.le_trans h.size k.size, fun i hi h2 => (k.block i hi (Nat.lt_of_lt_of_le h2 h.size)).trans (h.block i hi h2)⟩
theorem Above.of_below {B : Nat} {a b : World} (h : Below a.heap.size a b) : Above B a b := ⟨h.size, fun k _ hk => h.block k hk⟩

/-- A slice at A reads as xs; its cells lie in blocks from B on. -/
def IntsAb (B : Nat) (w : World) (A : Option Addr) (xs : List Int) : Prop :=
  xs = [] ∨ ∃ b off, A = some ⟨b, off, none⟩ ∧ B ≤ b ∧ b < w.heap.size ∧ ∀ j, j < xs.length → w.cell? ⟨b, off + j, none⟩ = some (.int .i64 (xs.getD j 0))
theorem IntsAb.ints {B : Nat} {w : World} {A : Option Addr} {xs : List Int} (h : IntsAb B w A xs) : IntsIn w.heap.size w A xs := by
  rcases h with h | ⟨b, off, hA, _, hb, hc⟩
  · exact .inl h
  · exact .inr ⟨b, off, hA, hb, hc⟩
theorem IntsAb.above {B : Nat} {w w' : World} {A : Option Addr} {xs : List Int} (h : IntsAb B w A xs) (hk : Above B w w') : IntsAb B w' A xs := by
  rcases h with h | ⟨b, off, hA, hB, hb, hc⟩
  · exact .inl h
  · exact .inr ⟨b, off, hA, hB, Nat.lt_of_lt_of_le hb hk.size, fun j hj => (World.cell?_of_block (w := w) (hk.block b hB hb)).trans (hc j hj)⟩
theorem intsAb_of_own {w : World} {base : Nat} {e : TypeId} {n c : Nat} {A : Option Addr} {xs : List Int} (h : w.ownsRow base e 1 (.slice A n c) n (xs.map (Value.int .i64))) : IntsAb base w A xs := by
  rcases intsIn_of_own h with h1 | ⟨b, off, hA, hb, hc⟩
  · exact .inl h1
  · exact .inr ⟨b, off, hA, by have := h.lt b (by rw [hA]; rfl); exact this.1, hb, hc⟩

/-- The number that stands last is nearer to i than the overlap. -/
def nearB (xs : List Int) (overlap i : Int) : Bool := decide (0 < xs.length) && decide (sizeV (i - xs.getD (xs.length - 1) 0) < overlap)

/-- All stacks that overlap and begin with xs; d more offsets are wanted. -/
def stacksV (count : Nat) (overlap : Int) : Nat → List Int → List (List Int)
  | 0, xs => if (checkStackV xs overlap).2 = 0 then [xs] else []
  | d + 1, xs => (List.range count).flatMap fun (i : Nat) => if hasB xs (i : Int) || nearB xs overlap (i : Int) then [] else stacksV count overlap d (xs ++ [(i : Int)])

def stacksUpto (count : Nat) (overlap : Int) (d : Nat) (xs : List Int) (k : Nat) : List (List Int) :=
  (List.range k).flatMap fun (i : Nat) => if hasB xs (i : Int) || nearB xs overlap (i : Int) then [] else stacksV count overlap d (xs ++ [(i : Int)])
theorem stacksUpto_succ (count : Nat) (overlap : Int) (d : Nat) (xs : List Int) (k : Nat) :
    stacksUpto count overlap d xs (k + 1) = stacksUpto count overlap d xs k ++ (if hasB xs (k : Int) || nearB xs overlap k then [] else stacksV count overlap d (xs ++ [(k : Int)])) := by
  unfold stacksUpto
  rw [List.range_succ, List.flatMap_append]
  simp

theorem stacksUpto_prefix (count : Nat) (overlap : Int) (d : Nat) (xs : List Int) : ∀ {k m : Nat}, k ≤ m → stacksUpto count overlap d xs k <+: stacksUpto count overlap d xs m
  | k, 0, h => by obtain rfl : k = 0 := by omega
                  exact List.prefix_refl _
  | k, m + 1, h => by
    rcases Nat.lt_or_ge k (m + 1) with h' | h'
    · exact (stacksUpto_prefix count overlap d xs (k := k) (m := m) (by omega)).trans (by rw [stacksUpto_succ]; exact List.prefix_append _ _)
    · obtain rfl : k = m + 1 := by omega
      exact List.prefix_refl _

/-- What a round is handed: where the slice lies, its capacity, its numbers. -/
abbrev Stk := (Option Addr × Nat) × List Int

/-- What the iterator comes to: all have come, or a part of them, a round having said no more. -/
def ExtPost (B0 : Nat) (J Jx : List Stk → World → Prop) (pre : List Stk) (l : List (List Int)) (W : World) (e : Ending) (W' : World) : Prop :=
  (e = .returned (.bool true) ∧ (∃ q : List Stk, q.map (·.2) = l ∧ J (pre ++ q) W') ∧ Above B0 W W') ∨
  (e = .returned (.bool false) ∧ ∃ q : List Stk, q ≠ [] ∧ q.map (·.2) <+: l ∧ Jx (pre ++ q) W')

theorem IntsAb.mono {B B' : Nat} {w : World} {A : Option Addr} {xs : List Int} (h : IntsAb B w A xs) (hB : B' ≤ B) : IntsAb B' w A xs := by
  rcases h with h | ⟨b, off, hA, hb, r⟩
  · exact .inl h
  · exact .inr ⟨b, off, hA, by omega, r⟩
theorem ext_count {pre q : List Stk} {U U' V F : List (List Int)} {N : Nat} (hq : q.map (·.2) = U) (hG : U' = U ++ V) (hp : U' <+: F) (hN : pre.length + F.length ≤ N) : (pre ++ q).length + V.length ≤ N := by
  have h1 : q.length = U.length := by rw [← hq]; simp
  have h2 := hp.length_le
  rw [hG] at h2
  simp only [List.length_append] at h2 ⊢
  omega
theorem ext_prefix {q q2 : List Stk} {U U' V F : List (List Int)} (hq : q.map (·.2) = U) (hG : U' = U ++ V) (hp : U' <+: F) (h2 : q2.map (·.2) <+: V) : (q ++ q2).map (·.2) <+: F := by
  rw [List.map_append, hq]
  refine List.IsPrefix.trans ?_ hp
  rw [hG]
  exact (List.prefix_append_right_inj _).2 h2
theorem getD_snoc {xs : List Int} {y : Int} (h0 : 0 ≤ y) (h8 : y ≤ 8) (h : ∀ j, j < xs.length → 0 ≤ xs.getD j 0 ∧ xs.getD j 0 ≤ 8) : ∀ j, j < (xs ++ [y]).length → 0 ≤ (xs ++ [y]).getD j 0 ∧ (xs ++ [y]).getD j 0 ≤ 8 := by
  intro j hj
  rcases Nat.lt_or_ge j xs.length with h' | h'
  · have := h j h'
    simpa [List.getD, List.getElem?_append_left h'] using this
  · have e : j = xs.length := by simp at hj; omega
    subst e
    simp [List.getD]
    omega

set_option maxRecDepth 100000 in
set_option maxHeartbeats 2000000 in
theorem extended_any (count : Nat) (overlap : Int) (hcount : count ≤ 8) (l B0 N m : Nat) (J Jx : List Stk → World → Prop) (hJ : AbidesFrom B0 J)
    (hY : ∀ pre (x : Stk) W, J pre W → B0 ≤ W.heap.size → IntsAb B0 W x.1.1 x.2 ∧ x.2.length = count ∧ count ≤ x.1.2 → pre.length < N →
      YieldAt Fence.wide m Tryz.prog l #[.slice x.1.1 count x.1.2] W fun e W' => (e = .returned (.bool true) ∧ J (pre ++ [x]) W' ∧ Above B0 W W') ∨ (e = .returned (.bool false) ∧ Jx (pre ++ [x]) W')) :
    ∀ (d : Nat) (xs : List Int) (A : Option Addr) (n c k : Nat) (pre : List Stk) (W : World), xs.length = n → n + d = count → n ≤ c → J pre W → B0 ≤ W.heap.size → IntsAb B0 W A xs → pre.length + (stacksV count overlap d xs).length ≤ N → (∀ j, j < xs.length → 0 ≤ xs.getD j 0 ∧ xs.getD j 0 ≤ 8) →
      CallsIn Fence.wide k Tryz.prog 127 #[.slice A n c, .int .i64 (count : Int), .int .i64 overlap, .func (.yield l) #[] #[]] W (ExtPost B0 J Jx pre (stacksV count overlap d xs) W) := by
  intro d
  induction d with
  | zero =>
    intro xs A n c k pre W hn hd hc hj hB hr hN hb
    obtain rfl : n = count := by omega
    subst hn
    have hck := checkStack_any W.heap.size A c xs overlap W hr.ints (Nat.le_refl _) (by omega) hc
    by_cases h0 : (checkStackV xs overlap).2 = 0
    · have hs : stacksV xs.length overlap 0 xs = [xs] := by simp [stacksV, h0]
      have HS := Lib.hid hs
      have HR := Lib.hid hr
      have hlt : pre.length < N := by rw [hs] at hN; simp at hN; omega
      clear hs hN hb hr
      have HY := Lib.hid hY
      clear hY
      refine callsIn_of_wp Tryz.func127 rfl trivial ?_ rfl
      simp only [undef, Tryz.ntmps127, List.size_toArray, List.length_cons, List.length_nil, Nat.reduceAdd, Nat.reduceSub, Array.replicate_succ, Array.replicate_zero, List.push_toArray, List.append_toArray, List.nil_append, List.cons_append]
      gi_wp2_with (refine ⟨trivial, (fun h => nomatch h), ?_⟩; gi_at_call 145; refine (callsIn_wide.2 hck).mono ?_; rintro e w1 ⟨rfl, hb⟩; have hj1 := hJ pre W w1 none hj ⟨hb.os, hb.tape, hb.output, hb.size, fun i hi _ => hb.block i hi⟩ (fun r e => by cases e); obtain ⟨fn, tmps, assign, body, hy, hR⟩ := HY.out pre ((A, c), xs) w1 hj1 (Nat.le_trans hB hb.size) ⟨HR.out.above (Above.of_below hb), rfl, hc⟩ hlt; dsimp only at hy)
      refine ⟨(fun h => nomatch h), (roundIn_any hR).mono ?_⟩
      rintro e W3 (⟨rfl, hJ3, hk3⟩ | ⟨rfl, hJx3⟩)
      · gi_wp2
        go_ret
        exact .inl ⟨rfl, ⟨[((A, c), xs)], by rw [HS.out]; rfl, hJ3⟩, (Above.of_below hb).trans hk3⟩
      · gi_wp2
        go_ret
        exact .inr ⟨rfl, [((A, c), xs)], by simp, by rw [HS.out]; exact ⟨[], by simp⟩, hJx3⟩
    · have h00 : ((checkStackV xs overlap).2 == 0) = false := by simpa using h0
      have hpost : ∀ W', Below W.heap.size W W' → ExtPost B0 J Jx pre (stacksV xs.length overlap 0 xs) W (.returned (.bool true)) W' := fun W' hw =>
        .inl ⟨rfl, ⟨[], by simp [stacksV, h0], by simpa using hJ pre W W' none hj ⟨hw.os, hw.tape, hw.output, hw.size, fun i hi _ => hw.block i hi⟩ (fun r e => by cases e)⟩, Above.of_below hw⟩
      have HP := Lib.hid hpost
      clear hpost h0 hj hN hr hb
      refine callsIn_of_wp Tryz.func127 rfl trivial ?_ rfl
      simp only [undef, Tryz.ntmps127, List.size_toArray, List.length_cons, List.length_nil, Nat.reduceAdd, Nat.reduceSub, Array.replicate_succ, Array.replicate_zero, List.push_toArray, List.append_toArray, List.nil_append, List.cons_append]
      gi_wp2_with (refine ⟨trivial, (fun h => nomatch h), ?_⟩; gi_at_call 145; refine (callsIn_wide.2 hck).mono ?_; rintro e w1 ⟨rfl, hb⟩)
      go_ret
      exact HP.out _ hb
  | succ d ih =>
    intro xs A n c k pre W hn hd hc hj hB hr hN hb
    obtain ⟨i0, hi0, hz0, hz1, hz2⟩ := info_parts int_info
    have hne : ((n : Int) == (count : Int)) = false := by
      have : ¬ (n : Int) = (count : Int) := by omega
      simpa using this
    have hfull : stacksV count overlap (d + 1) xs = stacksUpto count overlap d xs count := rfl
    have HFull := Lib.hid hfull
    have HN := Lib.hid hN
    have HR := Lib.hid hr
    have HB := Lib.hid hb
    have HJ := Lib.hid hJ
    have IH := Lib.hid ih
    have HX := Lib.hid hn
    have HD := Lib.hid hd
    have hn8 : n < count := by omega
    clear hfull hN hr hb ih hY hn hd
    refine callsIn_of_wp Tryz.func127 rfl trivial ?_ rfl
    simp only [undef, Tryz.ntmps127, List.size_toArray, List.length_cons, List.length_nil, Nat.reduceAdd, Nat.reduceSub, Array.replicate_succ, Array.replicate_zero, List.push_toArray, List.append_toArray, List.nil_append, List.cons_append]
    gi_wp2
    gi_loopw [28] (fun i wr => ∃ (j : Nat) (q : List Stk), j ≤ count ∧ i = .int .i64 (j : Int) ∧ q.map (·.2) = stacksUpto count overlap d xs j ∧ J (pre ++ q) wr ∧ Above B0 W wr) (fun i _ => count - (intOf i).toNat)
    case atStart => exact ⟨0, [], Nat.zero_le _, rfl, rfl, by simpa using hj, Above.refl _ _⟩
    case round =>
      obtain ⟨j, q, hjc, rfl, hq, hjq, hab⟩ := hrel
      clear hj
      have hB2 := Nat.le_trans hB hab.size
      have HR2 := Lib.hid (HR.out.above hab)
      have HQ := Lib.hid hq
      clear hq
      by_cases hlt : j < count
      · have HG := Lib.hid (stacksUpto_succ count overlap d xs j)
        have hcase : hasB xs (j : Int) = true ∨ (hasB xs (j : Int) = false ∧ 0 < n ∧ sizeV ((j : Int) - xs.getD (n - 1) 0) < overlap) ∨ (hasB xs (j : Int) = false ∧ 0 < n ∧ ¬ sizeV ((j : Int) - xs.getD (n - 1) 0) < overlap) ∨ (hasB xs (j : Int) = false ∧ n = 0) := by
          cases hasB xs (j : Int)
          · by_cases h1 : 0 < n
            · by_cases h2 : sizeV ((j : Int) - xs.getD (n - 1) 0) < overlap
              · exact .inr (.inl ⟨rfl, h1, h2⟩)
              · exact .inr (.inr (.inl ⟨rfl, h1, h2⟩))
            · exact .inr (.inr (.inr ⟨rfl, by omega⟩))
          · exact .inl rfl
        have hcont := contains_n n wr.heap.size A c xs (j : Int) wr HR2.out.ints HX.out (by omega)
        rcases hcase with hh | ⟨hh, h1, h2⟩ | ⟨hh, h1, h2⟩ | ⟨hh, h1⟩
        · have HG2 := Lib.hid (show stacksUpto count overlap d xs (j + 1) = stacksUpto count overlap d xs j by rw [HG.out, hh]; simp)
          gi_wp2_with (first | (refine ⟨trivial, (fun h => nomatch h), ?_⟩; gi_at_call 146; refine (callsIn_wide.2 hcont).mono ?_; rintro e w1 ⟨rfl, rfl⟩) | (refine ⟨(trivial : Fence.wide.fn 147), ?_⟩; fail_if_success (refine ⟨(fun h => nomatch h), ?_⟩)))
          go_roundw
          case rel => exact ⟨j + 1, q, by omega, by go_num, by rw [HG2.out]; exact HQ.out, hjq, hab⟩
          case measure => simp [intOf]; omega
        · have hnear : nearB xs overlap (j : Int) = true := by simp only [nearB, HX.out]; simp; exact ⟨h1, h2⟩
          have HG2 := Lib.hid (show stacksUpto count overlap d xs (j + 1) = stacksUpto count overlap d xs j by rw [HG.out, hnear]; simp)
          clear hnear
          rcases HR2.out with hx | ⟨b, off, hA, hb1, hb2, hcell⟩
          · exfalso; have := HX.out; rw [hx] at this; simp at this; omega
          · subst hA
            have hc1 := hcell (n - 1) (by rw [HX.out]; omega)
            have hbd := HB.out (n - 1) (by rw [HX.out]; omega)
            have q0 : (0 : Int) ≤ (n : Int) - 1 := by omega
            have q1 : (1 : Int) ≤ (n : Int) := by omega
            have q2 : ((n : Int) - 1).toNat = n - 1 := by omega
            have q3 : (n : Int) ≤ 8 := by omega
            have q4 : (0 : Int) < (n : Int) := by omega
            clear hcell
            generalize xs.getD (n - 1) 0 = y at *
            gi_wp2_with (first | (refine ⟨trivial, (fun h => nomatch h), ?_⟩; gi_at_call 146; refine (callsIn_wide.2 hcont).mono ?_; rintro e w1 ⟨rfl, rfl⟩) | (refine ⟨trivial, (fun h => nomatch h), ?_⟩; gi_at_call 147; refine (callsIn_wide.2 (size_any _ _ (by omega) (by omega))).mono ?_; rintro e w1 ⟨rfl, rfl⟩))
            go_roundw
            case rel => exact ⟨j + 1, q, by omega, by go_num, by rw [HG2.out]; exact HQ.out, hjq, hab⟩
            case measure => simp [intOf]; omega
        · have hnear : nearB xs overlap (j : Int) = false := by simp only [nearB, HX.out, decide_eq_false h2, Bool.and_false]
          have hclone := clone_any wr.heap.size A n c xs wr HR2.out.ints HX.out (Nat.le_refl _) (by omega)
          rcases HR2.out with hx | ⟨b, off, hA, hb1, hb2, hcell⟩
          · exfalso; have := HX.out; rw [hx] at this; simp at this; omega
          · subst hA
            have hc1 := hcell (n - 1) (by rw [HX.out]; omega)
            have hbd := HB.out (n - 1) (by rw [HX.out]; omega)
            have q0 : (0 : Int) ≤ (n : Int) - 1 := by omega
            have q1 : (1 : Int) ≤ (n : Int) := by omega
            have q2 : ((n : Int) - 1).toNat = n - 1 := by omega
            have q3 : (n : Int) ≤ 8 := by omega
            have q4 : (0 : Int) < (n : Int) := by omega
            clear hcell
            have HG2 := Lib.hid (show stacksUpto count overlap d xs (j + 1) = stacksUpto count overlap d xs j ++ stacksV count overlap d (xs ++ [(j : Int)]) by rw [HG.out, hh, hnear]; rfl)
            clear hnear
            generalize xs.getD (n - 1) 0 = y at *
            gi_wp2_with (first | (refine ⟨trivial, (fun h => nomatch h), ?_⟩; gi_at_call 146; refine (callsIn_wide.2 hcont).mono ?_; rintro e w1 ⟨rfl, rfl⟩) | (refine ⟨trivial, (fun h => nomatch h), ?_⟩; gi_at_call 147; refine (callsIn_wide.2 (size_any _ _ (by omega) (by omega))).mono ?_; rintro e w1 ⟨rfl, rfl⟩) | (refine ⟨(trivial : Fence.wide.fn 147), ?_⟩; fail_if_success (refine ⟨(fun h => nomatch h), ?_⟩)) | (refine ⟨trivial, (fun h => nomatch h), ?_⟩; gi_at_call 98; refine (callsIn_wide.2 hclone).mono ?_; rintro e w2 ⟨v2, rfl, hown, hbw⟩; obtain ⟨A2, c2, rfl, hc2, hm2⟩ := own_form hown; rw [HX.out] at hown hc2; rw [HX.out]) | (gi_at_builtin; go_must (refine wpListIn_append_own_at (w := w2.alloc (.cells #[.int .i64 (j : Int)] 3)) rfl (.tmp 53) (.tmp 55) _ rfl wr.heap.size 3 i0 _ 1 8 Tryz.underlying32 hi0 hz0 hz1 hz2 rfl (by omega) _ n _ rfl (hown.alloc _) ⟨w2.heap.size, 0, none⟩ 1 1 [.int .i64 (j : Int)] rfl rfl (cell_one_new _ _ _) (by simp [Value.oneCell']) (by simp only [maxLen]; omega) (by omega) (by have := hbw.size; simp; omega) ?_); intro v3 w3 hown3 hg3 _ hat3; obtain ⟨A3, c3, rfl, hc3, hm3⟩ := own_form hown3))
            have hbel := pg (pa hbw) (hown.alloc _) (Nat.le_refl _) hg3
            have hrec := IH.out (xs ++ [(j : Int)]) A3 (n + 1) c3 (k - 1) (pre ++ q) w3 (by simp [HX.out]) (by have := HD.out; omega) hc3 (HJ.out _ _ _ none hjq ⟨hbel.os, hbel.tape, hbel.output, hbel.size, fun i hi _ => hbel.block i hi⟩ (fun r e => by cases e)) (Nat.le_trans hB2 hbel.size) ((intsAb_of_own (by simpa using hown3)).mono hB2)
              (ext_count HQ.out HG2.out (by rw [HFull.out]; exact stacksUpto_prefix count overlap d xs (by omega)) HN.out) (getD_snoc (by omega) (by omega) HB.out)
            refine ⟨trivial, (fun h => nomatch h), hrec.mono ?_⟩
            rintro e W4 (⟨rfl, ⟨q2, hq2, hJ4⟩, hab4⟩ | ⟨rfl, q2, hne2, hq2, hJ4⟩)
            · have HQ2 := Lib.hid hq2
              clear hq2
              gi_wp2
              go_roundw
              case rel => exact ⟨j + 1, q ++ q2, by omega, by go_num, by rw [HG2.out, List.map_append, HQ.out, HQ2.out], by rw [← List.append_assoc]; exact hJ4, hab.trans ((Above.of_below hbel).trans hab4)⟩
              case measure => simp [intOf]; omega
            · gi_wp2
              go_ret
              exact .inr ⟨rfl, q ++ q2, by simp [hne2], ext_prefix HQ.out HG2.out (by rw [HFull.out]; exact stacksUpto_prefix count overlap d xs (by omega)) hq2, by rw [← List.append_assoc]; exact hJ4⟩
        · have hnear : nearB xs overlap (j : Int) = false := by simp only [nearB, HX.out, h1]; simp
          have hclone := clone_any wr.heap.size A n c xs wr HR2.out.ints HX.out (Nat.le_refl _) (by omega)
          have q4 : decide ((0 : Int) < (n : Int)) = false := by simp; omega
          have q5 : n ≤ 0 := by omega
          clear h1
          have HG2 := Lib.hid (show stacksUpto count overlap d xs (j + 1) = stacksUpto count overlap d xs j ++ stacksV count overlap d (xs ++ [(j : Int)]) by rw [HG.out, hh, hnear]; rfl)
          clear hnear
          gi_wp2_with (first | (refine ⟨trivial, (fun h => nomatch h), ?_⟩; gi_at_call 146; refine (callsIn_wide.2 hcont).mono ?_; rintro e w1 ⟨rfl, rfl⟩) | (refine ⟨trivial, (fun h => nomatch h), ?_⟩; gi_at_call 147; refine (callsIn_wide.2 (size_any _ _ (by omega) (by omega))).mono ?_; rintro e w1 ⟨rfl, rfl⟩) | (refine ⟨(trivial : Fence.wide.fn 147), ?_⟩; fail_if_success (refine ⟨(fun h => nomatch h), ?_⟩)) | (refine ⟨trivial, (fun h => nomatch h), ?_⟩; gi_at_call 98; refine (callsIn_wide.2 hclone).mono ?_; rintro e w2 ⟨v2, rfl, hown, hbw⟩; obtain ⟨A2, c2, rfl, hc2, hm2⟩ := own_form hown; rw [HX.out] at hown hc2; rw [HX.out]) | (gi_at_builtin; go_must (refine wpListIn_append_own_at (w := w2.alloc (.cells #[.int .i64 (j : Int)] 3)) rfl (.tmp 53) (.tmp 55) _ rfl wr.heap.size 3 i0 _ 1 8 Tryz.underlying32 hi0 hz0 hz1 hz2 rfl (by omega) _ n _ rfl (hown.alloc _) ⟨w2.heap.size, 0, none⟩ 1 1 [.int .i64 (j : Int)] rfl rfl (cell_one_new _ _ _) (by simp [Value.oneCell']) (by simp only [maxLen]; omega) (by omega) (by have := hbw.size; simp; omega) ?_); intro v3 w3 hown3 hg3 _ hat3; obtain ⟨A3, c3, rfl, hc3, hm3⟩ := own_form hown3))
          have hbel := pg (pa hbw) (hown.alloc _) (Nat.le_refl _) hg3
          have hrec := IH.out (xs ++ [(j : Int)]) A3 (n + 1) c3 (k - 1) (pre ++ q) w3 (by simp [HX.out]) (by have := HD.out; omega) hc3 (HJ.out _ _ _ none hjq ⟨hbel.os, hbel.tape, hbel.output, hbel.size, fun i hi _ => hbel.block i hi⟩ (fun r e => by cases e)) (Nat.le_trans hB2 hbel.size) ((intsAb_of_own (by simpa using hown3)).mono hB2)
            (ext_count HQ.out HG2.out (by rw [HFull.out]; exact stacksUpto_prefix count overlap d xs (by omega)) HN.out) (getD_snoc (by omega) (by omega) HB.out)
          refine ⟨trivial, (fun h => nomatch h), hrec.mono ?_⟩
          rintro e W4 (⟨rfl, ⟨q2, hq2, hJ4⟩, hab4⟩ | ⟨rfl, q2, hne2, hq2, hJ4⟩)
          · have HQ2 := Lib.hid hq2
            clear hq2
            gi_wp2
            go_roundw
            case rel => exact ⟨j + 1, q ++ q2, by omega, by go_num, by rw [HG2.out, List.map_append, HQ.out, HQ2.out], by rw [← List.append_assoc]; exact hJ4, hab.trans ((Above.of_below hbel).trans hab4)⟩
            case measure => simp [intOf]; omega
          · gi_wp2
            go_ret
            exact .inr ⟨rfl, q ++ q2, by simp [hne2], ext_prefix HQ.out HG2.out (by rw [HFull.out]; exact stacksUpto_prefix count overlap d xs (by omega)) hq2, by rw [← List.append_assoc]; exact hJ4⟩
      · obtain rfl : j = count := by omega
        gi_wp2
        go_ret
        exact .inl ⟨rfl, ⟨q, by rw [HFull.out]; exact HQ.out, hjq⟩, hab⟩

end Go.Proofs.YtbojmcopagbheaaGreatDoor
end

section
namespace Go.Proofs.YtbojmcopagbheaaGreatDoor
open Go.RowKit
variable {P : Program}

/-- Only block b is other than it was, and it has as many cells. -/
structure Put (w W : World) (b : Nat) : Prop where
  size : W.heap.size = w.heap.size
  other : ∀ g, g ≠ b → W.heap[g]? = w.heap[g]?
  below : ∀ B, B ≤ b → Below B w W

theorem Blk.put {w W : World} {b g : Nat} {t : TypeId} {cs : Array Value} (h : Blk w g t cs) (hp : Put w W b) (hg : g ≠ b) : Blk W g t cs := (hp.other g hg).trans h
theorem pp {w a W : World} {b : Nat} (h : Below w.heap.size w a) (hp : Put a W b) (hb : w.heap.size ≤ b) : Below w.heap.size w W := h.trans (hp.below _ hb)

theorem put_setCells {b : Nat} {t : TypeId} : ∀ (vs : List Value) (o : Nat) (w : World) (cs : Array Value), Blk w b t cs → o + vs.length = cs.size →
    Put w (w.setCells b o vs) b ∧ Blk (w.setCells b o vs) b t (cs.toList.take o ++ vs).toArray
  | [], o, w, cs, h, hl => ⟨⟨rfl, fun _ _ => rfl, fun _ _ => Below.refl _ _⟩, by
    have : cs.toList.take o = cs.toList := List.take_of_length_le (by simp at hl ⊢; omega)
    simpa [World.setCells, this] using h⟩
  | v :: r, o, w, cs, h, hl => by
    rw [World.setCells]
    simp only [List.length_cons] at hl
    obtain ⟨hp, hb⟩ := put_setCells r (o + 1) (w.setCell ⟨b, o, none⟩ v) (cs.setIfInBounds o v) (h.set_ o v) (by simp; omega)
    refine ⟨⟨hp.size.trans (by simp), fun g hg => (hp.other g hg).trans (Below.heap_setCell w _ _ g hg), fun B hB => ((Below.refl B w).setCell (p := ⟨b, o, none⟩) hB v).trans (hp.below B hB)⟩, ?_⟩
    have ho : o < cs.toList.length := by simp; omega
    have he : (cs.setIfInBounds o v).toList.take (o + 1) ++ r = cs.toList.take o ++ v :: r := by
      rw [Array.toList_setIfInBounds, List.take_add_one, List.take_set_of_le (Nat.le_refl _), List.getElem?_set_self ho]
      simp
    rw [← he]; exact hb

theorem there_blk {w : World} {b : Nat} {t : TypeId} {cs : Array Value} (h : Blk w b t cs) {n : Nat} (hn : n ≤ cs.size) : w.there b 0 n := fun j hj =>
  ⟨by rw [Nat.zero_add, h.cell]; simp; omega, h.frozen _⟩
theorem range_blk {w : World} {b : Nat} {t : TypeId} {cs : Array Value} (h : Blk w b t cs) : w.rangeAt b 0 cs.toList := fun j v hv => by rw [Nat.zero_add, h.cell]; simpa using hv

/-- A whole block is read. -/
theorem load_blk {ops : Array Oper} {rest : List Oper} {a : Act} {w : World} {Q : Exit → Act → World → Prop} {dst : Option Tmp} {T ty : TypeId} {x : Operand} {pos : String} {af : Array Edge} {b : Nat} {t : TypeId} {cs : Array Value} {d : TypeDesc}
    (hB : Blk w b t cs) (hu : P.underlying T = some d) (hd : d.isRow = true) (hi : (P.info? T).map (·.size) = some cs.size) (hx : a.eval x = .pointer (some ⟨b, 0, none⟩))
    (h : wpList P ops Q rest (a.put dst (.agg cs)) w) : wpList P ops Q ({ dst := dst, op := .load T x, type := ty, pos := pos, after := af, guard := none } :: rest) a w :=
  wpList_load_mid rfl T x rfl b 0 hx cs.toList d (range_blk hB) hu hd (by simpa using hi) (by simpa using h)

/-- A whole block is written. -/
theorem store_blk {ops : Array Oper} {rest : List Oper} {a : Act} {w : World} {Q : Exit → Act → World → Prop} {dst : Option Tmp} {T ty : TypeId} {x y : Operand} {pos : String} {af : Array Edge} {b : Nat} {t : TypeId} {cs vs : Array Value}
    (hB : Blk w b t cs) (hn : cs.size = vs.size) (hi : (P.info? T).map (·.size) = some vs.size) (h1 : vs.all (·.oneCell') = true) (hx : a.eval x = .pointer (some ⟨b, 0, none⟩)) (hy : a.eval y = .agg vs)
    (h : ∀ W, Blk W b t vs → Put w W b → wpList P ops Q rest (a.put dst undef) W) : wpList P ops Q ({ dst := dst, op := .store T x y, type := ty, pos := pos, after := af, guard := none } :: rest) a w := by
  refine wpList_store_mid rfl T x y rfl b 0 vs hx hy (there_blk hB (by omega)) hi h1 ?_
  have hl : vs.toList.length = vs.size := by simp
  obtain ⟨hp, hb⟩ := put_setCells vs.toList 0 w cs hB (by omega)
  refine h _ ?_ hp
  simpa using hb


end Go.Proofs.YtbojmcopagbheaaGreatDoor
end

section
namespace Go.Proofs.YtbojmcopagbheaaGreatDoor
open Go.RowKit
variable {P : Program}

theorem put_sub {b : Nat} {t : TypeId} : ∀ (vs : List Value) (o : Nat) (w : World) (cs : Array Value), Blk w b t cs → o + vs.length ≤ cs.size →
    Put w (w.setCells b o vs) b ∧ Blk (w.setCells b o vs) b t (cs.toList.take o ++ vs ++ cs.toList.drop (o + vs.length)).toArray
  | [], o, w, cs, h, hl => ⟨⟨rfl, fun _ _ => rfl, fun _ _ => Below.refl _ _⟩, by
    simpa [World.setCells] using h⟩
  | v :: r, o, w, cs, h, hl => by
    rw [World.setCells]
    simp only [List.length_cons] at hl
    obtain ⟨hp, hb⟩ := put_sub r (o + 1) (w.setCell ⟨b, o, none⟩ v) (cs.setIfInBounds o v) (h.set_ o v) (by simp; omega)
    refine ⟨⟨hp.size.trans (by simp), fun g hg => (hp.other g hg).trans (Below.heap_setCell w _ _ g hg), fun B hB => ((Below.refl B w).setCell (p := ⟨b, o, none⟩) hB v).trans (hp.below B hB)⟩, ?_⟩
    have ho : o < cs.toList.length := by simp; omega
    have he : (cs.setIfInBounds o v).toList.take (o + 1) ++ r ++ (cs.setIfInBounds o v).toList.drop (o + 1 + r.length) = cs.toList.take o ++ v :: r ++ cs.toList.drop (o + (r.length + 1)) := by
      rw [Array.toList_setIfInBounds, List.take_add_one, List.take_set_of_le (Nat.le_refl _), List.getElem?_set_self ho, List.drop_set_of_lt (by omega)]
      simp [Nat.add_comm, Nat.add_left_comm]
    rw [List.length_cons, ← he]; exact hb

theorem there_sub {w : World} {b o : Nat} {t : TypeId} {cs : Array Value} (h : Blk w b t cs) {n : Nat} (hn : o + n ≤ cs.size) : w.there b o n := fun j hj =>
  ⟨by rw [h.cell]; simp; omega, h.frozen _⟩

theorem run_storeVar_sub (w : World) (b o : Nat) (ty : TypeId) (v : Value) (cells : Array Value) (hv : v.cells = cells) (ht : w.there b o cells.size) (hi : (P.info? ty).map (·.size) = some cells.size) (h1 : cells.all (·.oneCell') = true) :
    (storeVar ty ⟨b, o, none⟩ v).run P w = .ok () (w.setCells b o cells.toList) := by
  have := run_storeCells_cells (P := P) b o cells.toList 0 w (fun j hj => by simpa using (ht j (by simpa using hj)).1) (fun j hj => by simpa using (ht j (by simpa using hj)).2)
    (fun v hv => (Array.all_eq_true_iff_forall_mem.1 h1) v (by simpa using hv))
  cases hq : P.info? ty with
  | none => simp [hq] at hi
  | some i =>
    have hs : cells.size = i.size := by simp [hq] at hi; omega
    simp only [Nat.add_zero] at this
    simp [storeVar, sizeOf, typeInfo, hq, hv, hs, this]

theorem store_sub {ops : Array Oper} {rest : List Oper} {a : Act} {w : World} {Q : Exit → Act → World → Prop} {dst : Option Tmp} {T ty : TypeId} {x y : Operand} {pos : String} {af : Array Edge} {b o : Nat} {t : TypeId} {cs cs' vs : Array Value}
    (hB : Blk w b t cs) (hx : a.eval x = .pointer (some ⟨b, o, none⟩)) (hy : (a.eval y).cells = vs) (hc : cs' = (cs.toList.take o ++ vs.toList ++ cs.toList.drop (o + vs.size)).toArray) (hn : o + vs.size ≤ cs.size) (hi : (P.info? T).map (·.size) = some vs.size) (h1 : vs.all (·.oneCell') = true)
    (h : ∀ W, Blk W b t cs' → Put w W b → wpList P ops Q rest (a.put dst undef) W) : wpList P ops Q ({ dst := dst, op := .store T x y, type := ty, pos := pos, after := af, guard := none } :: rest) a w := by
  refine wpList_plain rfl fun _ hK => ?_
  unfold Oper.wp execOp
  have ht : w.there b o vs.size := there_sub hB hn
  simp only [hx, Instr.storeAt, Instr.sureAddr, Sem.run_bind, Sem.run_pure, Result.andThen_ok, run_storeVar_sub w b o T (a.eval y) vs hy ht hi h1]
  obtain ⟨hp, hb⟩ := put_sub vs.toList o w cs hB (by simpa using hn)
  exact hK _ _ (h _ (by rw [hc]; simpa using hb) hp)

/-- A part of a block is read. -/
theorem load_sub {ops : Array Oper} {rest : List Oper} {a : Act} {w : World} {Q : Exit → Act → World → Prop} {dst : Option Tmp} {T ty : TypeId} {x : Operand} {pos : String} {af : Array Edge} {b o : Nat} {t : TypeId} {cs vs : Array Value} {d : TypeDesc}
    (hB : Blk w b t cs) (hx : a.eval x = .pointer (some ⟨b, o, none⟩)) (hv : vs.toList = (cs.toList.drop o).take vs.size) (hu : P.underlying T = some d) (hd : d.isRow = true) (hi : (P.info? T).map (·.size) = some vs.size)
    (h : wpList P ops Q rest (a.put dst (.agg vs)) w) : wpList P ops Q ({ dst := dst, op := .load T x, type := ty, pos := pos, after := af, guard := none } :: rest) a w :=
  wpList_load_mid rfl T x rfl b o hx vs.toList d (fun j v hj => by
    rw [hv] at hj
    rw [hB.cell]
    have hlt : j < vs.size := by
      have := (List.getElem?_eq_some_iff.1 hj).1
      simp only [List.length_take] at this
      omega
    rw [List.getElem?_take_of_lt hlt, List.getElem?_drop] at hj
    simpa using hj) hu hd (by simpa using hi) (by simpa using h)

end Go.Proofs.YtbojmcopagbheaaGreatDoor
end
