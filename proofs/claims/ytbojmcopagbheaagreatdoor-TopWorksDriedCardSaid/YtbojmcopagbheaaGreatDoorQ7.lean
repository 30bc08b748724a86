/- Contracts: the iterator over all stacks that overlap; the first one; the number of all.
Contract: the number of all stacks that overlap (works.StacksOf). -/
import Derived.Test.YtbojmcopagbheaaGreatDoorQ4

section
namespace Go.Proofs.YtbojmcopagbheaaGreatDoor
open Go.RowKit Go.Shelf
attribute [local go_sem] Oper.semAt_some

theorem own_blk {β : Type} (B g : Nat) (t : TypeId) (cs : Array Value) : OwnFrom B (fun (_ : β) W => Blk W g t cs) := fun _ W W' row hs hg hr =>
  hs.grown hg (fun e => by
    obtain ⟨_, o, ho, hc⟩ := hr g e.symm
    rw [show W.heap[g]? = _ from hs] at ho
    cases ho
    cases hc)
theorem own_ints {β : Type} (B B' : Nat) (A : Option Addr) (xs : List Int) : OwnFrom B (fun (_ : β) W => IntsAb B' W A xs) := fun _ W W' row hs hg hr => by
  rcases hs with h | ⟨b, off, hA, hB, hb, hc⟩
  · exact .inl h
  · exact .inr ⟨b, off, hA, hB, Nat.lt_of_lt_of_le hb hg.size, fun j hj => cell_kept (hc j hj) hg (fun r e => (hr r e).2)⟩
theorem IntsAb.far {B : Nat} {w : World} {A : Option Addr} {xs : List Int} (h : IntsAb B w A xs) {p : Addr} (hp : p.block < B) {u : Value} : IntsAb B (w.setCell p u) A xs := by
  rcases h with h | ⟨b, off, hA, hB, hb, hc⟩
  · exact .inl h
  · exact .inr ⟨b, off, hA, hB, by simpa [World.setCell] using hb, fun j hj => (World.cell?_setCell_other w p _ u (fun e => by subst e; simp at hp; omega)).trans (hc j hj)⟩

theorem Blk.putObj {w : World} {g D : Nat} {t : TypeId} {cs : Array Value} (h : Blk w g t cs) (hne : g ≠ D) {o : Obj} : Blk (w.putObj D o) g t cs := (World.putObj_heap_other hne).trans h

def stackEnc (count : Nat) (x : Stk) : Array Value := #[.slice x.1.1 count x.1.2]
def StackPr (B count : Nat) (x : Stk) (W : World) : Prop := IntsAb B W x.1.1 x.2 ∧ x.2.length = count ∧ count ≤ x.1.2

set_option maxRecDepth 100000 in
set_option maxHeartbeats 1000000 in
theorem stacks_seq (n count : Nat) (overlap : Int) (hcount : count ≤ 8) (b1 b2 : Nat) (w0 : World) (h1 : b1 < w0.heap.size) (h2 : b2 < w0.heap.size) (c1 : w0.cell? ⟨b1, 0, none⟩ = some (.int .i64 (count : Int))) (c2 : w0.cell? ⟨b2, 0, none⟩ = some (.int .i64 overlap)) :
    SeqP n Tryz.prog 126 #[] #[.pointer (some ⟨b1, 0, none⟩), .pointer (some ⟨b2, 0, none⟩)] (stackEnc count) (StackPr w0.heap.size count) (fun W0 => Above W0.heap.size)
      (fun xs => xs.map (·.2) = stacksV count overlap count []) (fun pre => pre ≠ [] ∧ pre.map (·.2) <+: stacksV count overlap count []) (stacksV count overlap count []).length w0 := by
  intro l J Jx W hW hJ hJx hY h0
  have d1 := ((bcell hW).1 b1 0 h1).trans c1
  have d2 := ((bcell hW).1 b2 0 h2).trans c2
  have hext := fun k => extended_any count overlap hcount l W.heap.size (stacksV count overlap count []).length (n - 1) J Jx hJ (fun pre x W1 hj hB hpr hlt => hY pre x W1 hj ⟨hpr.1.mono hW.size, hpr.2⟩ hlt) count [] none 0 0 k [] W rfl (by omega) (Nat.le_refl _) h0 (Nat.le_refl _) (.inl rfl) (by simp) (by simp)
  have HE := Lib.hid hext
  clear hext hY hJ hJx h0 hW c1 c2
  refine callsIn_of_wp Tryz.func126 rfl trivial ?_ rfl
  simp only [Tryz.ntmps126, List.size_toArray, List.length_cons, List.length_nil, Nat.reduceAdd, Nat.reduceSub, Array.replicate_succ, Array.replicate_zero, List.push_toArray, List.append_toArray, List.nil_append, List.cons_append]
  gi_wp2_with (refine ⟨trivial, (fun h => nomatch h), ?_⟩; gi_at_call 127; refine (HE.out _).mono ?_; rintro e W4 (⟨rfl, ⟨q, hq, hJ4⟩, hab⟩ | ⟨rfl, q, hne, hq, hJ4⟩))
  · gi_wp2
    go_end0
    exact ⟨⟨_, rfl⟩, .inl ⟨q, hq, hJ4⟩⟩
  · gi_wp2
    go_end0
    exact ⟨⟨_, rfl⟩, .inr ⟨q, ⟨hne, hq⟩, hJ4⟩⟩

theorem stacks_any (count overlap : Int) (w : World) :
    Calls Tryz.prog 110 #[.int .i64 count, .int .i64 overlap] w fun e w' =>
      e = .returned (.func (.func 126) #[] #[.pointer (some ⟨w.heap.size, 0, none⟩), .pointer (some ⟨w.heap.size + 1, 0, none⟩)]) ∧ w' = (w.alloc (.cells #[.int .i64 count] 3)).alloc (.cells #[.int .i64 overlap] 3) := by
  go_enter Tryz.func110, Tryz.ntmps110
  go_wp2
  go_ret
  exact ⟨rfl, rfl⟩

/-- The first stack, or nil and ErrNone. -/
def stackForE (count : Nat) (overlap : Int) : Int := if stackE count overlap ≠ 0 then stackE count overlap else if stacksV count overlap count [] = [] then 12 else 0
def stackForL (count : Nat) (overlap : Int) : List Int := if stackE count overlap ≠ 0 then [] else (stacksV count overlap count []).headD []

def SliceErrRet (w : World) (xs : List Int) (err : Int) (e : Ending) (w' : World) : Prop :=
  ∃ A c, e = .returned (.tuple #[.slice A xs.length c, .int .i64 err]) ∧ IntsIn w'.heap.size w' A xs ∧ xs.length ≤ c ∧ Below w.heap.size w w'

set_option maxRecDepth 100000 in
set_option maxHeartbeats 2000000 in
theorem stackFor_in (n count : Nat) (overlap : Int) (w : World) (h1 : 1 ≤ n) (h0 : stackE count overlap = 0) (hcount : count ≤ 8) :
    CallsIn Fence.wide n Tryz.prog 76 #[.int .i64 (count : Int), .int .i64 overlap] w (SliceErrRet w (stackForL count overlap) (stackForE count overlap)) := by
  have H0 := Lib.hid h0
  have h00 : stackE (count : Int) overlap = 0 := h0
  clear h0
  refine callsIn_of_wp_marks Tryz.func76 rfl trivial ?_ rfl
  simp only [Tryz.ntmps76, List.size_toArray, List.length_cons, List.length_nil, Nat.reduceAdd, Nat.reduceSub, Array.replicate_succ, Array.replicate_zero, List.push_toArray, List.append_toArray, List.nil_append, List.cons_append]
  gi_wp2_with (first | (refine ⟨trivial, ?_⟩; gi_at_call 109; refine (callsIn_wide.2 (stackErr_any _ _ _)).mono ?_; rintro e w1 ⟨rfl, rfl⟩) | (refine ⟨trivial, ?_⟩; gi_at_call 110; refine (callsIn_wide.2 (stacks_any _ _ _)).mono ?_; rintro e w1 ⟨rfl, rfl⟩))
  have r0 : Blk ((((w.alloc (.cells #[.slice none 0 0] 32)).alloc (.cells #[.int .i64 0] 37)).alloc (.cells #[.int .i64 (count : Int)] 3)).alloc (.cells #[.int .i64 overlap] 3)) w.heap.size 32 #[.slice none 0 0] := ((Blk.newAt rfl).alloc).alloc.alloc
  have r1 : Blk ((((w.alloc (.cells #[.slice none 0 0] 32)).alloc (.cells #[.int .i64 0] 37)).alloc (.cells #[.int .i64 (count : Int)] 3)).alloc (.cells #[.int .i64 overlap] 3)) (w.heap.size + 1) 37 #[.int .i64 0] := ((Blk.newAt (by simp)).alloc).alloc
  have r2 : Blk ((((w.alloc (.cells #[.slice none 0 0] 32)).alloc (.cells #[.int .i64 0] 37)).alloc (.cells #[.int .i64 (count : Int)] 3)).alloc (.cells #[.int .i64 overlap] 3)) (w.heap.size + 1 + 1) 3 #[.int .i64 (count : Int)] := (Blk.newAt (by simp)).alloc
  have r3 : Blk ((((w.alloc (.cells #[.slice none 0 0] 32)).alloc (.cells #[.int .i64 0] 37)).alloc (.cells #[.int .i64 (count : Int)] 3)).alloc (.cells #[.int .i64 overlap] 3)) (w.heap.size + 1 + 1 + 1) 3 #[.int .i64 overlap] := Blk.newAt (by simp)
  have hb : Below w.heap.size w ((((w.alloc (.cells #[.slice none 0 0] 32)).alloc (.cells #[.int .i64 0] 37)).alloc (.cells #[.int .i64 (count : Int)] 3)).alloc (.cells #[.int .i64 overlap] 3)) := pa (pa (pa (pa pr)))
  generalize ((((w.alloc (.cells #[.slice none 0 0] 32)).alloc (.cells #[.int .i64 0] 37)).alloc (.cells #[.int .i64 (count : Int)] 3)).alloc (.cells #[.int .i64 overlap] 3)) = W0 at *
  have hsz : w.heap.size + 1 + 1 + 1 < W0.heap.size := r3.lt
  refine rangeFunc_law h1 (gf := 126) (fb := #[]) (lb := #[.pointer (some ⟨w.heap.size + 1 + 1, 0, none⟩), .pointer (some ⟨w.heap.size + 1 + 1 + 1, 0, none⟩)]) rfl (enters_of Tryz.func126 (by kernel_rfl) rfl)
    (stacks_seq (n - 1) count overlap hcount (w.heap.size + 1 + 1) (w.heap.size + 1 + 1 + 1) W0 (by omega) (by omega) (r2.cellAt 0 rfl) (r3.cellAt 0 rfl)) (Below.refl _ _)
    (fun h k => h.trans k) (fun W A l o o' hl hl2 ho hc => ⟨by simp, fun k hk _ => World.putObj_heap_other (by omega)⟩)
    (fun x A l o o' ho hc hp => ⟨own_ints (β := Unit) 0 W0.heap.size x.1.1 x.2 () A _ (some l) hp.1 (grownBy_putObj' A l o') (fun r e => by cases e; exact ⟨Nat.zero_le _, o, ho, hc⟩), hp.2⟩) (fun x => rfl)
    (fun pre W => pre = [] ∧ Blk W w.heap.size 32 #[.slice none 0 0] ∧ Blk W (w.heap.size + 1) 37 #[.int .i64 0] ∧ Below w.heap.size w W)
    (fun c pre W => c = .ret ∧ ∃ x : Stk, pre = [x] ∧ Blk W w.heap.size 32 #[.slice x.1.1 count x.1.2] ∧ Blk W (w.heap.size + 1) 37 #[.int .i64 0] ∧ IntsAb W0.heap.size W x.1.1 x.2 ∧ x.2.length = count ∧ count ≤ x.1.2 ∧ Below w.heap.size w W)
    (fun s A B row hs hg hr => ⟨hs.1, own_blk _ _ _ _ s A B row hs.2.1 hg hr, own_blk _ _ _ _ s A B row hs.2.2.1 hg hr, ownFrom_below (Nat.le_refl _) hb.size s A B row hs.2.2.2 hg hr⟩)
    (fun c s A B row hs hg hr => by
      obtain ⟨hc, x, hx, h1, h2, h3, h4, h6, h5⟩ := hs
      exact ⟨hc, x, hx, own_blk _ _ _ _ s A B row h1 hg hr, own_blk _ _ _ _ s A B row h2 hg hr, own_ints _ _ _ _ s A B row h3 hg hr, h4, h6, ownFrom_below (Nat.le_refl _) hb.size s A B row h5 hg hr⟩)
    ⟨rfl, r0, r1, hb⟩
    (fun x => { tmps := #[.int .i64 (count : Int), .int .i64 overlap, undef, undef, .pointer (some ⟨w.heap.size, 0, none⟩), .pointer (some ⟨w.heap.size + 1, 0, none⟩), .int .i64 0, .slice x.1.1 count x.1.2, .int .i64 (count : Int), .int .i64 overlap, .int .i64 0, .int .i64 0, .bool false, undef, .int .i64 (count : Int), .int .i64 overlap,
      .func (.func 126) #[] #[.pointer (some ⟨w.heap.size + 1 + 1, 0, none⟩), .pointer (some ⟨w.heap.size + 1 + 1 + 1, 0, none⟩)], .slice x.1.1 count x.1.2, undef], defers := [] }) ?assign ?body ?done ?stop
  case assign =>
    intro l x W K hK
    unfold stackEnc
    gi_wp2
    exact hK
  case body =>
    rintro l pre x Wb W hWb ⟨rfl, q0, q1, hq⟩ ⟨hp1, hp2, hp3⟩ _
    have c0 := q0.cellAt 0 rfl
    have c1 := q1.cellAt 0 rfl
    have f0 := q0.frozen 0
    have f1 := q1.frozen 0
    gi_wp2
    exact ⟨((KeepsOthers.setCell _ _ _).trans (KeepsOthers.setCell _ _ _)).from _, rfl, x, rfl, by simpa using (q0.set_ 0 _).far (p := ⟨w.heap.size + 1, 0, none⟩) (by simp), by simpa using (q1.far (p := ⟨w.heap.size, 0, none⟩) (by simp)).set_ 0 _, (hp1.far (by dsimp only; omega)).far (by dsimp only; omega), hp2, hp3, ps (ps hq (by dsimp only; omega)) (by dsimp only; omega)⟩
  case done =>
    rintro D xs W hD hS ⟨rfl, q0, q1, hq⟩ hK
    have c0 := q0.cellAt 0 rfl
    have c1 := q1.cellAt 0 rfl
    have f0 := q0.frozen 0
    have f1 := q1.frozen 0
    have hl : stackForL count overlap = [] := by
      have : stacksV count overlap count [] = [] := hS.symm
      simp [stackForL, this]
    have he : stackForE count overlap = 12 := by
      have : stacksV count overlap count [] = [] := hS.symm
      simp [stackForE, this, H0.out]
    have HL := Lib.hid hl
    have HE := Lib.hid he
    clear hl he hS
    gi_wp2
    refine ⟨by simp, .inl ⟨_, _, rfl, run_takeDeferred (((KeepsOthers.setCell W ⟨w.heap.size, 0, none⟩ (.slice none 0 0)).trans (KeepsOthers.setCell _ ⟨w.heap.size + 1, 0, none⟩ (.int .i64 12))).same D _ hK rfl), ?_⟩⟩
    have hD2 : w.heap.size + 1 + 1 + 1 < D := by omega
    have p0 : Blk (((W.setCell ⟨w.heap.size, 0, none⟩ (.slice none 0 0)).setCell ⟨w.heap.size + 1, 0, none⟩ (.int .i64 12)).putObj D (.deferred none)) w.heap.size 32 #[.slice none 0 0] := Blk.putObj (by simpa using (q0.set_ 0 (.slice none 0 0)).far (p := ⟨w.heap.size + 1, 0, none⟩) (by simp)) (by omega)
    have p1 : Blk (((W.setCell ⟨w.heap.size, 0, none⟩ (.slice none 0 0)).setCell ⟨w.heap.size + 1, 0, none⟩ (.int .i64 12)).putObj D (.deferred none)) (w.heap.size + 1) 37 #[.int .i64 12] := Blk.putObj (by simpa using (q1.far (p := ⟨w.heap.size, 0, none⟩) (by simp)).set_ 0 (.int .i64 12)) (by omega)
    have e0 := p0.cellAt 0 rfl
    have e1 := p1.cellAt 0 rfl
    refine ⟨.tuple #[.slice none 0 0, .int .i64 12], by simp [results, Tryz.results76, go_sem, e0, e1], ?_⟩
    rw [HL.out, HE.out]
    exact ⟨none, 0, rfl, .inl rfl, Nat.zero_le _, (ps (ps hq (by dsimp only; omega)) (by dsimp only; omega)).trans ⟨rfl, rfl, rfl, by simp, fun k hk => World.putObj_heap_other (by omega)⟩⟩
  case stop =>
    rintro D c pre W hD hSp ⟨rfl, x, rfl, q0, q1, hi, hlen, hcap, hq⟩ hK
    have c0 := q0.cellAt 0 rfl
    have c1 := q1.cellAt 0 rfl
    have hl : stackForL count overlap = x.2 := by
      obtain ⟨_, r, hr⟩ := hSp
      have : stacksV count overlap count [] = x.2 :: r := hr.symm
      simp [stackForL, this, H0.out]
    have he : stackForE count overlap = 0 := by
      obtain ⟨_, r, hr⟩ := hSp
      have : stacksV count overlap count [] = x.2 :: r := hr.symm
      simp [stackForE, this, H0.out]
    gi_wp2
    refine ⟨by simp, .inl ⟨_, _, rfl, run_takeDeferred hK, ?_⟩⟩
    have hD2 : w.heap.size + 1 + 1 + 1 < D := by omega
    have p0 : Blk (W.putObj D (.deferred none)) w.heap.size 32 #[.slice x.1.1 count x.1.2] := q0.putObj (by omega)
    have p1 : Blk (W.putObj D (.deferred none)) (w.heap.size + 1) 37 #[.int .i64 0] := q1.putObj (by omega)
    have e0 := p0.cellAt 0 rfl
    have e1 := p1.cellAt 0 rfl
    refine ⟨.tuple #[.slice x.1.1 count x.1.2, .int .i64 0], by simp [results, Tryz.results76, go_sem, e0, e1], ?_⟩
    rw [hl, he, ← hlen]
    have hW : Below w.heap.size W (W.putObj D (.deferred none)) := ⟨rfl, rfl, rfl, by simp, fun k hk => World.putObj_heap_other (by omega)⟩
    exact ⟨x.1.1, x.1.2, rfl, (own_ints (β := Unit) 0 W0.heap.size x.1.1 x.2 () W _ (some D) hi (grownBy_putObj' W D _) (fun r e => by cases e; exact ⟨Nat.zero_le _, _, hK, rfl⟩)).ints, by omega, hq.trans hW⟩

theorem stackFor_err (count overlap : Int) (w : World) (h0 : stackE count overlap ≠ 0) :
    Calls Tryz.prog 76 #[.int .i64 count, .int .i64 overlap] w (SliceErrRet w [] (stackE count overlap)) := by
  have h00 : (stackE count overlap == 0) = false := by simpa using h0
  clear h0
  go_enter Tryz.func76, Tryz.ntmps76
  go_wp2_with (go_at_call 109; refine (stackErr_any _ _ _).mono ?_; rintro e w1 ⟨rfl, rfl⟩)
  refine bodyPost_ret (v := .tuple #[.slice none 0 0, .int .i64 (stackE count overlap)]) (by simp [results, Tryz.results76, go_sem]) rfl ?_
  exact ⟨none, 0, rfl, .inl rfl, Nat.zero_le _, pa (pa pr)⟩

/-- The first stack that overlaps: the contract for whatever numbers. -/
theorem stackFor_any (count overlap : Int) (w : World) :
    Calls Tryz.prog 76 #[.int .i64 count, .int .i64 overlap] w (SliceErrRet w (stackForL count.toNat overlap) (if stackE count overlap ≠ 0 then stackE count overlap else stackForE count.toNat overlap)) := by
  by_cases h0 : stackE count overlap = 0
  · have hc : withinB count 1 8 = true := by
      have h1 := (unless_ne (by decide)).1 h0
      simp only [Bool.and_eq_true] at h1
      exact h1.1
    simp only [withinB, Bool.and_eq_true, decide_eq_true_eq] at hc
    obtain ⟨n, rfl⟩ : ∃ n : Nat, count = (n : Int) := ⟨count.toNat, by omega⟩
    rw [if_neg (by simp [h0])]
    exact callsIn_wide.1 (stackFor_in 1 n overlap w (Nat.le_refl _) h0 (by omega))
  · rw [if_pos h0]
    have hl : stackForL count.toNat overlap = [] := by
      unfold stackForL
      by_cases hc : 0 ≤ count
      · rw [show ((count.toNat : Nat) : Int) = count by omega, if_pos h0]
      · have : stackE (count.toNat : Int) overlap ≠ 0 := by
          have e : ((count.toNat : Nat) : Int) = 0 := by omega
          rw [e]
          simp [stackE, unlessV, withinB]
        rw [if_pos this]
    rw [hl]
    exact stackFor_err count overlap w h0

end Go.Proofs.YtbojmcopagbheaaGreatDoor
end

section
namespace Go.Proofs.YtbojmcopagbheaaGreatDoor
open Go.RowKit Go.Shelf
attribute [local go_sem] Oper.semAt_some

theorem heap_setCell_far {w : World} {p : Addr} {u : Value} {k : Nat} (h : p.block < k) : (w.setCell p u).heap[k]? = w.heap[k]? := by
  have : k ≠ p.block := by omega
  simp [World.setCell, Array.getElem?_modify, Ne.symm this]

theorem stacksUpto_length {count : Nat} {overlap : Int} {d M : Nat} (h : ∀ xs, (stacksV count overlap d xs).length ≤ M) (xs : List Int) : ∀ k, (stacksUpto count overlap d xs k).length ≤ k * M
  | 0 => by simp [stacksUpto]
  | k + 1 => by
    rw [stacksUpto_succ, List.length_append, Nat.succ_mul]
    have h1 := stacksUpto_length h xs k
    have h2 : (if hasB xs (k : Int) || nearB xs overlap k then [] else stacksV count overlap d (xs ++ [(k : Int)])).length ≤ M := by
      split
      · exact Nat.zero_le _
      · exact h _
    omega
theorem stacksV_length (count : Nat) (overlap : Int) : ∀ (d : Nat) (xs : List Int), (stacksV count overlap d xs).length ≤ count ^ d
  | 0, xs => by
    simp only [stacksV]
    split <;> simp
  | d + 1, xs => by
    have h := stacksUpto_length (stacksV_length count overlap d) xs count
    rw [Nat.pow_succ, Nat.mul_comm]
    exact h
theorem stacksV_few {count : Nat} (overlap : Int) (h : count ≤ 8) (d : Nat) (hd : d ≤ 8) (xs : List Int) : (stacksV count overlap d xs).length ≤ 16777216 := by
  refine Nat.le_trans (stacksV_length count overlap d xs) (Nat.le_trans (Nat.pow_le_pow_left h d) ?_)
  exact Nat.le_trans (Nat.pow_le_pow_right (by omega) hd) (by decide)

end Go.Proofs.YtbojmcopagbheaaGreatDoor
end
