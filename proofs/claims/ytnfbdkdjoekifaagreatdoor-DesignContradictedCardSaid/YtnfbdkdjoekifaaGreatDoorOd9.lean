/- Contract: the best steps of a core (design.BestSteps). -/
import Derived.Test.YtnfbdkdjoekifaaGreatDoorOd3
import Derived.Test.YtnfbdkdjoekifaaGreatDoorOd8
import Derived.RangeFuncBox

section
namespace Go.Proofs.YtnfbdkdjoekifaaGreatDoor
open Go.RowKit Go.Shelf
attribute [local go_sem] Oper.semAt_some undef

theorem own_row {β : Type} (B base : Nat) (e : TypeId) (size : Nat) (v : Value) (n : Nat) (xs : List Value) : OwnFrom B (fun (_ : β) W => W.ownsRow base e size v n xs) := fun _ W W' row hs hg hr => by
  refine hs.kept hg ?_
  cases hv : v.ownBlock with
  | none => exact .inl rfl
  | some g =>
    refine .inr fun e => ?_
    obtain ⟨_, o, ho, hc⟩ := hr g e.symm
    rcases hs.2 with ⟨h1, _⟩ | ⟨g', cap, cur, h1, _, hh, _⟩
    · rw [h1] at hv; cases hv
    · rw [h1] at hv
      have : g' = g := by simpa [Value.ownBlock] using hv
      subst this
      rw [hh] at ho
      cases ho
      cases hc

/-- A row that is appended to is no block of another type. -/
theorem blk_grown {W W' : World} {k : Nat} {t e : TypeId} {cs : Array Value} {base size n : Nat} {v : Value} {xs : List Value} (h : Blk W k t cs) (ho : W.ownsRow base e size v n xs) (hne : e ≠ t) (hg : W.grownBy W' v.ownBlock) : Blk W' k t cs := by
  refine h.grown hg fun he => ?_
  rcases ho.2 with ⟨h1, _⟩ | ⟨g, cap, cur, h1, _, hh, _⟩
  · rw [h1] at he; cases he
  · rw [h1] at he
    have : k = g := by simpa [Value.ownBlock] using he
    subst this
    rw [show W.heap[k]? = _ from h] at hh
    injection hh with hh
    injection hh with _ ht
    exact hne ht.symm
theorem min2_int (a b : Int) (ats : Array TypeId) (ty : TypeId) : Builtin.min_ ats ty #[.int .i64 a, .int .i64 b] = pure (.int .i64 (min a b)) := by
  have e : (if b < a then b else a) = min a b := by rw [Int.min_def]; split <;> split <;> omega
  simp [Builtin.min_, Builtin.min2, e]
attribute [local go_sem high] min2_int
def stepsE (d : Int) (ws : List Int) (most : Int) : Int := firstV [widthsE d ws, unlessV (withinB most 1 12) 2, unlessV (decide (0 < ws.length)) 10]
/-- What BestSteps returns: a slice of xs in memory of its own, its area, an error. -/
def StepsRet (w : World) (xs : List Int) (g err : Int) (e : Ending) (w' : World) : Prop :=
  ∃ A c, e = .returned (.tuple #[.slice A xs.length c, .int .i64 g, .int .i64 err]) ∧ IntsIn w'.heap.size w' A xs ∧ xs.length ≤ c ∧ Below w.heap.size w w'

set_option maxRecDepth 100000 in
set_option maxHeartbeats 4000000 in
theorem bestSteps_err (B : Nat) (d : Int) (ws : List Int) (A : Option Addr) (n c : Nat) (most : Int) (w : World) (hr : IntsIn B w A ws) (hB : B ≤ w.heap.size) (hn : ws.length = n) (hm : n ≤ 1000) (h0 : stepsE d ws most ≠ 0) :
    Calls Tryz.prog 28 #[.int .i64 d, .slice A n c, .int .i64 most] w (StepsRet w [] 0 (stepsE d ws most)) := by
  have hE1 : (stepsE d ws most == 0) = false := by simpa using h0
  have hE2 : (stepsE d ws most != 0) = true := by simpa using h0
  have hV : firstV [widthsE d ws, unlessV (withinB most 1 12) 2, unlessV (decide (0 < n)) 10] = stepsE d ws most := by unfold stepsE; rw [hn]
  have HV := Lib.hid hV
  have HE := Lib.hid (fun W (hW : Below w.heap.size w W) => widthsErr_any B d ws A n c W (hr.below (hW.mono hB)) (Nat.le_trans hB hW.size) hn hm)
  clear hr hV h0
  generalize stepsE d ws most = E at *
  generalize widthsE d ws = e1 at *
  have hnp : (0 < (n : Int)) ↔ 0 < n := by omega
  go_enter Tryz.func28, Tryz.ntmps28
  go_wp2
  refine region_below 10 follows_mixed (by kernel_rfl) ?_
  intro C hC
  simp only [List.take_succ_cons, List.take_zero, List.drop_succ_cons, List.drop_zero]
  repeat (first
    | ((with_reducible refine quiet_plain rfl (fun K hK => ?_)); (focus (apply quiet_val; (focus (intro w' hw; obtain ⟨hcq, hfq⟩ := bcell ((hC.out _).1 hw); go_simp; (first | done | rfl | (with_reducible exact call_below hC hw (HE.out _ (pt (pa (pa pr)) ((hC.out _).1 hw)))) | (with_reducible exact call_same hw (within_any _ _ _ _)) | (with_reducible exact call_same hw (unless_any _ _ _))))); (simp only [Act.put, List.setIfInBounds_toArray, List.set_cons_succ, List.set_cons_zero]); (with_reducible refine hK _ ?_); clear hK K)))
    | ((with_reducible refine quiet_skip ?_ ?_); (focus (first | (simp [Region.wanted, yielded]; done) | (simp [Region.wanted, yielded, undef]; done))); simp only [Act.put, List.setIfInBounds_toArray, List.set_cons_succ, List.set_cons_zero])
    | ((with_reducible refine quiet_go ?_ (fun K hK => ?_)); (focus (first | (simp [Region.wanted, yielded]; done) | (simp [Region.wanted, yielded, undef]; done))); (focus (apply quiet_val; (focus (intro w' hw; obtain ⟨hcq, hfq⟩ := bcell ((hC.out _).1 hw); go_simp; (first | done | rfl | (with_reducible exact call_below hC hw (HE.out _ (pt (pa (pa pr)) ((hC.out _).1 hw)))) | (with_reducible exact call_same hw (within_any _ _ _ _)) | (with_reducible exact call_same hw (unless_any _ _ _))))); (simp only [Act.put, List.setIfInBounds_toArray, List.set_cons_succ, List.set_cons_zero]); (with_reducible refine hK _ ?_); clear hK K))))
  refine wpQuiet_nil ?_
  intro w1 hb1
  replace hb1 := (hC.out _).1 hb1
  clear hC C
  obtain ⟨hc1, hf1⟩ := bcell hb1
  have HB1 := Lib.hid (pt (pa (pa pr)) hb1)
  go_wp2_with (go_at_call 44; refine (first3 _ _ _ _ _ _ (by first | (go_simp; done) | (go_simp; rfl)) (by first | (go_simp; done) | (go_simp; rfl)) (by first | (go_simp; done) | (go_simp; rfl)) _ HV.out).mono ?_; rintro e w' ⟨rfl, rfl⟩)
  refine bodyPost_ret (v := .tuple #[.slice none 0 0, .int .i64 0, .int .i64 E]) (by simp [results, Tryz.results28, go_sem]) rfl ?_
  exact ⟨none, 0, rfl, .inl rfl, Nat.zero_le _, pa HB1.out⟩

/-- All sets of at most k numbers. -/
def candU (ws : List Int) (k : Nat) : List (List Int) := (List.range k).flatMap fun c => (allS ws.length (c + 1) 0).map (pickL ws)
theorem candU_succ (ws : List Int) (k : Nat) : candU ws (k + 1) = candU ws k ++ (allS ws.length (k + 1) 0).map (pickL ws) := by
  unfold candU
  rw [List.range_succ, List.flatMap_append]
  simp
/-- What holds between two sets: the best of them so far, in memory that is none of the iterator's. -/
structure BestInv (w : World) (G : Nat → Prop) (d : Int) (A : Option Addr) (n c h1 : Nat) (bs : List Int × Int) (wr : World) : Prop where
  b3 : Blk wr w.heap.size 3 #[.int .i64 d]
  b4 : Blk wr (w.heap.size + 1) 32 #[.slice A n c]
  best : ∃ A' c', Blk wr h1 32 #[.slice A' bs.1.length c'] ∧ (bs.1 = [] ∨ ∃ b off, A' = some ⟨b, off, none⟩ ∧ ¬ G b ∧ w.heap.size ≤ b ∧ b < wr.heap.size ∧ ∀ j, j < bs.1.length → wr.cell? ⟨b, off + j, none⟩ = some (.int .i64 (bs.1.getD j 0))) ∧ bs.1.length ≤ c'
  b11 : Blk wr (h1 + 1) 3 #[.int .i64 bs.2]
  bel : Below w.heap.size w wr
theorem below_grown {n : Nat} {w W W' : World} {row : Option Nat} (h : Below n w W) (hn : n ≤ W.heap.size) (hg : W.grownBy W' row) (hr : ∀ r, row = some r → n ≤ r) : Below n w W' :=
  ⟨hg.os.trans h.os, hg.tape.trans h.tape, hg.output.trans h.output, Nat.le_trans h.size hg.size, fun i hi => (hg.block i (Nat.lt_of_lt_of_le hi hn) (fun e => by have := hr i e.symm; omega)).trans (h.block i hi)⟩
section
variable {w : World} {G : Nat → Prop} {d : Int} {A : Option Addr} {n c h1 : Nat} {bs : List Int × Int} {W W' : World}
/-- It stays where only the iterator's blocks and what is no cells is turned. -/
theorem BestInv.grown (h : BestInv w G d A n c h1 bs W) (hh : w.heap.size + 1 < h1) (hG : ∀ k, G k → h1 + 1 < k) {row : Option Nat} (hg : W.grownBy W' row) (hr : ∀ r, row = some r → G r ∨ (w.heap.size ≤ r ∧ ∃ o : Obj, W.heap[r]? = some o ∧ o.isCells = false)) : BestInv w G d A n c h1 bs W' := by
  have key : ∀ {k : Nat} {t : TypeId} {cs : Array Value}, k ≤ h1 + 1 → Blk W k t cs → Blk W' k t cs := fun {k t cs} hk hb => hb.grown hg (fun e => by
    rcases hr k e.symm with h2 | ⟨_, o, ho, hc⟩
    · have := hG k h2; omega
    · rw [show W.heap[k]? = _ from hb] at ho
      cases ho
      cases hc)
  obtain ⟨A', c', q1, q2, q3⟩ := h.best
  refine ⟨key (by omega) h.b3, key (by omega) h.b4, ⟨A', c', key (by omega) q1, ?_, q3⟩, key (by omega) h.b11, below_grown h.bel h.bel.size hg (fun r e => by
    rcases hr r e with h2 | ⟨h2, _⟩
    · have := hG r h2; omega
    · exact h2)⟩
  rcases q2 with q2 | ⟨b, off, q4, q5, q6, q7, q8⟩
  · exact .inl q2
  · refine .inr ⟨b, off, q4, q5, q6, Nat.lt_of_lt_of_le q7 hg.size, fun j hj => ?_⟩
    by_cases e : row = some b
    · rcases hr b e with h2 | ⟨_, o, ho, hc⟩
      · exact absurd h2 q5
      · have h3 := q8 j hj
        simp only [World.cell?, ho] at h3
        cases o <;> simp_all [Obj.isCells]
    · exact (World.cell?_of_block (w := W) (hg.block b q7 (fun h2 => e h2.symm))).trans (q8 j hj)
theorem BestInv.past (h : BestInv w G d A n c h1 bs W) (hh : w.heap.size + 1 < h1) (hG : ∀ k, G k → h1 + 1 < k) (hb : Below W.heap.size W W') : BestInv w G d A n c h1 bs W' :=
  h.grown hh hG (row := none) ⟨hb.os, hb.tape, hb.output, hb.size, fun i hi _ => hb.block i hi⟩ (fun r e => by cases e)
theorem BestInv.new (h : BestInv w G d A n c h1 bs W) {G' : Nat → Prop} (hG : ∀ k, G' k → W.heap.size ≤ k) : BestInv w G' d A n c h1 bs W := by
  obtain ⟨A', c', q1, q2, q3⟩ := h.best
  refine ⟨h.b3, h.b4, ⟨A', c', q1, ?_, q3⟩, h.b11, h.bel⟩
  rcases q2 with q2 | ⟨b, off, q4, q5, q6, q7, q8⟩
  · exact .inl q2
  · exact .inr ⟨b, off, q4, (fun h2 => by have := hG b h2; omega), q6, q7, q8⟩
theorem BestInv.weak (h : BestInv w G d A n c h1 bs W) {G' : Nat → Prop} (hG : ∀ k, G' k → G k) : BestInv w G' d A n c h1 bs W := by
  obtain ⟨A', c', q1, q2, q3⟩ := h.best
  refine ⟨h.b3, h.b4, ⟨A', c', q1, ?_, q3⟩, h.b11, h.bel⟩
  rcases q2 with q2 | ⟨b, off, q4, q5, q6⟩
  · exact .inl q2
  · exact .inr ⟨b, off, q4, fun h2 => q5 (hG b h2), q6⟩
end

/-- The function's own list of deferred rounds: all of them empty. -/
def coll (Ds : List Nat) : List Deferred := Ds.map fun D => { target := .collected D, args := #[] }
structure CollIn (B : Nat) (Ds : List Nat) (W : World) : Prop where
  nodup : Ds.Nodup
  at_ : ∀ D ∈ Ds, B ≤ D ∧ W.heap[D]? = some (.deferred (some []))
theorem CollIn.lt {B : Nat} {Ds : List Nat} {W : World} (h : CollIn B Ds W) {D : Nat} (hD : D ∈ Ds) : D < W.heap.size := (Array.getElem?_eq_some_iff.1 (h.at_ D hD).2).1
theorem CollIn.keeps {B : Nat} {Ds : List Nat} {W W' : World} (h : CollIn B Ds W) (hk : KeepsOthers W W') : CollIn B Ds W' := ⟨h.nodup, fun D hD => ⟨(h.at_ D hD).1, hk.same D _ (h.at_ D hD).2 rfl⟩⟩
theorem keeps_below {W W' : World} (h : Below W.heap.size W W') : KeepsOthers W W' := ⟨h.size, fun k _ hk _ => (h.block k (Array.getElem?_eq_some_iff.1 hk).1).trans hk⟩
theorem CollIn.cons {B : Nat} {Ds : List Nat} {W : World} (h : CollIn B Ds W) {D : Nat} (hB : B ≤ D) (hD : W.heap[D]? = some (.deferred (some []))) (hn : ∀ D' ∈ Ds, D' < D) : CollIn B (D :: Ds) W :=
  ⟨List.nodup_cons.2 ⟨fun h2 => Nat.lt_irrefl _ (hn D h2), h.nodup⟩, fun D' h2 => by
    rcases List.mem_cons.1 h2 with rfl | h2
    · exact ⟨hB, hD⟩
    · exact h.at_ D' h2⟩
def KeepsCells (W W' : World) : Prop := ∀ (k : Nat) (o : Obj), W.heap[k]? = some o → o.isCells = true → W'.heap[k]? = some o
theorem leaves_coll {F : Fence} {n B : Nat} {P : Program} {fn : Func} {tmps : Array Value} {R : Ending → World → Prop} : ∀ {Ds : List Nat} {W : World}, CollIn B Ds W → (∀ W', Below B W W' → KeepsCells W W' → LeavesIn F n P fn tmps R [] .returning W') → LeavesInM F n P fn tmps R (coll Ds) .returning W
  | [], W, _, h => h W (Below.refl _ _) (fun _ _ h _ => h)
  | D :: Ds, W, hc, h => by
    have hK := (hc.at_ D (List.mem_cons_self ..)).2
    have hB := (hc.at_ D (List.mem_cons_self ..)).1
    have hnd := List.nodup_cons.1 hc.nodup
    have hb : Below B W (W.putObj D (.deferred none)) := ⟨rfl, rfl, rfl, by simp, fun k hk => World.putObj_heap_other (by omega)⟩
    have hkc : KeepsCells W (W.putObj D (.deferred none)) := fun k o hk ho => by
      by_cases e : k = D
      · subst e
        rw [hk] at hK
        cases hK
        cases ho
      · exact (World.putObj_heap_other e).trans hk
    refine ⟨by simp, .inl ⟨D, _, rfl, run_takeDeferred hK, leaves_coll (Ds := Ds) ⟨hnd.2, fun D' h2 => ⟨(hc.at_ D' (List.mem_cons_of_mem _ h2)).1, ?_⟩⟩ fun W' hW' hk' => h W' (hb.trans hW') fun k o h1 h2 => hk' k o (hkc k o h1 h2) h2⟩⟩
    exact (World.putObj_heap_other (fun e => by subst e; exact hnd.1 h2)).trans (hc.at_ D' (List.mem_cons_of_mem _ h2)).2
theorem cell_keeps {W W' : World} (h : KeepsCells W W') {p : Addr} {v : Value} (hc : W.cell? p = some v) : W'.cell? p = some v := by
  simp only [World.cell?] at hc ⊢
  cases ho : W.heap[p.block]? with
  | none => simp [ho] at hc
  | some o =>
    cases o with
    | cells cs t => rw [h p.block _ ho rfl]; simpa [ho] using hc
    | _ => simp [ho] at hc
theorem pick_take {ws xs : List Int} {j : Nat} (h : j < xs.length) : pickL ws (xs.take (j + 1)) = pickL ws (xs.take j) ++ [ws.getD (xs.getD j 0).toNat 0] := by
  unfold pickL
  rw [take_one h (d := 0), List.map_append]
  rfl
theorem KeepG.set {S G : Nat → Prop} {A : World} {p : Addr} {u : Value} (hS : ∀ k, S k → k ≠ p.block) (hG : ∀ k, G k → k ≠ p.block) : KeepG S G A (A.setCell p u) :=
  ⟨by simp, fun k hk => Below.heap_setCell A p u k (hG k hk), fun k hk => Below.heap_setCell A p u k (hS k hk)⟩
/-- A better set is laid down. -/
theorem BestInv.store {w : World} {G : Nat → Prop} {d : Int} {A A' : Option Addr} {n c c' h1 base m : Nat} {bs : List Int × Int} {xs : List Int} {g : Int} {W : World} (h : BestInv w G d A n c h1 bs W) (hh : w.heap.size + 1 < h1) (hB : h1 + 1 < base) (hG : ∀ k, G k → k < base) (hm : m = xs.length)
    (ho : W.ownsRow base 3 1 (.slice A' m c') m (xs.map (Value.int .i64))) (hc : m ≤ c') : BestInv w G d A n c h1 (xs, g) ((W.setCell ⟨h1, 0, none⟩ (.slice A' m c')).setCell ⟨h1 + 1, 0, none⟩ (.int .i64 g)) := by
  subst hm
  obtain ⟨A2, c2, q1, _, _⟩ := h.best
  refine ⟨?_, ?_, ⟨A', c', ?_, ?_, hc⟩, ?_, ps (ps h.bel (by dsimp only; omega)) (by dsimp only; omega)⟩
  · exact (h.b3.far (p := ⟨h1, 0, none⟩) (by dsimp only; omega)).far (p := ⟨h1 + 1, 0, none⟩) (by dsimp only; omega)
  · exact (h.b4.far (p := ⟨h1, 0, none⟩) (by dsimp only; omega)).far (p := ⟨h1 + 1, 0, none⟩) (by dsimp only; omega)
  · exact (by simpa using q1.set_ 0 (.slice A' xs.length c') : Blk (W.setCell ⟨h1, 0, none⟩ (.slice A' xs.length c')) h1 32 #[.slice A' xs.length c']).far (p := ⟨h1 + 1, 0, none⟩) (by dsimp only; omega)
  · rcases intsAb_of_own ho with h2 | ⟨b, off, h3, h4, h5, h6⟩
    · exact .inl h2
    · refine .inr ⟨b, off, h3, (fun h7 => by have := hG b h7; omega), by omega, by simpa [World.setCell] using h5, fun j hj => ?_⟩
      rw [World.cell?_setCell_other _ _ _ _ (fun e => by simp at e <;> omega), World.cell?_setCell_other _ _ _ _ (fun e => by simp at e <;> omega)]
      exact h6 j hj
  · exact by simpa using (h.b11.far (p := ⟨h1, 0, none⟩) (u := .slice A' xs.length c') (by dsimp only; omega)).set_ 0 (.int .i64 g)

set_option maxRecDepth 100000 in
set_option maxHeartbeats 4000000 in
theorem bestSteps_in (m B : Nat) (d : Int) (ws : List Int) (A : Option Addr) (n c most : Nat) (w : World) (h1 : 1 ≤ m) (hr : IntsIn B w A ws) (hB : B ≤ w.heap.size) (hn : ws.length = n) (h0 : stepsE d ws most = 0) :
    CallsIn Fence.wide m Tryz.prog 28 #[.int .i64 d, .slice A n c, .int .i64 most] w (StepsRet w (bestD d ws most).1 (bestD d ws most).2 0) := by
  obtain ⟨q1, q2⟩ := firstV_zero.1 h0
  obtain ⟨q2, q3⟩ := firstV_zero.1 q2
  have q4 := (firstV_zero.1 q3).1
  have hok : (1 ≤ d ∧ d ≤ 2000) ∧ WidthsOk d ws ∧ n ≤ 12 := by
    unfold widthsE at q1
    split at q1
    · rename_i h1; exact absurd q1 h1
    · rename_i h1; rw [← hn]; exact ⟨diamE_ok.1 (by simpa using h1), (wE_ok q1).1, (wE_ok q1).2⟩
  have hmo := (unless_ne (by decide)).1 q2
  have hnp := (unless_ne (by decide)).1 q4
  simp only [withinB, Bool.and_eq_true, decide_eq_true_eq] at hmo hnp
  rw [hn] at hnp
  have HE := Lib.hid (fun W (hW : Below w.heap.size w W) => widthsErr_any B d ws A n c W (hr.below (hW.mono hB)) (Nat.le_trans hB hW.size) hn (by omega))
  have HV := Lib.hid (show firstV [widthsE d ws, unlessV (withinB most 1 12) 2, unlessV (decide (0 < n)) 10] = 0 by rw [← hn]; exact h0)
  have HR := Lib.hid hr
  have HN := Lib.hid hn
  clear q1 q2 q3 q4 hr hn h0
  generalize widthsE d ws = e1 at *
  refine callsIn_of_wp_marks Tryz.func28 rfl trivial ?_ rfl
  simp only [Tryz.ntmps28, List.size_toArray, List.length_cons, List.length_nil, Nat.reduceAdd, Nat.reduceSub, Array.replicate_succ, Array.replicate_zero, List.push_toArray, List.append_toArray, List.nil_append, List.cons_append]
  have hnp2 : (0 < (n : Int)) ↔ 0 < n := by omega
  obtain ⟨mn, hmn⟩ : ∃ mn : Nat, mn = min most n := ⟨_, rfl⟩
  have hmin : min (most : Int) (n : Int) = (mn : Int) := by omega
  have HMn := Lib.hid hmn
  clear hmn
  gi_wp2
  refine region_belowIn (fun _ => trivial) rfl (fun _ _ _ _ h => callsIn_wide.2 h) 10 follows_mixed (by kernel_rfl) (by kernel_rfl) ?_
  intro C hC
  simp only [List.take_succ_cons, List.take_zero, List.drop_succ_cons, List.drop_zero]
  repeat (first
    | ((with_reducible refine quiet_plain rfl (fun K hK => ?_)); (focus (apply quiet_val; (focus (intro w' hw; obtain ⟨hcq, hfq⟩ := bcell ((hC.out _).1 hw); go_simp; (first | done | rfl | (with_reducible exact call_below hC hw (HE.out _ (pt (pa (pa pr)) ((hC.out _).1 hw)))) | (with_reducible exact call_same hw (within_any _ _ _ _)) | (with_reducible exact call_same hw (unless_any _ _ _))))); (simp only [Act.put, List.setIfInBounds_toArray, List.set_cons_succ, List.set_cons_zero]); (with_reducible refine hK _ ?_); clear hK K)))
    | ((with_reducible refine quiet_skip ?_ ?_); (focus (first | (simp [Region.wanted, yielded]; done) | (simp [Region.wanted, yielded, undef]; done))); simp only [Act.put, List.setIfInBounds_toArray, List.set_cons_succ, List.set_cons_zero])
    | ((with_reducible refine quiet_go ?_ (fun K hK => ?_)); (focus (first | (simp [Region.wanted, yielded]; done) | (simp [Region.wanted, yielded, undef]; done))); (focus (apply quiet_val; (focus (intro w' hw; obtain ⟨hcq, hfq⟩ := bcell ((hC.out _).1 hw); go_simp; (first | done | rfl | (with_reducible exact call_below hC hw (HE.out _ (pt (pa (pa pr)) ((hC.out _).1 hw)))) | (with_reducible exact call_same hw (within_any _ _ _ _)) | (with_reducible exact call_same hw (unless_any _ _ _))))); (simp only [Act.put, List.setIfInBounds_toArray, List.set_cons_succ, List.set_cons_zero]); (with_reducible refine hK _ ?_); clear hK K))))
  refine wpQuiet_nil ?_
  intro w1 hb1
  replace hb1 := (hC.out _).1 hb1
  clear hC C
  obtain ⟨hc1, hf1⟩ := bcell hb1
  have HB1 := Lib.hid (pt (pa (pa pr)) hb1)
  have B3 := Lib.hid ((show Blk ((w.alloc (.cells #[.int .i64 d] 3)).alloc (.cells #[.slice A n c] 32)) w.heap.size 3 #[.int .i64 d] from (Blk.newAt rfl).alloc).past hb1)
  have B4 := Lib.hid ((show Blk ((w.alloc (.cells #[.int .i64 d] 3)).alloc (.cells #[.slice A n c] 32)) (w.heap.size + 1) 32 #[.slice A n c] from Blk.newAt (by simp)).past hb1)
  have hsz := hb1.size
  simp only [World.size_alloc] at hsz
  have c3 := B3.out.cellAt 0 rfl
  have c4 := B4.out.cellAt 0 rfl
  have l3 := B3.out.lt
  have l4 := B4.out.lt
  clear hb1 hc1 hf1
  gi_wp2_with (refine ⟨trivial, ?_⟩; gi_at_call 44; refine (callsIn_wide.2 (first3 _ _ _ _ _ _ (by first | (go_simp; done) | (go_simp; rfl)) (by first | (go_simp; done) | (go_simp; rfl)) (by first | (go_simp; done) | (go_simp; rfl)) _ HV.out)).mono ?_; rintro e w' ⟨rfl, rfl⟩)
  have hh : w.heap.size + 1 < w1.heap.size + 1 := by omega
  have HI0 := Lib.hid (show BestInv w (fun _ => False) d A n c (w1.heap.size + 1) (bestF (areaD d) (candU ws 0) ([], 0)) (((w1.alloc (.cells #[.int .i64 e1, .int .i64 (unlessV (withinB (most : Int) 1 12) 2), .int .i64 (unlessV true 10)] 33)).alloc (.cells #[.slice none 0 0] 32)).alloc (.cells #[.int .i64 0] 3)) from
    ⟨((B3.out.alloc).alloc).alloc, ((B4.out.alloc).alloc).alloc, ⟨none, 0, (Blk.newAt (by simp)).alloc, .inl rfl, Nat.le_refl _⟩, Blk.newAt (by simp), pa (pa (pa HB1.out))⟩)
  generalize (((w1.alloc (.cells #[.int .i64 e1, .int .i64 (unlessV (withinB (most : Int) 1 12) 2), .int .i64 (unlessV true 10)] 33)).alloc (.cells #[.slice none 0 0] 32)).alloc (.cells #[.int .i64 0] 3)) = v0 at *
  generalize w1.heap.size + 1 = bk at *
  clear B3 B4 HB1 c3 c4 l3 l4 hsz HE HV
  refine wpIn_loop (fun a' wr => ∃ (u12 u13 u14 u16 u17 u37 u38 u39 u40 u41 u42 u43 u44 u45 u46 u47 u48 u49 u50 u51 u52 u53 u54 u55 u56 u57 u58 u59 u60 u61 u62 u63 u64 u65 u66 u67 u68 : Value) (Ds : List Nat), (∃ k : Nat, u37 = .int .i64 (k : Int) ∧ k ≤ mn ∧ BestInv w (fun _ => False) d A n c bk (bestF (areaD d) (candU ws k) ([], 0)) wr ∧ CollIn w.heap.size Ds wr) ∧
    a' = { tmps := #[.int .i64 d, .slice A n c, .int .i64 (most : Int), .pointer (some ⟨w.heap.size, 0, none⟩), .pointer (some ⟨w.heap.size + 1, 0, none⟩), .tuple #[], .slice none 0 0, .int .i64 0, .int .i64 0, .int .i64 0, .pointer (some ⟨bk, 0, none⟩), .pointer (some ⟨bk + 1, 0, none⟩), u12, u13, u14, .tuple #[], u16, u17, .int .i64 d, .slice A n c, .int .i64 e1, .int .i64 (most : Int), .bool (withinB (most : Int) 1 12), .int .i64 (unlessV (withinB (most : Int) 1 12) 2), .slice A n c, .int .i64 (n : Int), .bool true, .int .i64 (unlessV true 10), .slice (some ⟨w1.heap.size, 0, none⟩) 3 3, .int .i64 0, .int .i64 0, .bool false, .tuple #[], .int .i64 (most : Int), .slice A n c, .int .i64 (n : Int), .int .i64 (mn : Int), u37, u38, u39, u40, u41, u42, u43, u44, u45, u46, u47, u48, u49, u50, u51, u52, u53, u54, u55, u56, u57, u58, u59, u60, u61, u62, u63, u64, u65, u66, u67, u68, .tuple #[], .tuple #[]], defers := coll Ds }) (fun a' _ => mn - (intOf (a'.tmps.getD 37 undef)).toNat) ?_ ?_
  · (repeat apply Exists.intro)
    exact ⟨⟨0, rfl, Nat.zero_le _, HI0.out, ⟨List.nodup_nil, fun D hD => by cases hD⟩⟩, rfl⟩
  · clear HI0
    rintro _ wo ⟨u12, u13, u14, u16, u17, u37, u38, u39, u40, u41, u42, u43, u44, u45, u46, u47, u48, u49, u50, u51, u52, u53, u54, u55, u56, u57, u58, u59, u60, u61, u62, u63, u64, u65, u66, u67, u68, Ds, ⟨k, rfl, hk, hI, hC⟩, rfl⟩
    have HI := Lib.hid hI
    have HC := Lib.hid hC
    clear hI hC
    by_cases hlt : k < mn
    · have l3 := HI.out.b3.lt
      have l4 := HI.out.b4.lt
      have c3 := HI.out.b3.cellAt 0 rfl
      have c4 := HI.out.b4.cellAt 0 rfl
      have hkn : k < n := by have := HMn.out; omega
      have hlt2 : (k : Int) < (mn : Int) := by omega
      gi_wp2_with (refine ⟨trivial, ?_⟩; gi_at_call 38; refine (callsIn_wide.2 (subsets_any _ _ _)).mono ?_; rintro e w' ⟨rfl, rfl⟩)
      have c1 : Blk ((wo.alloc (.cells #[.int .i64 (n : Int)] 3)).alloc (.cells #[.int .i64 ((k : Int) + 1)] 3)) (wo.heap.size + 1) 3 #[.int .i64 ((k + 1 : Nat) : Int)] := Blk.newAt (by simp)
      have c2 : Blk ((wo.alloc (.cells #[.int .i64 (n : Int)] 3)).alloc (.cells #[.int .i64 ((k : Int) + 1)] 3)) wo.heap.size 3 #[.int .i64 (n : Int)] := (Blk.newAt rfl).alloc
      have hW0 : ((wo.alloc (.cells #[.int .i64 (n : Int)] 3)).alloc (.cells #[.int .i64 ((k : Int) + 1)] 3)).heap.size = wo.heap.size + 1 + 1 := by simp
      have hb2 : Below wo.heap.size wo ((wo.alloc (.cells #[.int .i64 (n : Int)] 3)).alloc (.cells #[.int .i64 ((k : Int) + 1)] 3)) := pa (pa pr)
      have hbk := Blk.lt HI.out.b11
      have hwr := HI.out.bel.size
      generalize (wo.alloc (.cells #[.int .i64 (n : Int)] 3)).alloc (.cells #[.int .i64 ((k : Int) + 1)] 3) = W0 at *
      obtain ⟨b0, hb0⟩ : ∃ b0, b0 = bestF (areaD d) (candU ws k) ([], 0) := ⟨_, rfl⟩
      rw [← hb0] at HI
      have HI2 := Lib.hid (fun (G : Nat → Prop) (hG : ∀ q, G q → W0.heap.size + 1 + 1 ≤ q) => ((HI.out.new (G' := G) (fun q hq => by have := hG q hq; omega)).past hh (fun q hq => by have := hG q hq; omega) hb2))
      have HC2 := Lib.hid (HC.out.keeps (keeps_below hb2))
      have HD := Lib.hid (fun D hD => HC.out.lt (D := D) hD)
      have HB0 := Lib.hid hb0
      clear HI HC hb0 c3 c4 hb2
      refine rangeFunc_lawG h1 (gf := 63) (fb := #[]) (lb := #[.pointer (some ⟨wo.heap.size + 1, 0, none⟩), .pointer (some ⟨wo.heap.size, 0, none⟩)]) rfl (enters_of Tryz.func63 (by kernel_rfl) rfl)
        (subsets_seq (m - 1) (k + 1) n (by omega) (by omega) (by omega) (wo.heap.size + 1) wo.heap.size wo.heap.size W0 (by omega) (by omega) (by omega) (Nat.le_refl _) c1 c2) (Below.refl _ _)
        (fun h q => h.trans q) (fun G W A l o o' hG hl hl2 ho hc => KeepG.put o' (fun q hq => by have := hq.2; omega) (fun q hq => by have := hG q hq; omega))
        (fun G x A l o o' ho hc hp => hp.put o' ho hc) (fun x => rfl)
        (fun G (pre : List RowI) W => BestInv w G d A n c bk (bestF (areaD d) (List.map (pickL ws) (List.map Prod.snd pre)) b0) W ∧ CollIn w.heap.size Ds W)
        (fun _ _ _ _ => False)
        (fun G hG s W W' row hs hg hr => ⟨hs.1.grown hh (fun q hq => by have := hG q hq; omega) hg (fun r e => (hr r e).imp_right fun ⟨h, q⟩ => ⟨by omega, q⟩), ⟨hs.2.nodup, fun D hD => ⟨(hs.2.at_ D hD).1, (hg.block D (hs.2.lt hD) (fun e => by
          have := HD.out D hD
          rcases hr D e.symm with h2 | ⟨h2, _⟩
          · have := hG D h2; omega
          · omega)).trans (hs.2.at_ D hD).2⟩⟩⟩)
        (fun _ _ _ _ _ _ hs _ _ => hs)
        (fun G hG => ⟨HI2.out G hG, HC2.out⟩)
        (fun x => { tmps := #[.int .i64 d, .slice A n c, .int .i64 (most : Int), .pointer (some ⟨w.heap.size, 0, none⟩), .pointer (some ⟨w.heap.size + 1, 0, none⟩), .tuple #[], .slice none 0 0, .int .i64 0, .int .i64 0, .int .i64 0, .pointer (some ⟨bk, 0, none⟩), .pointer (some ⟨bk + 1, 0, none⟩), .int .i64 (k : Int), .slice x.1.1 (k + 1) x.1.2, u14, .tuple #[], u16, u17, .int .i64 d, .slice A n c, .int .i64 e1, .int .i64 (most : Int), .bool (withinB (most : Int) 1 12), .int .i64 (unlessV (withinB (most : Int) 1 12) 2), .slice A n c, .int .i64 (n : Int), .bool true, .int .i64 (unlessV true 10), .slice (some ⟨w1.heap.size, 0, none⟩) 3 3, .int .i64 0, .int .i64 0, .bool false, .tuple #[], .int .i64 (most : Int), .slice A n c, .int .i64 (n : Int), .int .i64 (mn : Int), .int .i64 (k : Int), .bool true, .int .i64 (k : Int), .slice A n c, .int .i64 (n : Int), .int .i64 (k : Int), .int .i64 ((k : Int) + 1), .func (.func 63) #[] #[.pointer (some ⟨wo.heap.size + 1, 0, none⟩), .pointer (some ⟨wo.heap.size, 0, none⟩)], .slice x.1.1 (k + 1) x.1.2, u46, u47, u48, u49, u50, u51, u52, u53, u54, u55, u56, u57, u58, u59, u60, u61, u62, u63, u64, u65, u66, u67, u68, .tuple #[], .tuple #[]], defers := [] }) ?assign ?body ?done ?stop
      case assign =>
        intro l x W K hK
        unfold rowEnc
        gi_wp2
        exact hK
      case body =>
        rintro l G pre ⟨⟨X, cX⟩, xs⟩ Wb W hG hWb ⟨hI, hC⟩ ⟨⟨hx1, hx2, hx3⟩, hx4, hx5⟩ hlen
        dsimp only at hx1 hx2 hx3 hx5 ⊢
        obtain ⟨bs, hbs⟩ : ∃ bs, bs = bestF (areaD d) (List.map (pickL ws) (List.map Prod.snd pre)) b0 := ⟨_, rfl⟩
        rw [← hbs] at hI
        have HLast := Lib.hid (show bestF (areaD d) (List.map (pickL ws) (List.map Prod.snd (pre ++ [((X, cX), xs)]))) b0 = if bs.2 < areaD d (pickL ws xs) then (pickL ws xs, areaD d (pickL ws xs)) else bs by
          rw [List.map_append, List.map_append, bestF_app, ← hbs]; rfl)
        rcases hx1 with hx1 | ⟨xb, xo, rfl, hxB, hxlt, hxc⟩
        · rw [hx1] at hx2; simp at hx2
        obtain ⟨ab, ao, hA, hab1, hac⟩ : ∃ ab ao, A = some ⟨ab, ao, none⟩ ∧ ab < B ∧ ∀ j, j < ws.length → w.cell? ⟨ab, ao + j, none⟩ = some (.int .i64 (ws.getD j 0)) := by
          rcases HR.out with h | h
          · have := HN.out; rw [h] at this; simp at this; omega
          · exact h
        have hx5' : xs ∈ allS ws.length (k + 1) 0 := by rw [HN.out]; exact hx5
        have HAsc := Lib.hid (asc_bd (allS_mem.1 hx5).2)
        have HW := Lib.hid (pick_ok hok.2.1 (lo := ((0 : Nat) : Int)) (by omega) (allS_mem.1 hx5').2).1
        have hGb : ∀ q, G q → bk + 1 < q := fun q hq => by have := hG q hq; omega
        have HGb := Lib.hid hGb
        have HXc := Lib.hid hxc
        have HAc := Lib.hid hac
        have HI := Lib.hid hI
        have HC := Lib.hid hC
        have HX2 := Lib.hid hx2
        have HX4 := Lib.hid hx4
        obtain ⟨i0, hi0, hz0, hz1, hz2⟩ := info_parts int_info
        clear hbs hx5 hx5' hGb hxc hac hI hC hx2 hx4 hlen HI2 HC2
        subst hA
        gi_wp2
        gi_loopw [14, 48] (fun sv iv wr => ∃ (j : Nat) (A2 : Option Addr) (c2 : Nat), iv = .int .i64 (j : Int) ∧ j ≤ k + 1 ∧ sv = .slice A2 j c2 ∧ wr.ownsRow W.heap.size 3 1 (.slice A2 j c2) j ((pickL ws (xs.take j)).map (Value.int .i64)) ∧ Below W.heap.size W wr) (fun _ iv _ => k + 1 - (intOf iv).toNat)
        case atStart => exact ⟨0, none, 0, rfl, Nat.zero_le _, rfl, World.ownsRow_nil _ _ _ _, Below.refl _ _⟩
        case round =>
          obtain ⟨j, A2, c2, rfl, hj, rfl, hown, hab⟩ := hrel
          have HI3 := Lib.hid (HI.out.past hh HGb.out hab)
          have HO := Lib.hid hown
          have HAb := Lib.hid hab
          have s1 := hab.size
          have l3 := HI3.out.b3.lt
          have l4 := HI3.out.b4.lt
          have c3 := HI3.out.b3.cellAt 0 rfl
          have c4 := HI3.out.b4.cellAt 0 rfl
          by_cases hlt3 : j < k + 1
          · have hyb := HAsc.out j (by rw [HX2.out]; exact hlt3)
            have cx := (World.cell?_of_block (hab.block xb hxlt)).trans (HXc.out j (by rw [HX2.out]; exact hlt3))
            have hpk := pick_take (ws := ws) (xs := xs) (j := j) (by rw [HX2.out]; exact hlt3)
            generalize xs.getD j 0 = y at *
            obtain ⟨yn, rfl⟩ : ∃ yn : Nat, y = (yn : Int) := ⟨y.toNat, by omega⟩
            rw [Int.toNat_natCast] at hpk
            have cw := (World.cell?_of_block (HI3.out.bel.block ab (by omega))).trans (HAc.out yn (by rw [HN.out]; omega))
            generalize ws.getD yn 0 = z at *
            have HPk := Lib.hid hpk
            have y0 : (0 : Int) ≤ (yn : Int) := by omega
            have y1 : (yn : Int) < (n : Int) := hyb.2
            have j0 : (0 : Int) ≤ (j : Int) := by omega
            have j1 : (j : Int) < (k : Int) + 1 := by omega
            have j2 : (j : Int) < ((k + 1 : Nat) : Int) := by omega
            have hxl2 : xb < wr.heap.size := by omega
            have hal2 : ab < wr.heap.size := by have := HI3.out.bel.size; omega
            clear hpk hown hab hyb
            gi_wp2_with (gi_at_builtin; refine wpListIn_append_own _ rfl _ _ 32 rfl W.heap.size 3 i0 _ 1 8 Tryz.underlying32 hi0 hz0 hz1 hz2 rfl (by decide) _ _ _ rfl (HO.out.alloc _) ⟨wr.heap.size, 0, none⟩ 1 1 [.int .i64 z] rfl rfl (cell_one_new _ _ _) (by simp [Value.oneCell']) (by simp only [maxLen]; omega) (by omega) (by simp; omega) ?_; intro v' w2 hown' hgrow _; obtain ⟨A3, c5, rfl, hc5, _⟩ := own_form hown'; have HO3 := Lib.hid hown'; have HB3 := Lib.hid (pg (pa HAb.out) (HO.out.alloc _) (Nat.le_refl _) hgrow); clear hown' hgrow)
            go_roundw
            case rel => exact ⟨j + 1, A3, c5, by go_num, by omega, rfl, by rw [HPk.out, List.map_append]; exact HO3.out, HB3.out⟩
            case measure => simp [intOf]; omega
          · have hjk : j = k + 1 := by omega
            subst hjk
            have ht : xs.take (k + 1) = xs := List.take_of_length_le (by rw [HX2.out]; exact Nat.le_refl _)
            rw [ht] at HO
            obtain ⟨ar, har⟩ : ∃ ar, ar = areaD d (pickL ws xs) := ⟨_, rfl⟩
            have HAr := Lib.hid (area_any wr.heap.size d (pickL ws xs) A2 (k + 1) c2 wr (intsIn_of_own HO.out) (by unfold pickL; rw [List.length_map]; exact HX2.out) (by omega) hok.1 HW.out)
            rw [← har] at HAr HLast
            have hc2 : k + 1 ≤ c2 := by
              obtain ⟨A9, c9, h9, h8, _⟩ := own_form HO.out
              injection h9 with _ _ h7
              omega
            obtain ⟨_, _, q1, _, _⟩ := HI3.out.best
            have l5 := q1.lt
            have c5 := q1.cellAt 0 rfl
            have f5 := q1.frozen 0
            have l6 := HI3.out.b11.lt
            have c6 := HI3.out.b11.cellAt 0 rfl
            have f6 := HI3.out.b11.frozen 0
            clear har ht hown hab
            have j2 : ¬ (((k + 1 : Nat) : Int) < ((k + 1 : Nat) : Int)) := by omega
            by_cases hgt : bs.2 < ar
            · gi_wp2_with (refine ⟨trivial, (fun h => nomatch h), ?_⟩; gi_at_call 53; refine (callsIn_wide.2 HAr.out).mono ?_; rintro e w' ⟨rfl, hw'⟩; subst hw')
              refine ⟨((keeps_below HAb.out).trans ((KeepsOthers.setCell _ _ _).trans (KeepsOthers.setCell _ _ _))).from _,
                ((KeepG.of_below HAb.out (fun q hq => by have := hq.2; omega) HX4.out).trans (KeepG.set (fun q hq => by have := hq.1; dsimp only; omega) (fun q hq => by have := HGb.out q hq; dsimp only; omega))).trans (KeepG.set (fun q hq => by have := hq.1; dsimp only; omega) (fun q hq => by have := HGb.out q hq; dsimp only; omega)),
                ?_, HC.out.keeps ((keeps_below HAb.out).trans ((KeepsOthers.setCell _ _ _).trans (KeepsOthers.setCell _ _ _)))⟩
              rw [HLast.out, if_pos hgt]
              exact HI3.out.store hh (base := W.heap.size) (by omega) HX4.out (by unfold pickL; rw [List.length_map]; exact HX2.out.symm) HO.out hc2
            · gi_wp2_with (refine ⟨trivial, (fun h => nomatch h), ?_⟩; gi_at_call 53; refine (callsIn_wide.2 HAr.out).mono ?_; rintro e w' ⟨rfl, hw'⟩; subst hw')
              refine ⟨(keeps_below HAb.out).from _, KeepG.of_below HAb.out (fun q hq => by have := hq.2; omega) HX4.out, ?_, HC.out.keeps (keeps_below HAb.out)⟩
              rw [HLast.out, if_neg (show ¬ bs.2 < ar by omega)]
              exact HI3.out
      case done =>
        rintro G D xs W hD hS ⟨hI, hC⟩ hK
        have HI := Lib.hid (show BestInv w (fun _ => False) d A n c bk (bestF (areaD d) (candU ws (k + 1)) ([], 0)) W by
          have e : List.map Prod.snd xs = allS ws.length (k + 1) 0 := by rw [HN.out]; exact hS
          rw [candU_succ, bestF_app, ← HB0.out, ← e]
          exact hI.weak (fun _ h => h.elim))
        have HC := Lib.hid (hC.cons (Nat.le_trans (by omega) hD) hK (fun D' h => by have := HD.out D' h; omega))
        clear hS hI hC HI2 HC2
        gi_wp2
        refine ⟨⟨_, _, _, _, _, _, _, _, _, _, _, _, _, _, _, _, _, _, _, _, _, _, _, _, _, _, _, _, _, _, _, _, _, _, _, _, _, D :: Ds, ⟨k + 1, by go_num, by omega, HI.out, HC.out⟩, rfl⟩, ?_⟩
        simp [intOf]; omega
      case stop =>
        rintro G D c' pre W hD hSp hf hK
        exact hf.elim
    · have hlt2 : ¬ (k : Int) < (mn : Int) := by omega
      have hkm : k = mn := by omega
      subst hkm
      have HF := Lib.hid (show bestF (areaD d) (candU ws k) ([], 0) = bestD d ws most by
        unfold bestD candU candL
        rw [HN.out, HMn.out])
      rw [HF.out] at HI
      obtain ⟨bs, hbs⟩ : ∃ bs, bs = bestD d ws most := ⟨_, rfl⟩
      rw [← hbs] at HI
      have HBs := Lib.hid hbs
      clear hbs HF
      obtain ⟨A', c', q1, q2, q3⟩ := HI.out.best
      have Q2 := Lib.hid q2
      have c5 := q1.cellAt 0 rfl
      have c6 := HI.out.b11.cellAt 0 rfl
      have l5 := q1.lt
      have l6 := HI.out.b11.lt
      clear q2
      gi_wp2
      refine region_belowIn (fun _ => trivial) rfl (fun _ _ _ _ h => callsIn_wide.2 h) 4 follows_mixed (by kernel_rfl) (by kernel_rfl) ?_
      intro C hC
      simp only [List.take_succ_cons, List.take_zero, List.drop_succ_cons, List.drop_zero]
      repeat (first
        | ((with_reducible refine quiet_plain rfl (fun K hK => ?_)); (focus (apply quiet_val; (focus (intro w' hw; obtain ⟨hcq, hfq⟩ := bcell ((hC.out _).1 hw); go_simp; (first | done | rfl))); (simp only [Act.put, List.setIfInBounds_toArray, List.set_cons_succ, List.set_cons_zero]); (with_reducible refine hK _ ?_); clear hK K)))
        | ((with_reducible refine quiet_skip ?_ ?_); (focus (first | (simp [Region.wanted, yielded]; done) | (simp [Region.wanted, yielded, undef]; done))); simp only [Act.put, List.setIfInBounds_toArray, List.set_cons_succ, List.set_cons_zero])
        | ((with_reducible refine quiet_go ?_ (fun K hK => ?_)); (focus (first | (simp [Region.wanted, yielded]; done) | (simp [Region.wanted, yielded, undef]; done))); (focus (apply quiet_val; (focus (intro w' hw; obtain ⟨hcq, hfq⟩ := bcell ((hC.out _).1 hw); go_simp; (first | done | rfl))); (simp only [Act.put, List.setIfInBounds_toArray, List.set_cons_succ, List.set_cons_zero]); (with_reducible refine hK _ ?_); clear hK K))))
      refine wpQuiet_nil ?_
      intro w1 hb1
      replace hb1 := (hC.out _).1 hb1
      clear hC C
      obtain ⟨hc1, hf1⟩ := bcell hb1
      have HB7 := Lib.hid hb1
      clear hb1 hc1 hf1
      gi_wp2
      refine leaves_coll (B := w.heap.size) (HC.out.keeps (keeps_below HB7.out)) (fun W' hW' hk' => ?_)
      refine ⟨.tuple #[.slice A' bs.1.length c', .int .i64 bs.2, .int .i64 0], by simp [results, Tryz.results28, go_sem], ?_⟩
      rw [← HBs.out]
      refine ⟨A', c', rfl, ?_, q3, (HI.out.bel.trans (HB7.out.mono HI.out.bel.size)).trans hW'⟩
      rcases Q2.out with h | ⟨b, off, q4, _, _, q6, q7⟩
      · exact .inl h
      · exact .inr ⟨b, off, q4, Nat.lt_of_lt_of_le (Nat.lt_of_lt_of_le q6 HB7.out.size) hW'.size, fun j hj => cell_keeps hk' ((World.cell?_of_block (HB7.out.block b q6)).trans (q7 j hj))⟩

def stepsB (d : Int) (ws : List Int) (most : Int) : List Int × Int := if stepsE d ws most = 0 then bestD d ws most.toNat else ([], 0)
/-- The contract of BestSteps for whatever numbers. -/
theorem bestSteps_any (B : Nat) (d : Int) (ws : List Int) (A : Option Addr) (n c : Nat) (most : Int) (w : World) (hr : IntsIn B w A ws) (hB : B ≤ w.heap.size) (hn : ws.length = n) (hm : n ≤ 1000) :
    Calls Tryz.prog 28 #[.int .i64 d, .slice A n c, .int .i64 most] w (StepsRet w (stepsB d ws most).1 (stepsB d ws most).2 (stepsE d ws most)) := by
  unfold stepsB
  by_cases h0 : stepsE d ws most = 0
  · rw [if_pos h0, h0]
    have hmo := (unless_ne (by decide)).1 (firstV_zero.1 (firstV_zero.1 h0).2).1
    simp only [withinB, Bool.and_eq_true, decide_eq_true_eq] at hmo
    obtain ⟨q, rfl⟩ : ∃ q : Nat, most = (q : Int) := ⟨most.toNat, by omega⟩
    rw [Int.toNat_natCast]
    exact callsIn_wide.1 (bestSteps_in 1 B d ws A n c q w (Nat.le_refl _) hr hB hn h0)
  · rw [if_neg h0]
    exact bestSteps_err B d ws A n c most w hr hB hn hm h0

end Go.Proofs.YtnfbdkdjoekifaaGreatDoor
end
