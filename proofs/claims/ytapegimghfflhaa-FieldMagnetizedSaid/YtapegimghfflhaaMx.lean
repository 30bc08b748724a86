/- Plain law on networks: around each loop; the reduced solution (chapter 3). No condition.
A field in memory, and while it is made. No condition. -/
import Derived.Test.YtapegimghfflhaaMw
import Derived.Test.YtapegimghfflhaaMq
import Derived.Test.YtapegimghfflhaaMs
import Derived.Test.YtapegimghfflhaaMt

section
namespace Go.Proofs.Ytapegimghfflhaa

section
variable {N : Nat} {bs : List FBr} {t : List Int}
theorem trn_get {j : Nat} (hj : j < bs.length) : (trnV bs).getD j 0 = (bs.getD j default).t := by
  unfold trnV
  simp [List.getD, hj]
theorem trn_len (bs : List FBr) : (trnV bs).length = bs.length := by unfold trnV; rw [List.length_map]
/-- The fluxes and the potentials before they are reduced. -/
def potV (bs : List FBr) (N : Nat) : List Int := potTo bs N (forestV bs N).hangs (fluxesV (loopsV bs N) (relV bs) (trnV bs)).1 (fluxesV (loopsV bs N) (relV bs) (trnV bs)).2 (forestV bs N).order (forestV bs N).order.length
end
/-! The common divisor. -/
section
variable {N : Nat} {bs : List FBr}
/-- The common divisor of the solution. -/
def redG (bs : List FBr) (N : Nat) : Int := gcdTo (gcdTo (fluxesV (loopsV bs N) (relV bs) (trnV bs)).2 (potV bs N) (potV bs N).length) (fluxesV (loopsV bs N) (relV bs) (trnV bs)).1 (fluxesV (loopsV bs N) (relV bs) (trnV bs)).1.length
theorem solved_is (bs : List FBr) (N : Nat) : solvedV bs N = ((fluxesV (loopsV bs N) (relV bs) (trnV bs)).2.tdiv (redG bs N), (potV bs N).map (·.tdiv (redG bs N)), (fluxesV (loopsV bs N) (relV bs) (trnV bs)).1.map (·.tdiv (redG bs N))) := rfl
theorem potV_len (bs : List FBr) (N : Nat) : (potV bs N).length = N := pot_len ..
theorem flx_len (L : List (List Int)) (r t : List Int) : (fluxesV L r t).1.length = t.length := by rw [fluxes_is]; exact flowsT_len ..
theorem trn_small (hn : NetOk N bs) (j : Nat) : -50 ≤ (trnV bs).getD j 0 ∧ (trnV bs).getD j 0 ≤ 50 := by
  by_cases hj : j < bs.length
  · rw [trn_get hj]
    exact (br_small hn j).2
  · have : (trnV bs).getD j 0 = 0 := by rw [List.getD_eq_getElem?_getD, List.getElem?_eq_none (by rw [trn_len]; omega)]; rfl
    rw [this]; decide
theorem own_small (hn : NetOk N bs) : FlxSm (loopsV bs N) (relV bs) (trnV bs) := flx_small hn (trn_small hn) (trn_len bs)
theorem red_pos (hn : NetOk N bs) : 0 < redG bs N := (gcdTo_pos (gcdTo_pos (own_small hn).den.1 _ _).1 _ _).1
theorem getD_out (l : List Int) {j : Nat} (h : l.length ≤ j) : l.getD j 0 = 0 := by rw [List.getD_eq_getElem?_getD, List.getElem?_eq_none h]; rfl
/-- What holds of the reduced solution. -/
structure SolOk (N : Nat) (bs : List FBr) (d : Int) (P F : List Int) : Prop where
  den : 1 ≤ d
  lp : P.length = N
  lf : F.length = bs.length
  law : ∀ i, i < bs.length → (bs.getD i default).r * F.getD i 0 = P.getD (bs.getD i default).a.toNat 0 - P.getD (bs.getD i default).b.toNat 0 + (bs.getD i default).t * d
  bal : ∀ v, sumZ (fun j => incZ bs v j * F.getD j 0) bs.length = 0
  root : ∀ k, k < N → (forestV bs N).low.getD k 0 = (k : Int) → P.getD k 0 = 0
end
end Go.Proofs.Ytapegimghfflhaa
end

section
namespace Go.Proofs.Ytapegimghfflhaa
open Go.RowKit

/-- A field of a valid network: its block, the network's branches, the forest, the loops, the reluctances. -/
structure FldAt (B N : Nat) (bs : List FBr) (f : Nat) (w : World) : Prop where
  ex : ∃ (A gl gh AO LA RA : Option Addr) (c cl ch cO lc rc : Nat), Blk w f 107 (fldA N A bs.length c (.slice gl N cl) (.slice gh N ch) (.slice AO (forestV bs N).order.length cO) (.slice LA (loopsV bs N).length lc) (.slice RA bs.length rc)) ∧ f < B ∧ CellsIn B w A (brsC bs) ∧ IntsIn B w gl (forestV bs N).low ∧ IntsIn B w gh (forestV bs N).hangs ∧ IntsIn B w AO ((forestV bs N).order.map (fun (k : Nat) => (k : Int))) ∧ LoopsIn B w LA (loopsV bs N) bs.length ∧ IntsIn B w RA (relV bs)
theorem LoopsIn.more {B B' : Nat} {w : World} {LA : Option Addr} {L : List (List Int)} {m : Nat} (h : LoopsIn B w LA L m) (hB : B ≤ B') : LoopsIn B' w LA L m := by
  refine ⟨?_, h.len⟩
  rcases h.at_ with h1 | ⟨lb, lo, h1, h2, h3⟩
  · exact .inl h1
  · refine .inr ⟨lb, lo, h1, Nat.lt_of_lt_of_le h2 hB, fun i hi => ?_⟩
    obtain ⟨A, c, h4, h5⟩ := h3 i hi
    exact ⟨A, c, h4, h5.more hB⟩
theorem FldAt.below {B N : Nat} {bs : List FBr} {f : Nat} {w w' : World} (h : FldAt B N bs f w) (hb : Below B w w') : FldAt B N bs f w' := by
  obtain ⟨A, gl, gh, AO, LA, RA, c, cl, ch, cO, lc, rc, h1, h2, h3, h4, h5, h6, h7, h8⟩ := h.ex
  exact ⟨A, gl, gh, AO, LA, RA, c, cl, ch, cO, lc, rc, (hb.block f h2).trans h1, h2, h3.below hb, h4.below hb, h5.below hb, h6.below hb, h7.below hb, h8.below hb⟩
theorem FldAt.more {B B' N : Nat} {bs : List FBr} {f : Nat} {w : World} (h : FldAt B N bs f w) (hB : B ≤ B') : FldAt B' N bs f w := by
  obtain ⟨A, gl, gh, AO, LA, RA, c, cl, ch, cO, lc, rc, h1, h2, h3, h4, h5, h6, h7, h8⟩ := h.ex
  exact ⟨A, gl, gh, AO, LA, RA, c, cl, ch, cO, lc, rc, h1, Nat.lt_of_lt_of_le h2 hB, h3.more hB, h4.more hB, h5.more hB, h6.more hB, h7.more hB, h8.more hB⟩
theorem FldAt.past {B N : Nat} {bs : List FBr} {f : Nat} {w w' : World} (h : FldAt B N bs f w) (hB : B ≤ w.heap.size) (hb : Below w.heap.size w w') : FldAt w'.heap.size N bs f w' := (h.below (hb.mono hB)).more (Nat.le_trans hB hb.size)

/-- The slices of rows of numbers, each in a block of its own. -/
def vecsC (g : Nat → Nat) (n q : Nat) : List Value := (List.range q).map fun i => .slice (some ⟨g i, 0, none⟩) n n
theorem vecsC_len (g : Nat → Nat) (n q : Nat) : (vecsC g n q).length = q := by simp [vecsC]
theorem vecsC_next (g : Nat → Nat) (n q gi : Nat) : vecsC (fun i => if i = q then gi else g i) n (q + 1) = vecsC g n q ++ [.slice (some ⟨gi, 0, none⟩) n n] := by
  unfold vecsC
  rw [List.range_succ, List.map_append]
  congr 1
  · refine List.map_congr_left fun i hi => ?_
    have : i < q := List.mem_range.1 hi
    dsimp only
    rw [if_neg (by omega)]
  · simp
/-- A field while it is made: reluctances xs and loops L so far, in rows of its own. -/
structure FldMk (qb f : Nat) (N : Nat) (A : Option Addr) (n c : Nat) (lo ha od : Value) (xs : List Int) (L : List (List Int)) (LA RA : Option Addr) (lc rc : Nat) (w : World) : Prop where
  blk : Blk w f 107 (fldA N A n c lo ha od (.slice LA L.length lc) (.slice RA xs.length rc))
  lt : f < qb
  rel : w.ownsRow qb 3 1 (.slice RA xs.length rc) xs.length (xs.map (Value.int .i64))
  lps : ∃ g : Nat → Nat, w.ownsRow qb 81 1 (.slice LA L.length lc) L.length (vecsC g n L.length) ∧ ∀ i, i < L.length → Blk w (g i) 3 (intA (L.getD i [])) ∧ qb ≤ g i ∧ some (g i) ≠ (Value.slice RA xs.length rc).ownBlock
section
variable {qb f N n c : Nat} {A LA RA : Option Addr} {lo ha od : Value} {xs : List Int} {L : List (List Int)} {lc rc : Nat} {w w' : World}
theorem FldMk.past (h : FldMk qb f N A n c lo ha od xs L LA RA lc rc w) (hb : Below w.heap.size w w') : FldMk qb f N A n c lo ha od xs L LA RA lc rc w' := by
  obtain ⟨g, h1, h2⟩ := h.lps
  exact ⟨h.blk.past hb, h.lt, ownPast hb h.rel, g, ownPast hb h1, fun i hi => ⟨(h2 i hi).1.past hb, (h2 i hi).2⟩⟩
theorem keptNe {base base' size size' n' m : Nat} {e e' : TypeId} {v v' : Value} {us us' : List Value} (h : w.ownsRow base e size v n' us) (h' : w.ownsRow base' e' size' v' m us') (hg : w.grownBy w' v'.ownBlock) (hne : e' ≠ e) : w'.ownsRow base e size v n' us := by
  refine h.kept hg ?_
  cases hv : v.ownBlock with
  | none => exact .inl rfl
  | some g =>
    refine .inr ?_
    rcases h.2 with ⟨h1, _⟩ | ⟨g', cap, cur, h1, _, hh, _⟩
    · rw [h1] at hv; cases hv
    · rw [h1] at hv
      have e2 : g' = g := by simpa [Value.ownBlock] using hv
      subst e2
      exact ownNe h' hh hne
/-- One more reluctance. -/
theorem FldMk.rel1 (h : FldMk qb f N A n c lo ha od xs L LA RA lc rc w) {x : Int} {RA' : Option Addr} {rc' : Nat} (ho : w'.ownsRow qb 3 1 (.slice RA' (xs.length + 1) rc') (xs.length + 1) (xs.map (Value.int .i64) ++ [.int .i64 x])) (hg : w.grownBy w' (Value.slice RA xs.length rc).ownBlock) (hat : (Value.slice RA' (xs.length + 1) rc').ownBlock = (Value.slice RA xs.length rc).ownBlock ∨ (Value.slice RA' (xs.length + 1) rc').ownBlock = some w.heap.size) :
    FldMk qb f N A n c lo ha od (xs ++ [x]) L LA RA' lc rc' (w'.setCell ⟨f, 6, none⟩ (.slice RA' (xs.length + 1) rc')) := by
  obtain ⟨g, h1, h2⟩ := h.lps
  have hB : Blk w' f 107 (fldA N A n c lo ha od (.slice LA L.length lc) (.slice RA xs.length rc)) := h.blk.grown hg (ownNe h.rel h.blk (by decide))
  have hS := hB.set_ 6 (.slice RA' (xs.length + 1) rc')
  have hl : (xs ++ [x]).length = xs.length + 1 := by simp
  refine ⟨?_, h.lt, ?_, g, ?_, fun i hi => ?_⟩
  · rw [hl]; exact hS
  · rw [hl, List.map_append]
    exact ownFar ho (q := ⟨f, 6, none⟩) h.lt _
  · exact ownFar (keptNe h1 h.rel hg (by decide)) (q := ⟨f, 6, none⟩) h.lt _
  · obtain ⟨k1, k2, k3⟩ := h2 i hi
    have hlt := h.lt
    refine ⟨(k1.grown hg k3).far (p := ⟨f, 6, none⟩) (by dsimp only; omega), k2, ?_⟩
    rw [hl]
    rcases hat with e | e
    · rw [e]; exact k3
    · rw [e]
      intro e2
      injection e2 with e2
      have := k1.lt
      omega
/-- One more loop: it lies in a block behind all others. -/
theorem FldMk.loop1 (h : FldMk qb f N A n c lo ha od xs L LA RA lc rc w) {l : List Int} {gi : Nat} (hgi : Blk w gi 3 (intA l)) (hge : qb ≤ gi) (hne : some gi ≠ (Value.slice RA xs.length rc).ownBlock) {g : Nat → Nat} (h1 : w.ownsRow qb 81 1 (.slice LA L.length lc) L.length (vecsC g n L.length)) (h2 : ∀ i, i < L.length → Blk w (g i) 3 (intA (L.getD i [])) ∧ qb ≤ g i ∧ some (g i) ≠ (Value.slice RA xs.length rc).ownBlock) {LA' : Option Addr} {lc' : Nat} (ho : w'.ownsRow qb 81 1 (.slice LA' (L.length + 1) lc') (L.length + 1) (vecsC g n L.length ++ [.slice (some ⟨gi, 0, none⟩) n n])) (hg : w.grownBy w' (Value.slice LA L.length lc).ownBlock) :
    FldMk qb f N A n c lo ha od xs (L ++ [l]) LA' RA lc' rc (w'.setCell ⟨f, 5, none⟩ (.slice LA' (L.length + 1) lc')) := by
  have hlt := h.lt
  have hB : Blk w' f 107 (fldA N A n c lo ha od (.slice LA L.length lc) (.slice RA xs.length rc)) := h.blk.grown hg (ownNe h1 h.blk (by decide))
  have hS := hB.set_ 5 (.slice LA' (L.length + 1) lc')
  have hl : (L ++ [l]).length = L.length + 1 := by simp
  refine ⟨?_, h.lt, ?_, fun i => if i = L.length then gi else g i, ?_, fun i hi => ?_⟩
  · rw [hl]; exact hS
  · exact ownFar (keptNe h.rel h1 hg (by decide)) (q := ⟨f, 5, none⟩) h.lt _
  · rw [hl, vecsC_next]
    exact ownFar ho (q := ⟨f, 5, none⟩) h.lt _
  · dsimp only
    by_cases e : i = L.length
    · rw [if_pos e]
      have e2 : (L ++ [l]).getD i [] = l := by simp [List.getD, e]
      rw [e2]
      exact ⟨(hgi.grown hg (ownNe h1 hgi (by decide))).far (p := ⟨f, 5, none⟩) (by dsimp only; omega), hge, hne⟩
    · have hi2 : i < L.length := by rw [hl] at hi; omega
      rw [if_neg e]
      have e2 : (L ++ [l]).getD i [] = L.getD i [] := by simp [List.getD, List.getElem?_append_left hi2]
      rw [e2]
      obtain ⟨k1, k2, k3⟩ := h2 i hi2
      exact ⟨(k1.grown hg (ownNe h1 k1 (by decide))).far (p := ⟨f, 5, none⟩) (by dsimp only; omega), k2, k3⟩
/-- The field is made. -/
theorem FldMk.fld {bs : List FBr} {gl gh AO : Option Addr} {cl ch cO : Nat} (h : FldMk qb f N A bs.length c (.slice gl N cl) (.slice gh N ch) (.slice AO (forestV bs N).order.length cO) (relV bs) (loopsV bs N) LA RA lc rc w) (hA : CellsIn w.heap.size w A (brsC bs)) (hl : IntsIn w.heap.size w gl (forestV bs N).low) (hh : IntsIn w.heap.size w gh (forestV bs N).hangs) (hO : IntsIn w.heap.size w AO ((forestV bs N).order.map (fun (k : Nat) => (k : Int)))) (hn : NetOk N bs) : FldAt w.heap.size N bs f w := by
  obtain ⟨g, h1, h2⟩ := h.lps
  have hrl : (relV bs).length = bs.length := by unfold relV; rw [List.length_map]
  have hb := h.blk
  rw [hrl] at hb
  refine ⟨A, gl, gh, AO, LA, RA, c, cl, ch, cO, lc, rc, hb, h.blk.lt, hA, hl, hh, hO, ⟨?_, fun i hi => (loopsV_ok hn).len _ (by rw [List.getD_eq_getElem?_getD, List.getElem?_eq_getElem hi]; exact List.getElem_mem hi)⟩, ?_⟩
  · rcases cellsIn_of_own h1 with h3 | ⟨lb, lo2, h3, h4, h5⟩
    · refine .inl (List.eq_nil_of_length_eq_zero ?_)
      have := congrArg List.length h3
      rw [vecsC_len] at this
      exact this
    · refine .inr ⟨lb, lo2, h3, h4, fun i hi => ⟨some ⟨g i, 0, none⟩, bs.length, ?_, intA_ints (h2 i hi).1⟩⟩
      refine (h5 i (by rw [vecsC_len]; exact hi)).trans ?_
      simp [vecsC, hi]
  · exact (cellsIn_of_own h.rel).ints
end
end Go.Proofs.Ytapegimghfflhaa
end
