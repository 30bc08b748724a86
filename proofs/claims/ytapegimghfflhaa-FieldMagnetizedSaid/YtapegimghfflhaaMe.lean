/- Contract: the pieces of a curve, one after the other (package field).
A range over a function whose iterator stores into memory of its own (XD2JRngG), and whose round begins with a box for what is handed (ARangeB). No condition. -/
import Derived.Test.YtapegimghfflhaaM7
import Derived.Test.YtapegimghfflhaaMc
import Derived.Test.YtapegimghfflhaaMd
import Derived.Test.YtapegimghfflhaaM6
import Derived.Test.YtapegimghfflhaaM9

section
namespace Go.Proofs.Ytapegimghfflhaa
open Go.RowKit Go.Shelf
attribute [local go_sem] Oper.semAt_some undef

/-- What a round keeps for the iterator: what has been made since the loop began, and what of S was there. -/
structure KeepF (S : Nat → Prop) (W0 A A' : World) : Prop where
  above : Above W0.heap.size A A'
  own : ∀ k, S k → k < A.heap.size → A'.heap[k]? = A.heap[k]?
theorem KeepF.trans {S : Nat → Prop} {W A B C : World} (h : KeepF S W A B) (k : KeepF S W B C) : KeepF S W A C := ⟨h.above.trans k.above, fun i hi h2 => (k.own i hi (Nat.lt_of_lt_of_le h2 h.above.size)).trans (h.own i hi h2)⟩
theorem KeepF.put {S : Nat → Prop} {W A : World} {l : Nat} (o' : Obj) (hS : ∀ k, S k → k ≠ l) (hl : l < W.heap.size) : KeepF S W A (A.putObj l o') :=
  ⟨⟨by simp, fun k hk _ => World.putObj_heap_other (by omega)⟩, fun k hk _ => World.putObj_heap_other (hS k hk)⟩
theorem KeepF.of_below {S : Nat → Prop} {W A A' : World} (h : Below A.heap.size A A') : KeepF S W A A' := ⟨Above.of_below h, fun k _ hk => h.block k hk⟩
theorem KeepF.cell {S : Nat → Prop} {W A : World} {p : Addr} {u : Value} (hS : ∀ k, S k → k ≠ p.block) (hp : p.block < W.heap.size) : KeepF S W A (A.setCell p u) :=
  ⟨⟨by simp, fun k hk _ => Below.heap_setCell A p u k (by omega)⟩, fun k hk _ => Below.heap_setCell A p u k (hS k hk)⟩
theorem KeepF.blk {S : Nat → Prop} {W A A' : World} (h : KeepF S W A A') {g : Nat} {t : TypeId} {cs : Array Value} (hb : Blk A g t cs) (hg : S g ∨ W.heap.size ≤ g) : Blk A' g t cs := by
  have hlt := hb.lt
  have e : A'.heap[g]? = A.heap[g]? := by
    rcases hg with hg | hg
    · exact h.own g hg hlt
    · exact h.above.block g hg hlt
  exact e.trans hb

def pEnc (x : PieceR) : Array Value := #[.agg #[.int .i64 x.1.1, .int .i64 x.1.2, .int .i64 x.2.1.1, .int .i64 x.2.1.2], .bool x.2.2]
/-- The numbers of a piece are small. -/
def PieceOk (x : PieceR) : Prop := (0 ≤ x.1.1 ∧ x.1.1 ≤ 1000000) ∧ (0 ≤ x.1.2 ∧ x.1.2 ≤ 1000000) ∧ (-1000000 ≤ x.2.1.1 ∧ x.2.1.1 ≤ 1000000) ∧ -1000000 ≤ x.2.1.2 ∧ x.2.1.2 ≤ 1000000
def PtsOk (ps : List DTerm) : Prop := ps.length ≤ 20 ∧ ∀ t ∈ ps, (0 ≤ t.f ∧ t.f ≤ 1000000) ∧ 0 ≤ t.q ∧ t.q ≤ 1000000

theorem pieces_any (A : Option Addr) (n c : Nat) (w : World) :
    Calls Try.prog 48 #[.agg #[.slice A n c]] w fun e w' =>
      e = .returned (.func (.func 62) #[] #[.pointer (some ⟨w.heap.size, 0, none⟩)]) ∧ w' = (w.alloc (.cells #[.slice A n c] 24)) := by
  go_enter Try.func48, Try.ntmps48
  go_wp2
  go_ret
  exact ⟨rfl, rfl⟩

set_option maxRecDepth 100000 in
set_option maxHeartbeats 8000000 in
theorem pieces_seq (m B : Nat) (ps : List DTerm) (A : Option Addr) (n c : Nat) (b1 : Nat) (w0 : World)
    (hr : CellsIn B w0 A (termsC ps)) (hB : B ≤ w0.heap.size) (hn : ps.length = n) (ho : PtsOk ps)
    (_h1 : b1 < w0.heap.size) (c1 : Blk w0 b1 24 #[.slice A n c]) :
    SeqG m Try.prog 62 #[] #[.pointer (some ⟨b1, 0, none⟩)] pEnc (fun _ x _ => PieceOk x) (fun _ => KeepF (fun k => k < B ∨ k = b1))
      (fun xs => xs = pieceL ps) (fun pre => pre ≠ [] ∧ pre <+: pieceL ps) n w0 := by
  intro l J Jx W hW hJ hJx hY h0
  have hG : ∀ k, k = W.heap.size → W.heap.size ≤ k := fun k hk => by omega
  have hWB := Nat.le_trans hB hW.size
  have HR := Lib.hid (hr.below (hW.mono hB))
  have HN := Lib.hid hn
  have HO := Lib.hid ho
  have HY := Lib.hid (hY (· = W.heap.size) hG)
  have HJ := Lib.hid (hJ (· = W.heap.size) hG)
  have H0 := Lib.hid (h0 (· = W.heap.size) hG)
  have C1 := Lib.hid (c1.past hW)
  have hn20 : n ≤ 20 := by rw [← hn]; exact ho.1
  have d0 := C1.out.cellAt 0 rfl
  have dl := C1.out.lt
  clear hY hJ hJx h0 c1 hr hn ho
  refine callsIn_of_wp Try.func62 rfl trivial ?_ rfl
  simp only [undef, Try.ntmps62, List.size_toArray, List.length_cons, List.length_nil, Nat.reduceAdd, Nat.reduceSub, Array.replicate_succ, Array.replicate_zero, List.push_toArray, List.append_toArray, List.nil_append, List.cons_append]
  gi_wp2
  have HS0 := Lib.hid (show ∃ g, g = W.heap.size ∧ J (· = W.heap.size) ((pieceL ps).take 0) (W.alloc (.cells #[.int .i64 0, .int .i64 0] 89)) ∧ Blk (W.alloc (.cells #[.int .i64 0, .int .i64 0] 89)) g 89 #[.int .i64 0, .int .i64 0] ∧ Blk (W.alloc (.cells #[.int .i64 0, .int .i64 0] 89)) b1 24 #[.slice A n c] ∧ CellsIn B (W.alloc (.cells #[.int .i64 0, .int .i64 0] 89)) A (termsC ps) ∧ B ≤ (W.alloc (.cells #[.int .i64 0, .int .i64 0] 89)).heap.size ∧ W.heap.size ≤ g from
    ⟨_, rfl, abG_past HJ.out H0.out (pa pr), Blk.newAt rfl, C1.out.past (pa pr), HR.out.below ((pa pr).mono hWB), Nat.le_trans hWB (pa pr : Below W.heap.size W _).size, Nat.le_refl _⟩)
  generalize W.alloc (.cells #[.int .i64 0, .int .i64 0] 89) = v0 at *
  obtain ⟨g, hg, hs0⟩ := HS0.out
  rw [← hg]
  have HS1 := Lib.hid hs0
  have HGe := Lib.hid hg
  have hgW := hs0.2.2.2.2.2
  clear HS0 hs0 hg C1 d0 dl
  gi_loopw [10] (fun iv wr => ∃ k : Nat, iv = .int .i64 (k : Int) ∧ k ≤ n ∧ J (· = W.heap.size) ((pieceL ps).take k) wr ∧ Blk wr g 89 #[.int .i64 (fromP ps k).1, .int .i64 (fromP ps k).2] ∧ Blk wr b1 24 #[.slice A n c] ∧ CellsIn B wr A (termsC ps) ∧ B ≤ wr.heap.size) (fun iv _ => n - (intOf iv).toNat)
  case atStart => exact ⟨0, rfl, Nat.zero_le _, HS1.out.1, HS1.out.2.1, HS1.out.2.2.1, HS1.out.2.2.2.1, HS1.out.2.2.2.2.1⟩
  case round =>
    clear HS1
    obtain ⟨k, rfl, hk, hj, q4, qc, hrq, hBw⟩ := hrel
    have QC := Lib.hid qc
    have d0 := qc.cellAt 0 rfl
    have dl := qc.lt
    clear qc
    have HJ1 := Lib.hid hj
    have Q4 := Lib.hid q4
    have HRq := Lib.hid hrq
    by_cases hlt : k < n
    · have hk' : k < ps.length := by rw [HN.out]; exact hlt
      obtain ⟨b, off, rfl, hb, hct⟩ := terms_at HRq.out hk'
      obtain ⟨u0, u1⟩ := hct k hk'
      have hto := HO.out.2 _ (getD_mem' hk')
      have htake := pieceL_take hk'
      have hlen : ((pieceL ps).take k).length < n := by rw [List.length_take, pieceL_len, HN.out]; omega
      have HTk := Lib.hid htake
      have HLen := Lib.hid hlen
      have hpa : pieceAt ps k = (fromP ps k, ((ps.getD k default).f - (fromP ps k).1, (ps.getD k default).q - (fromP ps k).2), decide (k + 1 = ps.length)) := rfl
      have HPA := Lib.hid hpa
      clear hct hj q4 hrq htake hlen hpa
      have HFr := Lib.hid (show fromP ps (k + 1) = ((ps.getD k default).f, (ps.getD k default).q) from rfl)
      have hfr : (0 ≤ (fromP ps k).1 ∧ (fromP ps k).1 ≤ 1000000) ∧ 0 ≤ (fromP ps k).2 ∧ (fromP ps k).2 ≤ 1000000 := by
        cases k with
        | zero => exact ⟨⟨Int.le_refl _, show (0 : Int) ≤ 1000000 by decide⟩, Int.le_refl _, show (0 : Int) ≤ 1000000 by decide⟩
        | succ k => exact HO.out.2 _ (getD_mem' (by omega))
      clear hk'
      generalize fromP ps k = fr at *
      obtain ⟨fa, fb⟩ := fr
      generalize ps.getD k default = tm at *
      obtain ⟨tf, tq⟩ := tm
      dsimp only at *
      have e1 : IntKind.i64.wrap (tf - fa) = tf - fa := IntWalk.i64_in _ (by omega)
      have e2 : IntKind.i64.wrap (tq - fb) = tq - fb := IntWalk.i64_in _ (by omega)
      have e3 : IntKind.i64.wrap ((n : Int) - 1) = (n : Int) - 1 := IntWalk.i64_in _ (by omega)
      have e1' : wrap64 (tf - fa) = tf - fa := w64 (by omega)
      have e2' : wrap64 (tq - fb) = tq - fb := w64 (by omega)
      have e3' : wrap64 ((n : Int) - 1) = (n : Int) - 1 := w64 (by omega)
      have HPx := Lib.hid (show ∀ bo : Bool, PieceOk ((fa, fb), (tf - fa, tq - fb), bo) from fun bo => by
        unfold PieceOk
        dsimp only
        omega)
      clear hto hfr
      have hbw : b < wr.heap.size := by omega
      have gl := Q4.out.lt
      have x0 := Q4.out.cellAt 0 rfl
      have x1 := Q4.out.cellAt 1 rfl
      have HX := Lib.hid (show pieceAt ps k = ((fa, fb), (tf - fa, tq - fb), ((k : Int) == (n : Int) - 1)) by
        rw [HPA.out, HN.out]
        congr 2
        have e4 : (k + 1 = n) ↔ ((k : Int) = (n : Int) - 1) := by omega
        by_cases e5 : k + 1 = n
        · rw [decide_eq_true e5, beq_iff_eq.2 (e4.1 e5)]
        · rw [decide_eq_false e5]
          exact (beq_eq_false_iff_ne.2 fun e => e5 (e4.2 e)).symm)
      obtain ⟨fn, tmps, assign, body, hy, hR⟩ := HY.out ((pieceL ps).take k) ((fa, fb), (tf - fa, tq - fb), ((k : Int) == (n : Int) - 1)) ((wr.alloc (.cells #[.int .i64 tf, .int .i64 tq] 89)).alloc (.cells #[.int .i64 (tf - fa), .int .i64 (tq - fb)] 89)) (abG_past HJ.out HJ1.out (pa (pa pr))) (HPx.out _) HLen.out
      unfold pEnc at hy
      dsimp only at hy
      have HB2 := Lib.hid (show Below wr.heap.size wr ((wr.alloc (.cells #[.int .i64 tf, .int .i64 tq] 89)).alloc (.cells #[.int .i64 (tf - fa), .int .i64 (tq - fb)] 89)) from pa (pa pr))
      have HP2 := Lib.hid (show Blk ((wr.alloc (.cells #[.int .i64 tf, .int .i64 tq] 89)).alloc (.cells #[.int .i64 (tf - fa), .int .i64 (tq - fb)] 89)) wr.heap.size 89 #[.int .i64 tf, .int .i64 tq] from (Blk.newAt rfl).alloc)
      gi_wp2
      refine ⟨(fun h => nomatch h), (roundIn_any hR).mono ?_⟩
      generalize (wr.alloc (.cells #[.int .i64 tf, .int .i64 tq] 89)).alloc (.cells #[.int .i64 (tf - fa), .int .i64 (tq - fb)] 89) = w2 at *
      rintro e W3 (⟨rfl, hJ3, hk3⟩ | ⟨rfl, hJx3⟩)
      · have G3 := Lib.hid (show Blk W3 g 89 #[.int .i64 fa, .int .i64 fb] from hk3.blk (Q4.out.past HB2.out) (.inr hgW))
        have P3 := Lib.hid (show Blk W3 wr.heap.size 89 #[.int .i64 tf, .int .i64 tq] from hk3.blk HP2.out (.inr (by omega)))
        have p0 := P3.out.cellAt 0 rfl
        have p1 := P3.out.cellAt 1 rfl
        have pl := P3.out.lt
        clear x0 x1 u0 u1 d0 dl hR hy
        have hbg : b1 ≠ g := by have := hW.size; omega
        have q0 := G3.out.cellAt 0 rfl
        have q1 := G3.out.cellAt 1 rfl
        have f0 := G3.out.frozen 0
        have f1 := G3.out.frozen 1
        have gl3 := G3.out.lt
        gi_wp2
        go_roundw
        case rel => exact ⟨k + 1, by go_num, by omega, by rw [HTk.out, HX.out]; exact abG_set HJ.out HGe.out (abG_set HJ.out HGe.out hJ3 _ _) _ _, by rw [HFr.out]; simpa using (G3.out.set_ 0 (.int .i64 tf)).set_ 1 (.int .i64 tq), ((hk3.blk (QC.out.past HB2.out) (.inl (.inr rfl))).far (p := ⟨g, 0, none⟩) (u := .int .i64 tf) hbg).far (p := ⟨g, 1, none⟩) (u := .int .i64 tq) hbg, (HRq.out.below (HB2.out.mono hBw)).keep (fun b o hb => ((World.cell?_setCell_other _ _ _ _ (fun e => by cases e; omega)).trans (World.cell?_setCell_other _ _ _ _ (fun e => by cases e; omega))).trans (World.cell?_of_block (hk3.own b (.inl hb) (by have := HB2.out.size; omega)))), by have := HB2.out.size; have := hk3.above.size; simp; omega⟩
        case measure => simp [intOf]; omega
      · clear x0 x1 u0 u1 hR hy
        gi_wp2
        refine bodyPost_ret (results_none rfl _ _ _) rfl ?_
        exact ⟨⟨_, rfl⟩, (· = W.heap.size), fun k hk => by omega, .inr ⟨_, ⟨by simp, by rw [← HX.out, ← HTk.out]; exact List.take_prefix _ _⟩, hJx3⟩⟩
    · have hkn : k = n := by omega
      subst hkn
      gi_wp2
      go_end0
      exact ⟨⟨_, rfl⟩, (· = W.heap.size), fun k hk => by omega, .inl ⟨pieceL ps, rfl, by have h := HJ1.out; rw [List.take_of_length_le (by rw [pieceL_len, HN.out]; exact Nat.le_refl _)] at h; exact h⟩⟩
end Go.Proofs.Ytapegimghfflhaa
end

section
namespace Go.Proofs.Ytapegimghfflhaa
open Go.RowKit Go.Shelf
variable {P : Program}

theorem rangeFunc_lawGA {α : Type} {g : Operand} {ps : Array Tmp} {assign body : Code} {Q : Exit → Act → World → Prop} {a : Act} {w : World} {n : Nat}
    (h1 : 1 ≤ n) {gf : Nat} {fb lb : Array Value} (hg : a.eval g = .func (.func gf) fb lb) (eg : ∀ args w, (callFunc gf args).run P w = .ok (.enter gf args) w)
    {encs : α → Array Value} {Pr : (Nat → Prop) → α → World → Prop} {Kp : (Nat → Prop) → World → World → World → Prop} {S Sp : List α → Prop} {N : Nat} {w0 : World} (hseq : SeqG (n - 1) P gf fb lb encs Pr Kp S Sp N w0) (hb0 : Below w0.heap.size w0 w)
    (hKt : ∀ {G : Nat → Prop} {W A B C : World}, Kp G W A B → Kp G W B C → Kp G W A C) (hKr : ∀ (G : Nat → Prop) (W A : World) (l : Nat) (o o' : Obj), (∀ k, G k → W.heap.size ≤ k) → w.heap.size ≤ l → l < W.heap.size → A.heap[l]? = some o → o.isCells = false → Kp G W A (A.putObj l o'))
    (hPr : ∀ (G : Nat → Prop) x (A : World) (l : Nat) (o o' : Obj), A.heap[l]? = some o → o.isCells = false → Pr G x A → Pr G x (A.putObj l o')) (hps : ∀ x, (encs x).size = ps.size)
    (I : (Nat → Prop) → List α → World → Prop) (Ix : (Nat → Prop) → Code → List α → World → Prop) (hI : ∀ G, (∀ k, G k → w.heap.size + 1 + 1 ≤ k) → OwnG w.heap.size G (I G)) (hIx : ∀ G c, OwnFrom w.heap.size (Ix G c)) (h0 : ∀ G, (∀ k, G k → w.heap.size + 1 + 1 ≤ k) → I G [] w) (a₁ : α → World → Act) (ao : α → Obj)
    (hKa : ∀ (G : Nat → Prop) (W A : World) (o : Obj), Kp G W A (A.alloc o)) (hPa : ∀ (G : Nat → Prop) x (A : World) (o : Obj), Pr G x A → Pr G x (A.alloc o))
    (hassign : ∀ (l : Nat) (x : α) (W : World) (K : Act → World → Prop), K (a₁ x W) (W.alloc (ao x)) →
      assign.wpIn (Fence.wide.inRound l) (n - 1 - 1) P (Exit.then K (fun _ _ _ => False)) { tmps := (ps.zip (encs x)).foldl (fun t (p, v) => t.setIfInBounds p v) a.tmps, defers := [] } W)
    (hbody : ∀ (l : Nat) (G : Nat → Prop) (pre : List α) (x : α) (Wb W0 W : World), (∀ k, G k → w.heap.size + 1 + 1 ≤ k) → Wb.heap.size = w.heap.size + 1 + 1 → w.heap.size + 1 + 1 ≤ W0.heap.size → W.heap.size = W0.heap.size + 1 → W.heap[W0.heap.size]? = some (ao x) → I G pre W → Pr G x W → pre.length < N → body.wpIn (Fence.wide.inRound l) (n - 1 - 1) P (ownPostG w.heap.size (Kp G Wb) (I G) (Ix G) (pre ++ [x]) W) (a₁ x W0) W)
    (hdone : ∀ (G : Nat → Prop) (D : Nat) (xs : List α) (W : World), w.heap.size ≤ D → S xs → I G xs W → W.heap[D]? = some (.deferred (some [])) → Q .normal { a with defers := { target := .collected D, args := #[] } :: a.defers } W)
    (hstop : ∀ (G : Nat → Prop) (D : Nat) (c : Code) (pre : List α) (W : World), w.heap.size ≤ D → Sp pre → Ix G c pre W → W.heap[D]? = some (.deferred (some [])) → c.wpIn Fence.wide n P Q { a with defers := { target := .collected D, args := #[] } :: a.defers } W) :
    (Code.rangeFunc g ps assign body).wpIn Fence.wide n P Q a w := by
  refine wpIn_rangeFunc ?_
  intro fn hfn
  rw [show Fence.wide.round = none from rfl]
  obtain ⟨rec, hrec⟩ : ∃ rec : LoopState → Option Code → Loop, rec = fun st pe => { state := st, pending := pe, fn, tmps := a.tmps, params := ps, assign, body, defers := w.heap.size } := ⟨_, rfl⟩
  obtain ⟨W1, hW1⟩ : ∃ W1, (w.alloc (.deferred (some []))).alloc (.loop (rec .ready none)) = W1 := ⟨_, rfl⟩
  have hS1 : W1.heap.size = w.heap.size + 1 + 1 := by rw [← hW1]; simp
  have hL1 : W1.heap[w.heap.size + 1]? = some (.loop (rec .ready none)) := by
    rw [← hW1]; have := World.alloc_heap_new (w.alloc (.deferred (some []))) (.loop (rec .ready none)); rwa [World.size_alloc] at this
  have hK1 : W1.heap[w.heap.size]? = some (.deferred (some [])) := by
    rw [← hW1]; exact (Below.heap_alloc _ _ _ (by simp)).trans (World.alloc_heap_new w _)
  have hI1 : ∀ G, (∀ k, G k → W1.heap.size ≤ k) → I G [] W1 := fun G hG => by
    rw [hS1] at hG
    rw [← hW1]
    exact hI G hG _ _ _ none (hI G hG _ _ _ none (h0 G hG) (World.grownBy_alloc _ _ none) (fun r e => by cases e)) (World.grownBy_alloc _ _ none) (fun r e => by cases e)
  have hIput : ∀ (G : Nat → Prop), (∀ k, G k → W1.heap.size ≤ k) → ∀ {s : List α} {W : World} {l : Nat} {o : Obj} (o' : Obj), I G s W → w.heap.size ≤ l → W.heap[l]? = some o → o.isCells = false → I G s (W.putObj l o') := fun G hG s W l o o' hs hB hl ho =>
    hI G (by rw [hS1] at hG; exact hG) s W _ (some l) hs (grownBy_putObj' W l o') (fun r e => by cases e; exact .inr ⟨hB, o, hl, ho⟩)
  have hb1 : Below w0.heap.size w0 W1 := by
    rw [← hW1]; exact hb0.trans ((((Below.refl _ w).alloc (Nat.le_refl _) _).alloc (by simp) _).mono hb0.size)
  refine ⟨w.heap.size + 1, [{ target := .collected w.heap.size, args := #[] }], W1, { target := .fn (.func gf) lb, args := fb ++ #[.func (.yield (w.heap.size + 1)) #[] #[]] }, W1, gf,
    fb ++ #[.func (.yield (w.heap.size + 1)) #[] #[]] ++ lb, W1, ?_, ?_, ?_, ?_, fun _ => h1, ?_⟩
  · rw [← hW1, hrec]; exact run_enterLoop_outer _ _ _ _ _
  · simp only [resolve, hg]
    simp [go_sem]
  · intro f' hf'; trivial
  · simp [invoke, go_sem, eg]
  · have hnw : ∀ {A : World} {row : Option Nat}, (∀ r, row = some r → W1.heap.size ≤ r ∧ ∃ o : Obj, A.heap[r]? = some o ∧ o.isWalk = true) → (∀ r, row = some r → w.heap.size ≤ r ∧ ∃ o : Obj, A.heap[r]? = some o ∧ o.isCells = false) :=
      fun hr r e => by obtain ⟨hB, o, ho, hw⟩ := hr r e; exact ⟨by omega, o, ho, Obj.not_cells_of_walk hw⟩
    refine (hseq (w.heap.size + 1)
      (fun G pre W => I G pre W ∧ W.heap[w.heap.size + 1]? = some (.loop (rec .ready none)) ∧ W.heap[w.heap.size]? = some (.deferred (some [])))
      (fun G pre W => ∃ c, Ix G c pre W ∧ W.heap[w.heap.size + 1]? = some (.loop (rec .done (some c))) ∧ W.heap[w.heap.size]? = some (.deferred (some [])))
      W1 hb1
      (fun G hG s A B row hs hg' hr => by
        have hlt1 : w.heap.size + 1 < A.heap.size := (Array.getElem?_eq_some_iff.1 hs.2.1).1
        have hne : ∀ i, i < w.heap.size + 1 + 1 → ∀ o : Obj, A.heap[i]? = some o → o.isWalk = false → row ≠ some i := fun i hi o ho hw e => by
          rcases hr i e with h | ⟨h, _⟩
          · have := hG i h; omega
          · omega
        refine ⟨hI G (by rw [hS1] at hG; exact hG) s A B row hs.1 hg' (fun r e => ?_), (hg'.block _ hlt1 (hne _ (by omega) _ hs.2.1 rfl).symm).trans hs.2.1, (hg'.block _ (by omega) (hne _ (by omega) _ hs.2.2 rfl).symm).trans hs.2.2⟩
        rcases hr r e with h | ⟨hB, o, ho, hw⟩
        · exact .inl h
        · exact .inr ⟨by omega, o, ho, Obj.not_cells_of_walk hw⟩)
      (fun G hG s A B row hs hg' hr => by
        obtain ⟨c, hc, hl, hk⟩ := hs
        exact ⟨c, hIx G c s A B row hc hg' (hnw hr), (grownBy_keeps hg' (fun r e => (hr r e).2) hl rfl).trans hl, (grownBy_keeps hg' (fun r e => (hr r e).2) hk rfl).trans hk⟩)
      ?_ (fun G hG => ⟨hI1 G hG, hL1, hK1⟩)).mono ?_
    · rintro G hG pre x W ⟨hi, hl, hk⟩ hpr hlen
      have hlt : w.heap.size + 1 < W.heap.size := (Array.getElem?_eq_some_iff.1 hl).1
      have hy := run_yield (P := P) (args := encs x) hl (by rw [hrec]; exact hps x)
      rw [hrec] at hy
      refine ⟨fn, _, assign, body, hy, roundIn_of_wpIn hfn (hassign _ x W _ ?_)⟩
      clear hy
      have hka : Kp G W1 W (W.alloc (ao x)) := hKa _ _ _ _
      have hs0 : w.heap.size + 1 + 1 ≤ W.heap.size := hlt
      have hn0 : (W.alloc (ao x)).heap[W.heap.size]? = some (ao x) := World.alloc_heap_new _ _
      have hz0 : (W.alloc (ao x)).heap.size = W.heap.size + 1 := World.size_alloc _ _
      replace hi : I G pre (W.alloc (ao x)) := hI G (by rw [hS1] at hG; exact hG) _ _ _ none hi (World.grownBy_alloc _ _ none) (fun r e => by cases e)
      replace hpr : Pr G x (W.alloc (ao x)) := hPa _ _ _ _ hpr
      replace hk : (W.alloc (ao x)).heap[w.heap.size]? = some (.deferred (some [])) := (Below.heap_alloc _ _ _ (by omega)).trans hk
      replace hl : (W.alloc (ao x)).heap[w.heap.size + 1]? = some (.loop (rec .ready none)) := (Below.heap_alloc _ _ _ hlt).trans hl
      replace hlt : w.heap.size + 1 < (W.alloc (ao x)).heap.size := by omega
      refine ⟨_, run_beginRound hl (by rw [hrec]), ?_⟩
      generalize hU : W.alloc (ao x) = U at *
      have hl2 : (U.putObj (w.heap.size + 1) (.loop { rec .ready none with state := .busy })).heap[w.heap.size + 1]? = some (.loop { rec .ready none with state := .busy }) := World.putObj_heap_same hlt
      have hk2 : (U.putObj (w.heap.size + 1) (.loop { rec .ready none with state := .busy })).heap[w.heap.size]? = some (.deferred (some [])) := (World.putObj_heap_other (by omega)).trans hk
      have hw2 : Kp G W1 U (U.putObj (w.heap.size + 1) (.loop { rec .ready none with state := .busy })) := hKr _ _ _ _ _ _ hG (by omega) (by omega) hl rfl
      refine wpIn_mono (hbody _ G pre x W1 W _ (by rw [hS1] at hG; exact hG) hS1 hs0 (by simpa using hz0) ((World.putObj_heap_other (by omega)).trans hn0) (hIput G hG _ hi (by omega) hl rfl) (hPr _ _ _ _ _ _ hl rfl hpr) hlen) ?_
      have fin : ∀ (jump : Option Code) (W3 : World), KeepsFrom w.heap.size (U.putObj (w.heap.size + 1) (.loop { rec .ready none with state := .busy })) W3 →
          (Instr.endRound (w.heap.size + 1) jump).run P W3 = .ok (.bool jump.isNone) (W3.putObj (w.heap.size + 1) (.loop (rec (if jump.isNone then .ready else .done) jump))) ∧
          W3.heap[w.heap.size + 1]? = some (.loop { rec .ready none with state := .busy }) ∧
          (W3.putObj (w.heap.size + 1) (.loop (rec (if jump.isNone then .ready else .done) jump))).heap[w.heap.size + 1]? = some (.loop (rec (if jump.isNone then .ready else .done) jump)) ∧
          (W3.putObj (w.heap.size + 1) (.loop (rec (if jump.isNone then .ready else .done) jump))).heap[w.heap.size]? = some (.deferred (some [])) := fun jump W3 hk3 => by
        have hl3 := hk3.same _ _ (by omega) hl2 rfl
        have := run_endRound (P := P) jump hl3
        rw [hrec] at this ⊢
        exact ⟨this, by rw [hrec] at hl3; exact hl3, World.putObj_heap_same (Array.getElem?_eq_some_iff.1 hl3).1, (World.putObj_heap_other (by omega)).trans (hk3.same _ _ (Nat.le_refl _) hk2 rfl)⟩
      rintro e a3 W3 hp
      cases e with
      | normal =>
        obtain ⟨hk3, hkp3, hi3⟩ := hp
        obtain ⟨hr, hl3, hl4, hk4⟩ := fin none W3 hk3
        exact ⟨_, _, hr, .inl ⟨rfl, ⟨hIput G hG _ hi3 (by omega) hl3 rfl, hl4, hk4⟩, hKt hka (hKt (hKt hw2 hkp3) (hKr _ _ _ _ _ _ hG (by omega) (by omega) hl3 rfl))⟩⟩
      | ret =>
        obtain ⟨hk3, hi3⟩ := hp
        obtain ⟨hr, hl3, hl4, hk4⟩ := fin (some .ret) W3 hk3
        exact ⟨_, _, hr, .inr ⟨rfl, .ret, (hIx _ _).putObj _ hi3 (by omega) hl3 rfl, hl4, hk4⟩⟩
      | exit id =>
        obtain ⟨hk3, hi3⟩ := hp
        obtain ⟨hr, hl3, hl4, hk4⟩ := fin (some (.exit id)) W3 hk3
        exact ⟨_, _, hr, .inr ⟨rfl, .exit id, (hIx _ _).putObj _ hi3 (by omega) hl3 rfl, hl4, hk4⟩⟩
      | goto t =>
        obtain ⟨hk3, hi3⟩ := hp
        obtain ⟨hr, hl3, hl4, hk4⟩ := fin (some (.goto t)) W3 hk3
        exact ⟨_, _, hr, .inr ⟨rfl, .goto t, (hIx _ _).putObj _ hi3 (by omega) hl3 rfl, hl4, hk4⟩⟩
      | panic ch => exact hp.elim
      | outgrown => exact hp.elim
    · rintro e W2 ⟨⟨v, rfl⟩, G, hG, (⟨xs, hS, hi, hl, hk⟩ | ⟨pre, hSp, c, hi, hl, hk⟩)⟩
      · exact ⟨none, _, by have := run_endLoop (P := P) hl (by rw [hrec]; simp); rw [hrec] at this; exact this, hdone G _ xs _ (Nat.le_refl _) hS (hIput G hG _ hi (by omega) hl rfl) ((World.putObj_heap_other (by omega)).trans hk)⟩
      · exact ⟨some c, _, by have := run_endLoop (P := P) hl (by rw [hrec]; simp); rw [hrec] at this; exact this, hstop G _ c pre _ (Nat.le_refl _) hSp ((hIx _ c).putObj _ hi (by omega) hl rfl) ((World.putObj_heap_other (by omega)).trans hk)⟩

end Go.Proofs.Ytapegimghfflhaa
end
