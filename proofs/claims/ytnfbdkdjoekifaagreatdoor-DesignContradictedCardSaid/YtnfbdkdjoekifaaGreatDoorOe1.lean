/- Contract: the cheapest design (package design). Printed by a program (gen_d2chea.py). -/
import Derived.Test.YtnfbdkdjoekifaaGreatDoorOc6
import Derived.Test.YtnfbdkdjoekifaaGreatDoorOd4
import Derived.Test.YtnfbdkdjoekifaaGreatDoorOd5
import Derived.Test.YtnfbdkdjoekifaaGreatDoorOd9

section
namespace Go.Proofs.YtnfbdkdjoekifaaGreatDoor
open Go.RowKit Go.Shelf
attribute [local go_sem] Oper.semAt_some undef

def meetB (rs : List DReq) (sl : List (List DPart)) (ch : List Int) : Bool := decide (meetsV rs sl ch = 2)
/-- The cheapest of some choices. -/
def cheaF (rs : List DReq) (idle price : Int) (sl : List (List DPart)) (l : List (List Int)) : Option (List Int × Int) := cheapV (meetB rs sl) (costC idle price sl) l
def lessB (k : Int) : Option (List Int × Int) → Bool
  | none => true
  | some x => decide (k < x.2)
theorem cheapS_if (rs : List DReq) (sl : List (List DPart)) (idle price : Int) (b : Option (List Int × Int)) (c : List Int) : cheapS (meetB rs sl) (costC idle price sl) b c = if decide (meetsV rs sl c = 2) && lessB (costC idle price sl c) b then some (c, costC idle price sl c) else b := by
  unfold cheapS meetB
  cases b <;> rfl
def cheaL : Option (List Int × Int) → List Int
  | none => []
  | some x => x.1
def cheaN : Option (List Int × Int) → Int
  | none => 0
  | some x => x.2
def cheaE : Option (List Int × Int) → Int
  | none => 12
  | some _ => 0

/-- What holds between two choices: the cheapest one so far, in memory that is none of the iterator's. -/
structure CheaInv (w : World) (G : Nat → Prop) (tk : Array Value) (b7 b9 b10 n : Nat) (b : Option (List Int × Int)) (W : World) : Prop where
  t : Blk W b7 82 tk
  best : (b = none ∧ Blk W b9 32 #[.slice none 0 0] ∧ Blk W b10 3 #[.int .i64 0]) ∨ ∃ xs k g0 off c', b = some (xs, k) ∧ Blk W b9 32 #[.slice (some ⟨g0, off, none⟩) n c'] ∧ Blk W b10 3 #[.int .i64 k] ∧ xs.length = n ∧ n ≤ c' ∧ ¬ G g0 ∧ w.heap.size ≤ g0 ∧ g0 < W.heap.size ∧ ∀ j, j < n → W.cell? ⟨g0, off + j, none⟩ = some (.int .i64 (xs.getD j 0))
  bel : Below w.heap.size w W
theorem own_some {W : World} {base n : Nat} {e : TypeId} {v : Value} {xs : List Value} (h : W.ownsRow base e 1 v n xs) (hn : 0 < n) : ∃ g c, v = .slice (some ⟨g, 0, none⟩) n c := by
  obtain ⟨m, rfl⟩ : ∃ m, n = m + 1 := ⟨n - 1, by omega⟩
  exact ownsRow_succ h
theorem own_cap {W : World} {base n c : Nat} {e : TypeId} {A : Option Addr} {xs : List Value} (h : W.ownsRow base e 1 (.slice A n c) n xs) : n ≤ c := by
  obtain ⟨A9, c9, h9, h8, _⟩ := own_form h
  injection h9 with _ _ h7
  omega
section
variable {w : World} {G : Nat → Prop} {tk : Array Value} {b7 b9 b10 n : Nat} {b : Option (List Int × Int)} {W W' : World}
theorem CheaInv.grown (h : CheaInv w G tk b7 b9 b10 n b W) (hw : w.heap.size ≤ b7) (h79 : b7 < b9) (h910 : b9 < b10) (hG : ∀ k, G k → b10 < k) {row : Option Nat} (hg : W.grownBy W' row) (hr : ∀ r, row = some r → G r ∨ (w.heap.size ≤ r ∧ ∃ o : Obj, W.heap[r]? = some o ∧ o.isCells = false)) : CheaInv w G tk b7 b9 b10 n b W' := by
  have key : ∀ {k : Nat} {t : TypeId} {cs : Array Value}, k ≤ b10 → Blk W k t cs → Blk W' k t cs := fun {k t cs} hk hb => hb.grown hg (fun e => by
    rcases hr k e.symm with h2 | ⟨_, o, ho, hc⟩
    · have := hG k h2; omega
    · rw [show W.heap[k]? = _ from hb] at ho
      cases ho
      cases hc)
  refine ⟨key (by omega) h.t, ?_, below_grown h.bel h.bel.size hg (fun r e => by
    rcases hr r e with h2 | ⟨h2, _⟩
    · have := hG r h2; omega
    · exact h2)⟩
  rcases h.best with ⟨q1, q2, q3⟩ | ⟨xs, k, g0, off, c', q1, q2, q3, q4, q5, q6, q7, q8, q9⟩
  · exact .inl ⟨q1, key (by omega) q2, key (Nat.le_refl _) q3⟩
  · refine .inr ⟨xs, k, g0, off, c', q1, key (by omega) q2, key (Nat.le_refl _) q3, q4, q5, q6, q7, Nat.lt_of_lt_of_le q8 hg.size, fun j hj => ?_⟩
    by_cases e : row = some g0
    · rcases hr g0 e with h2 | ⟨_, o, ho, hc⟩
      · exact absurd h2 q6
      · have h3 := q9 j hj
        simp only [World.cell?, ho] at h3
        cases o <;> simp_all [Obj.isCells]
    · exact (World.cell?_of_block (w := W) (hg.block g0 q8 (fun h2 => e h2.symm))).trans (q9 j hj)
theorem CheaInv.past (h : CheaInv w G tk b7 b9 b10 n b W) (hw : w.heap.size ≤ b7) (h79 : b7 < b9) (h910 : b9 < b10) (hG : ∀ k, G k → b10 < k) (hb : Below W.heap.size W W') : CheaInv w G tk b7 b9 b10 n b W' :=
  h.grown hw h79 h910 hG (row := none) ⟨hb.os, hb.tape, hb.output, hb.size, fun i hi _ => hb.block i hi⟩ (fun r e => by cases e)
/-- A cheaper choice is laid down. -/
theorem CheaInv.store (h : CheaInv w G tk b7 b9 b10 n b W) (hw : w.heap.size ≤ b7) (h79 : b7 < b9) (h910 : b9 < b10) {base g0 c' : Nat} {xs : List Int} {k : Int} (hB : b10 < base) (hG : ∀ k, G k → k < base) (hn : xs.length = n) (hn1 : 0 < n)
    (ho : W.ownsRow base 3 1 (.slice (some ⟨g0, 0, none⟩) n c') n (xs.map (Value.int .i64))) (hc : n ≤ c') (hx9 : ∃ u, Blk W b9 32 #[u]) (hx10 : ∃ u, Blk W b10 3 #[u]) : CheaInv w G tk b7 b9 b10 n (some (xs, k)) ((W.setCell ⟨b9, 0, none⟩ (.slice (some ⟨g0, 0, none⟩) n c')).setCell ⟨b10, 0, none⟩ (.int .i64 k)) := by
  obtain ⟨u9, x9⟩ := hx9
  obtain ⟨u10, x10⟩ := hx10
  refine ⟨(h.t.far (p := ⟨b9, 0, none⟩) (by dsimp only; omega)).far (p := ⟨b10, 0, none⟩) (by dsimp only; omega), .inr ⟨xs, k, ?_⟩, ps (ps h.bel (by dsimp only; omega)) (by dsimp only; omega)⟩
  rcases intsAb_of_own ho with h2 | ⟨g1, off, h3, h4, h5, h6⟩
  · rw [h2] at hn; simp at hn; omega
  · injection h3 with h3
    injection h3 with h3 h7
    subst h3
    refine ⟨g0, 0, c', rfl, ?_, ?_, hn, hc, (fun h7 => by have := hG g0 h7; omega), by omega, by simpa [World.setCell] using h5, fun j hj => ?_⟩
    · exact (by simpa using x9.set_ 0 (.slice (some ⟨g0, 0, none⟩) n c') : Blk (W.setCell ⟨b9, 0, none⟩ (.slice (some ⟨g0, 0, none⟩) n c')) b9 32 #[.slice (some ⟨g0, 0, none⟩) n c']).far (p := ⟨b10, 0, none⟩) (by dsimp only; omega)
    · exact by simpa using (x10.far (p := ⟨b9, 0, none⟩) (u := .slice (some ⟨g0, 0, none⟩) n c') (by dsimp only; omega)).set_ 0 (.int .i64 k)
    · rw [World.cell?_setCell_other _ _ _ _ (fun e => by simp at e <;> omega), World.cell?_setCell_other _ _ _ _ (fun e => by simp at e <;> omega)]
      have h8 := h6 j (by rw [hn]; exact hj)
      rw [← h7] at h8
      exact h8
end

set_option maxRecDepth 100000 in
set_option maxHeartbeats 8000000 in
theorem cheapest_in (m : Nat) (B : Nat) (rs : List DReq) (RA : Option Addr) (rn rc : Nat) (sl : List (List DPart)) (SA : Option Addr) (n c : Nat) (idle price : Int) (w : World) (hrr : ReqsIn B w RA rs) (hr : SlotsIn B w SA sl) (hB : B ≤ w.heap.size) (hrn : rs.length = rn) (hrm : rn ≤ 1000) (hrs : ∀ r ∈ rs, r.ts.length ≤ 1000) (hU : UnitIn w) (hn : sl.length = n) (hm : n ≤ 1000) (hs : SmallSlots sl) (h1 : 1 ≤ m) (h0 : openE rs idle price sl = 0) (hS : SlotsOk sl) (hR : ∀ r ∈ rs, ReqOk r) (hI_ : 0 ≤ idle ∧ idle ≤ 1000) (hP : 0 ≤ price ∧ price ≤ 1000) :
    CallsIn Fence.wide m Tryz.prog 10 #[.agg #[.slice RA rn rc], .agg #[.slice SA n c, .int .i64 idle, .int .i64 price]] w (StepsRet w (cheaL (cheaF rs idle price sl (allC (slotN sl)))) (cheaN (cheaF rs idle price sl (allC (slotN sl)))) (cheaE (cheaF rs idle price sl (allC (slotN sl))))) := by
  have HO := Lib.hid (fun W (hW : Below w.heap.size w W) => open_any B rs RA rn rc sl SA n c idle price W (hrr.below (hW.mono hB)) (hr.below (hW.mono hB)) (Nat.le_trans hB hW.size) hrn hrm hrs (hU.below hW) hn hm hs)
  rw [h0] at HO
  have HSeq := Lib.hid (fun w0 (hW : Below w.heap.size w w0) => choices_seq (m - 1) B sl SA n c idle price w0 (hr.below (hW.mono hB)) (Nat.le_trans hB hW.size) hn hS)
  have HRr := Lib.hid hrr
  have HRs := Lib.hid hr
  have HRn := Lib.hid hrn
  have HN := Lib.hid hn
  have HSo := Lib.hid hS
  have HRo := Lib.hid hR
  have hnil := fun (w : World) (A : Option Addr) (n c : Nat) => Lib.run_eql_slice_nil (P := Tryz.prog) w 32 3 A n c 0 0 Tryz.underlying32
  clear hrr hr hrn hrs hU hn hs h0 hS hR
  refine callsIn_of_wp_marks Tryz.func10 rfl trivial ?_ rfl
  simp only [undef, Tryz.ntmps10, List.size_toArray, List.length_cons, List.length_nil, Nat.reduceAdd, Nat.reduceSub, Array.replicate_succ, Array.replicate_zero, List.push_toArray, List.append_toArray, List.nil_append, List.cons_append]
  gi_wp2_with (refine ⟨trivial, ?_⟩; gi_at_call 33; refine (callsIn_wide.2 (HO.out _ (pa (pa pr)))).mono ?_; rintro e w1 ⟨rfl, hb1⟩; have HB1 := Lib.hid (pt (pa (pa pr)) hb1); clear hb1)
  have HI0 := Lib.hid (show CheaInv w (fun _ => False) #[.slice SA n c, .int .i64 idle, .int .i64 price, .slice RA rn rc] w1.heap.size (w1.heap.size + 1) (w1.heap.size + 1 + 1) n none (((w1.alloc (.cells #[.slice SA n c, .int .i64 idle, .int .i64 price, .slice RA rn rc] 82)).alloc (.cells #[.slice none 0 0] 32)).alloc (.cells #[.int .i64 0] 3)) from
    ⟨((Blk.newAt rfl).alloc).alloc, .inl ⟨rfl, (Blk.newAt (by simp)).alloc, Blk.newAt (by simp)⟩, pa (pa (pa HB1.out))⟩)
  have hsz : (((w1.alloc (.cells #[.slice SA n c, .int .i64 idle, .int .i64 price, .slice RA rn rc] 82)).alloc (.cells #[.slice none 0 0] 32)).alloc (.cells #[.int .i64 0] 3)).heap.size = w1.heap.size + 1 + 1 + 1 := by simp
  have hw1 : w.heap.size ≤ w1.heap.size := HB1.out.size
  generalize (((w1.alloc (.cells #[.slice SA n c, .int .i64 idle, .int .i64 price, .slice RA rn rc] 82)).alloc (.cells #[.slice none 0 0] 32)).alloc (.cells #[.int .i64 0] 3)) = W0 at *
  have h79 : w1.heap.size < w1.heap.size + 1 := Nat.lt_succ_self _
  have h910 : w1.heap.size + 1 < w1.heap.size + 1 + 1 := Nat.lt_succ_self _
  generalize w1.heap.size + 1 + 1 = b10 at *
  generalize w1.heap.size + 1 = b9 at *
  generalize w1.heap.size = b7 at *
  have hn5 : n ≤ 5 := by rw [← HN.out]; exact HSo.out.1.2
  have hn1 : 0 < n := by rw [← HN.out]; exact HSo.out.1.1
  clear HB1 HO
  refine rangeFunc_lawG h1 (gf := 34) (fb := #[.agg #[.slice SA n c, .int .i64 idle, .int .i64 price]]) (lb := #[]) rfl (enters_of Tryz.func34 (by kernel_rfl) rfl)
    (HSeq.out W0 HI0.out.bel) (Below.refl _ _)
    (fun h q => h.trans q) (fun G W A l o o' hG hl hl2 ho hc => KeepG.put o' (fun q hq => by have : q < B := hq; have := HI0.out.bel.size; omega) (fun q hq => by have := hG q hq; omega))
    (fun G x A l o o' ho hc hp => hp.put o' ho hc) (fun x => rfl)
    (fun G (pre : List RowI) W => CheaInv w G #[.slice SA n c, .int .i64 idle, .int .i64 price, .slice RA rn rc] b7 b9 b10 n (cheapF (meetB rs sl) (costC idle price sl) (List.map Prod.snd pre) none) W)
    (fun _ _ _ _ => False)
    (fun G hG s W W' row hs hg hr => hs.grown hw1 h79 h910 (fun q hq => by have := hG q hq; omega) hg (fun r e => (hr r e).imp_right fun ⟨h, q⟩ => ⟨by have := HI0.out.bel.size; omega, q⟩))
    (fun _ _ _ _ _ _ hs _ _ => hs)
    (fun G hG => by
      rcases HI0.out.best with ⟨_, q2, q3⟩ | ⟨_, _, _, _, _, q1, _⟩
      · exact ⟨HI0.out.t, .inl ⟨rfl, q2, q3⟩, HI0.out.bel⟩
      · cases q1)
    (fun x => { tmps := #[.agg #[.slice RA rn rc], .agg #[.slice SA n c, .int .i64 idle, .int .i64 price], .pointer (some ⟨w.heap.size, 0, none⟩), .pointer (some ⟨w.heap.size + 1, 0, none⟩), .slice none 0 0, .int .i64 0, .int .i64 0, .pointer (some ⟨b7, 0, none⟩), .int .i64 0, .pointer (some ⟨b9, 0, none⟩), .pointer (some ⟨b10, 0, none⟩), .slice x.1.1 n x.1.2, .tuple #[], .tuple #[.agg #[.slice SA n c, .int .i64 idle, .int .i64 price, .slice RA rn rc], .int .i64 0], .agg #[.slice RA rn rc], .agg #[.slice SA n c, .int .i64 idle, .int .i64 price], .tuple #[.agg #[.slice SA n c, .int .i64 idle, .int .i64 price, .slice RA rn rc], .int .i64 0], .agg #[.slice SA n c, .int .i64 idle, .int .i64 price, .slice RA rn rc], .int .i64 0, .int .i64 0, .bool false, .tuple #[], .pointer (some ⟨b7, 0, none⟩), .agg #[.slice SA n c, .int .i64 idle, .int .i64 price], .func (.func 34) #[.agg #[.slice SA n c, .int .i64 idle, .int .i64 price]] #[], .slice x.1.1 n x.1.2, .tuple #[], .tuple #[], .tuple #[], .tuple #[], .tuple #[], .tuple #[], .tuple #[], .tuple #[], .tuple #[], .tuple #[], .tuple #[], .tuple #[], .tuple #[], .tuple #[], .tuple #[], .tuple #[], .tuple #[], .tuple #[], .tuple #[], .tuple #[], .tuple #[], .tuple #[], .tuple #[], .tuple #[]], defers := [] }) ?assign ?body ?done ?stop
  case assign =>
    intro l x W K hK
    unfold rowEnc
    gi_wp2
    exact hK
  case body =>
    rintro l G pre ⟨⟨X, cX⟩, xs⟩ Wb W hG hWb hI ⟨⟨hx1, hx2, hx3⟩, hx4, hx5⟩ hlen
    dsimp only at hx1 hx2 hx3 hx5 ⊢
    obtain ⟨bs, hbs⟩ : ∃ bs, bs = cheapF (meetB rs sl) (costC idle price sl) (List.map Prod.snd pre) none := ⟨_, rfl⟩
    rw [← hbs] at hI
    have HLast := Lib.hid (show cheapF (meetB rs sl) (costC idle price sl) (List.map Prod.snd (pre ++ [((X, cX), xs)])) none = cheapS (meetB rs sl) (costC idle price sl) bs xs by
      rw [List.map_append, cheapF_app, ← hbs]; rfl)
    have hch : ChoiceOk sl xs := by
      have h := allC_mem.1 hx5
      refine ⟨by rw [h.1, slotN_len], fun i hi => ?_⟩
      have h2 := h.2 i (by rw [slotN_len]; exact hi)
      rw [slotN_at hi] at h2
      exact h2
    have hWsz := hI.bel.size
    have HCo := Lib.hid (cost_any W.heap.size sl SA n c idle price xs X cX W (HRs.out.past hB hI.bel) hx1.ints (Nat.le_refl _) HN.out HSo.out hch hI_ hP)
    have HMe := Lib.hid (fun W' (hW' : Below W.heap.size W W') => meets_any W.heap.size rs RA rn rc sl SA n c idle price xs X cX W' ((HRr.out.past hB hI.bel).below hW') ((HRs.out.past hB hI.bel).below hW') (hx1.ints.below hW') hW'.size HRn.out hrm HN.out HSo.out hch HRo.out)
    have HCl := Lib.hid (fun W' (hW' : Below W.heap.size W W') => clone_any W.heap.size X n cX xs W' (hx1.ints.below hW') hx2 hW'.size (by omega))
    rcases hx1 with hx1 | ⟨xb, xo, rfl, hxB, hxlt, hxc⟩
    · rw [hx1] at hx2; simp at hx2; omega
    have hGb : ∀ q, G q → b10 < q := fun q hq => by have := hG q hq; omega
    have HS := Lib.hid (cheapS_if rs sl idle price bs xs)
    generalize costC idle price sl xs = k at *
    generalize meetsV rs sl xs = mv at *
    have HI := Lib.hid hI
    have HX2 := Lib.hid hx2
    have HX4 := Lib.hid hx4
    have HGb := Lib.hid hGb
    clear hbs hx5 hx2 hx4 hlen hGb hxc hch
    have T0 := Lib.hid HI.out.t
    have P0 := Lib.hid (show Below W.heap.size W W from pr)
    have t0 := T0.out.cellAt 0 rfl
    have t1 := T0.out.cellAt 1 rfl
    have t2 := T0.out.cellAt 2 rfl
    have t3 := T0.out.cellAt 3 rfl
    have tl := T0.out.lt
    rcases HI.out.best with ⟨rfl, q9, q10⟩ | ⟨ys, k0, g0, off, c', rfl, q9, q10, _, _, _, _, _, _⟩
    · have N0 := Lib.hid q9
      have L0 := Lib.hid q10
      have n0 := q9.cellAt 0 rfl
      have nl := q9.lt
      have l0 := q10.cellAt 0 rfl
      have ll := q10.lt
      clear q9 q10
      by_cases hmv : mv = 2
      · have hmb : (mv == 2) = true := by simpa using hmv
        have HMv := Lib.hid hmv
        clear hmv
        gi_wp2_with (first | (refine ⟨trivial, (fun h => nomatch h), ?_⟩; gi_at_call 35; refine (callsIn_wide.2 HCo.out).mono ?_; rintro e w2 ⟨rfl, hb2⟩; have T1 := Lib.hid (T0.out.past hb2); have N1 := Lib.hid (N0.out.past hb2); have L1 := Lib.hid (L0.out.past hb2); have P1 := Lib.hid (pt P0.out hb2); clear hb2 t0 t1 t2 t3 tl n0 nl l0 ll; have t0 := T1.out.cellAt 0 rfl; have t1 := T1.out.cellAt 1 rfl; have t2 := T1.out.cellAt 2 rfl; have t3 := T1.out.cellAt 3 rfl; have tl := T1.out.lt; have n0 := N1.out.cellAt 0 rfl; have nl := N1.out.lt; have l0 := L1.out.cellAt 0 rfl; have ll := L1.out.lt) | (refine ⟨trivial, (fun h => nomatch h), ?_⟩; gi_at_call 36; refine (callsIn_wide.2 (HMe.out _ P1.out)).mono ?_; rintro e w3 ⟨rfl, hb2⟩; have T2 := Lib.hid (T1.out.past hb2); have N2 := Lib.hid (N1.out.past hb2); have L2 := Lib.hid (L1.out.past hb2); have P2 := Lib.hid (pt P1.out hb2); clear hb2 t0 t1 t2 t3 tl n0 nl l0 ll; have t0 := T2.out.cellAt 0 rfl; have t1 := T2.out.cellAt 1 rfl; have t2 := T2.out.cellAt 2 rfl; have t3 := T2.out.cellAt 3 rfl; have tl := T2.out.lt; have n0 := N2.out.cellAt 0 rfl; have nl := N2.out.lt; have l0 := L2.out.cellAt 0 rfl; have ll := L2.out.lt) | (refine ⟨trivial, (fun h => nomatch h), ?_⟩; gi_at_call 37; refine (callsIn_wide.2 (HCl.out _ P2.out)).mono ?_; rintro e w4 ⟨v4, rfl, hown, hb2⟩; rw [HX2.out] at hown; obtain ⟨g4, c4, rfl⟩ := own_some hown hn1; have HO4 := Lib.hid hown; clear hown; have T3 := Lib.hid (T2.out.past hb2); have N3 := Lib.hid (N2.out.past hb2); have L3 := Lib.hid (L2.out.past hb2); have P3 := Lib.hid (pt P2.out hb2); clear hb2 t0 t1 t2 t3 tl n0 nl l0 ll; have t0 := T3.out.cellAt 0 rfl; have t1 := T3.out.cellAt 1 rfl; have t2 := T3.out.cellAt 2 rfl; have t3 := T3.out.cellAt 3 rfl; have tl := T3.out.lt; have n0 := N3.out.cellAt 0 rfl; have nl := N3.out.lt; have l0 := L3.out.cellAt 0 rfl; have ll := L3.out.lt; have fn0 := N3.out.frozen 0; have fl0 := L3.out.frozen 0))
        have hsz2 := P2.out.size
        refine ⟨((keeps_below P3.out).trans ((KeepsOthers.setCell _ _ _).trans (KeepsOthers.setCell _ _ _))).from _,
          ((KeepG.of_below P3.out (fun q hq => by have : q < B := hq; omega) HX4.out).trans (KeepG.set (fun q hq => by have : q < B := hq; dsimp only; omega) (fun q hq => by have := HGb.out q hq; dsimp only; omega))).trans (KeepG.set (fun q hq => by have : q < B := hq; dsimp only; omega) (fun q hq => by have := HGb.out q hq; dsimp only; omega)), ?_⟩
        show CheaInv w G _ b7 b9 b10 n (cheapF (meetB rs sl) (costC idle price sl) (List.map Prod.snd (pre ++ [((some ⟨xb, xo, none⟩, cX), xs)])) none) _
        rw [HLast.out, HS.out, if_pos (by simp [HMv.out, lessB])]
        exact (HI.out.past hw1 h79 h910 HGb.out P3.out).store hw1 h79 h910 (base := w3.heap.size) (by omega) (fun q hq => by have := HX4.out q hq; omega) HX2.out hn1 HO4.out (own_cap HO4.out) ⟨_, N3.out⟩ ⟨_, L3.out⟩
      · have hmb : (mv == 2) = false := by simpa using hmv
        have HMv := Lib.hid hmv
        clear hmv
        gi_wp2_with (first | (refine ⟨trivial, (fun h => nomatch h), ?_⟩; gi_at_call 35; refine (callsIn_wide.2 HCo.out).mono ?_; rintro e w2 ⟨rfl, hb2⟩; have T1 := Lib.hid (T0.out.past hb2); have N1 := Lib.hid (N0.out.past hb2); have L1 := Lib.hid (L0.out.past hb2); have P1 := Lib.hid (pt P0.out hb2); clear hb2 t0 t1 t2 t3 tl n0 nl l0 ll; have t0 := T1.out.cellAt 0 rfl; have t1 := T1.out.cellAt 1 rfl; have t2 := T1.out.cellAt 2 rfl; have t3 := T1.out.cellAt 3 rfl; have tl := T1.out.lt; have n0 := N1.out.cellAt 0 rfl; have nl := N1.out.lt; have l0 := L1.out.cellAt 0 rfl; have ll := L1.out.lt) | (refine ⟨trivial, (fun h => nomatch h), ?_⟩; gi_at_call 36; refine (callsIn_wide.2 (HMe.out _ P1.out)).mono ?_; rintro e w3 ⟨rfl, hb2⟩; have T2 := Lib.hid (T1.out.past hb2); have N2 := Lib.hid (N1.out.past hb2); have L2 := Lib.hid (L1.out.past hb2); have P2 := Lib.hid (pt P1.out hb2); clear hb2 t0 t1 t2 t3 tl n0 nl l0 ll; have t0 := T2.out.cellAt 0 rfl; have t1 := T2.out.cellAt 1 rfl; have t2 := T2.out.cellAt 2 rfl; have t3 := T2.out.cellAt 3 rfl; have tl := T2.out.lt; have n0 := N2.out.cellAt 0 rfl; have nl := N2.out.lt; have l0 := L2.out.cellAt 0 rfl; have ll := L2.out.lt))
        refine ⟨(keeps_below P2.out).from _, KeepG.of_below P2.out (fun q hq => by have : q < B := hq; omega) HX4.out, ?_⟩
        show CheaInv w G _ b7 b9 b10 n (cheapF (meetB rs sl) (costC idle price sl) (List.map Prod.snd (pre ++ [((some ⟨xb, xo, none⟩, cX), xs)])) none) _
        rw [HLast.out, HS.out, if_neg (by simp [HMv.out, lessB])]
        exact HI.out.past hw1 h79 h910 HGb.out P2.out
    · have N0 := Lib.hid q9
      have L0 := Lib.hid q10
      have n0 := q9.cellAt 0 rfl
      have nl := q9.lt
      have l0 := q10.cellAt 0 rfl
      have ll := q10.lt
      clear q9 q10
      by_cases hlt : k < k0
      · have HLt := Lib.hid hlt
        by_cases hmv : mv = 2
        · have hmb : (mv == 2) = true := by simpa using hmv
          have HMv := Lib.hid hmv
          clear hmv
          gi_wp2_with (first | (refine ⟨trivial, (fun h => nomatch h), ?_⟩; gi_at_call 35; refine (callsIn_wide.2 HCo.out).mono ?_; rintro e w2 ⟨rfl, hb2⟩; have T1 := Lib.hid (T0.out.past hb2); have N1 := Lib.hid (N0.out.past hb2); have L1 := Lib.hid (L0.out.past hb2); have P1 := Lib.hid (pt P0.out hb2); clear hb2 t0 t1 t2 t3 tl n0 nl l0 ll; have t0 := T1.out.cellAt 0 rfl; have t1 := T1.out.cellAt 1 rfl; have t2 := T1.out.cellAt 2 rfl; have t3 := T1.out.cellAt 3 rfl; have tl := T1.out.lt; have n0 := N1.out.cellAt 0 rfl; have nl := N1.out.lt; have l0 := L1.out.cellAt 0 rfl; have ll := L1.out.lt) | (refine ⟨trivial, (fun h => nomatch h), ?_⟩; gi_at_call 36; refine (callsIn_wide.2 (HMe.out _ P1.out)).mono ?_; rintro e w3 ⟨rfl, hb2⟩; have T2 := Lib.hid (T1.out.past hb2); have N2 := Lib.hid (N1.out.past hb2); have L2 := Lib.hid (L1.out.past hb2); have P2 := Lib.hid (pt P1.out hb2); clear hb2 t0 t1 t2 t3 tl n0 nl l0 ll; have t0 := T2.out.cellAt 0 rfl; have t1 := T2.out.cellAt 1 rfl; have t2 := T2.out.cellAt 2 rfl; have t3 := T2.out.cellAt 3 rfl; have tl := T2.out.lt; have n0 := N2.out.cellAt 0 rfl; have nl := N2.out.lt; have l0 := L2.out.cellAt 0 rfl; have ll := L2.out.lt) | (refine ⟨trivial, (fun h => nomatch h), ?_⟩; gi_at_call 37; refine (callsIn_wide.2 (HCl.out _ P2.out)).mono ?_; rintro e w4 ⟨v4, rfl, hown, hb2⟩; rw [HX2.out] at hown; obtain ⟨g4, c4, rfl⟩ := own_some hown hn1; have HO4 := Lib.hid hown; clear hown; have T3 := Lib.hid (T2.out.past hb2); have N3 := Lib.hid (N2.out.past hb2); have L3 := Lib.hid (L2.out.past hb2); have P3 := Lib.hid (pt P2.out hb2); clear hb2 t0 t1 t2 t3 tl n0 nl l0 ll; have t0 := T3.out.cellAt 0 rfl; have t1 := T3.out.cellAt 1 rfl; have t2 := T3.out.cellAt 2 rfl; have t3 := T3.out.cellAt 3 rfl; have tl := T3.out.lt; have n0 := N3.out.cellAt 0 rfl; have nl := N3.out.lt; have l0 := L3.out.cellAt 0 rfl; have ll := L3.out.lt; have fn0 := N3.out.frozen 0; have fl0 := L3.out.frozen 0))
          have hsz2 := P2.out.size
          refine ⟨((keeps_below P3.out).trans ((KeepsOthers.setCell _ _ _).trans (KeepsOthers.setCell _ _ _))).from _,
            ((KeepG.of_below P3.out (fun q hq => by have : q < B := hq; omega) HX4.out).trans (KeepG.set (fun q hq => by have : q < B := hq; dsimp only; omega) (fun q hq => by have := HGb.out q hq; dsimp only; omega))).trans (KeepG.set (fun q hq => by have : q < B := hq; dsimp only; omega) (fun q hq => by have := HGb.out q hq; dsimp only; omega)), ?_⟩
          show CheaInv w G _ b7 b9 b10 n (cheapF (meetB rs sl) (costC idle price sl) (List.map Prod.snd (pre ++ [((some ⟨xb, xo, none⟩, cX), xs)])) none) _
          rw [HLast.out, HS.out, if_pos (by simp [HMv.out, lessB, HLt.out])]
          exact (HI.out.past hw1 h79 h910 HGb.out P3.out).store hw1 h79 h910 (base := w3.heap.size) (by omega) (fun q hq => by have := HX4.out q hq; omega) HX2.out hn1 HO4.out (own_cap HO4.out) ⟨_, N3.out⟩ ⟨_, L3.out⟩
        · have hmb : (mv == 2) = false := by simpa using hmv
          have HMv := Lib.hid hmv
          clear hmv
          gi_wp2_with (first | (refine ⟨trivial, (fun h => nomatch h), ?_⟩; gi_at_call 35; refine (callsIn_wide.2 HCo.out).mono ?_; rintro e w2 ⟨rfl, hb2⟩; have T1 := Lib.hid (T0.out.past hb2); have N1 := Lib.hid (N0.out.past hb2); have L1 := Lib.hid (L0.out.past hb2); have P1 := Lib.hid (pt P0.out hb2); clear hb2 t0 t1 t2 t3 tl n0 nl l0 ll; have t0 := T1.out.cellAt 0 rfl; have t1 := T1.out.cellAt 1 rfl; have t2 := T1.out.cellAt 2 rfl; have t3 := T1.out.cellAt 3 rfl; have tl := T1.out.lt; have n0 := N1.out.cellAt 0 rfl; have nl := N1.out.lt; have l0 := L1.out.cellAt 0 rfl; have ll := L1.out.lt) | (refine ⟨trivial, (fun h => nomatch h), ?_⟩; gi_at_call 36; refine (callsIn_wide.2 (HMe.out _ P1.out)).mono ?_; rintro e w3 ⟨rfl, hb2⟩; have T2 := Lib.hid (T1.out.past hb2); have N2 := Lib.hid (N1.out.past hb2); have L2 := Lib.hid (L1.out.past hb2); have P2 := Lib.hid (pt P1.out hb2); clear hb2 t0 t1 t2 t3 tl n0 nl l0 ll; have t0 := T2.out.cellAt 0 rfl; have t1 := T2.out.cellAt 1 rfl; have t2 := T2.out.cellAt 2 rfl; have t3 := T2.out.cellAt 3 rfl; have tl := T2.out.lt; have n0 := N2.out.cellAt 0 rfl; have nl := N2.out.lt; have l0 := L2.out.cellAt 0 rfl; have ll := L2.out.lt))
          refine ⟨(keeps_below P2.out).from _, KeepG.of_below P2.out (fun q hq => by have : q < B := hq; omega) HX4.out, ?_⟩
          show CheaInv w G _ b7 b9 b10 n (cheapF (meetB rs sl) (costC idle price sl) (List.map Prod.snd (pre ++ [((some ⟨xb, xo, none⟩, cX), xs)])) none) _
          rw [HLast.out, HS.out, if_neg (by simp [HMv.out, lessB])]
          exact HI.out.past hw1 h79 h910 HGb.out P2.out
      · have HLt := Lib.hid hlt
        gi_wp2_with (first | (refine ⟨trivial, (fun h => nomatch h), ?_⟩; gi_at_call 35; refine (callsIn_wide.2 HCo.out).mono ?_; rintro e w2 ⟨rfl, hb2⟩; have T1 := Lib.hid (T0.out.past hb2); have N1 := Lib.hid (N0.out.past hb2); have L1 := Lib.hid (L0.out.past hb2); have P1 := Lib.hid (pt P0.out hb2); clear hb2 t0 t1 t2 t3 tl n0 nl l0 ll; have t0 := T1.out.cellAt 0 rfl; have t1 := T1.out.cellAt 1 rfl; have t2 := T1.out.cellAt 2 rfl; have t3 := T1.out.cellAt 3 rfl; have tl := T1.out.lt; have n0 := N1.out.cellAt 0 rfl; have nl := N1.out.lt; have l0 := L1.out.cellAt 0 rfl; have ll := L1.out.lt) | (refine ⟨(trivial : Fence.wide.fn 36), ?_⟩; fail_if_success (refine ⟨(fun h => nomatch h), ?_⟩)))
        refine ⟨(keeps_below P1.out).from _, KeepG.of_below P1.out (fun q hq => by have : q < B := hq; omega) HX4.out, ?_⟩
        show CheaInv w G _ b7 b9 b10 n (cheapF (meetB rs sl) (costC idle price sl) (List.map Prod.snd (pre ++ [((some ⟨xb, xo, none⟩, cX), xs)])) none) _
        rw [HLast.out, HS.out, if_neg (by simp [lessB, HLt.out])]
        exact HI.out.past hw1 h79 h910 HGb.out P1.out
  case done =>
    rintro G D ys W hD hS hI hK
    obtain ⟨b, hb⟩ : ∃ b, b = cheaF rs idle price sl (allC (slotN sl)) := ⟨_, rfl⟩
    have hI2 : CheaInv w G #[.slice SA n c, .int .i64 idle, .int .i64 price, .slice RA rn rc] b7 b9 b10 n b W := by
      rw [hb]
      have h := hI
      rw [show List.map Prod.snd ys = allC (slotN sl) from hS] at h
      exact h
    have HB := Lib.hid hb
    clear hI hS hb HSeq
    have HI := Lib.hid hI2
    rcases hI2.best with ⟨rfl, q9, q10⟩ | ⟨ys, k0, g0, off, c', rfl, q9, q10, hyl, hyc, _, _, hg0, hcells⟩
    · have n0 := q9.cellAt 0 rfl
      have nl := q9.lt
      gi_wp2
      refine ⟨by simp, .inl ⟨_, _, rfl, run_takeDeferred hK, ?_⟩⟩
      refine ⟨.tuple #[.slice none 0 0, .int .i64 0, .int .i64 12], by simp [results, Tryz.results10, go_sem], ?_⟩
      rw [← HB.out]
      exact ⟨none, 0, rfl, .inl rfl, Nat.zero_le _, HI.out.bel.trans ⟨rfl, rfl, rfl, by simp, fun k hk => World.putObj_heap_other (by have := HI0.out.bel.size; omega)⟩⟩
    · have n0 := q9.cellAt 0 rfl
      have nl := q9.lt
      have l0 := q10.cellAt 0 rfl
      have ll := q10.lt
      have HC := Lib.hid hcells
      have HYl := Lib.hid hyl
      clear hcells hyl
      gi_wp2
      refine region_belowIn (fun _ => trivial) rfl (fun _ _ _ _ h => callsIn_wide.2 h) 4 follows_mixed (by kernel_rfl) (by kernel_rfl) ?_
      intro C hC
      simp only [List.take_succ_cons, List.take_zero, List.drop_succ_cons, List.drop_zero]
      repeat (first
        | ((with_reducible refine quiet_plain rfl (fun K hK => ?_)); (focus (apply quiet_val; (focus (intro w' hw; obtain ⟨hcq, hfq⟩ := bcell ((hC.out _).1 hw); go_simp; (first | done | rfl))); (simp only [Act.put, List.setIfInBounds_toArray, List.set_cons_succ, List.set_cons_zero]); (with_reducible refine hK _ ?_); clear hK K)))
        | ((with_reducible refine quiet_skip ?_ ?_); (focus (first | (simp [Region.wanted, yielded]; done) | (simp [Region.wanted, yielded, undef]; done))); simp only [Act.put, List.setIfInBounds_toArray, List.set_cons_succ, List.set_cons_zero])
        | ((with_reducible refine quiet_go ?_ (fun K hK => ?_)); (focus (first | (simp [Region.wanted, yielded]; done) | (simp [Region.wanted, yielded, undef]; done))); (focus (apply quiet_val; (focus (intro w' hw; obtain ⟨hcq, hfq⟩ := bcell ((hC.out _).1 hw); go_simp; (first | done | rfl))); (simp only [Act.put, List.setIfInBounds_toArray, List.set_cons_succ, List.set_cons_zero]); (with_reducible refine hK _ ?_); clear hK K))))
      refine wpQuiet_nil ?_
      intro w1 hb1
      replace hb1 := (hC.out _).1 hb1
      clear hC C
      obtain ⟨hc1, hf1⟩ := bcell hb1
      have HB7 := Lib.hid hb1
      have hKD : w1.heap[D]? = some (.deferred (some [])) := (hb1.block D (Array.getElem?_eq_some_iff.1 hK).1).trans hK
      clear hb1 hc1 hf1
      gi_wp2
      refine ⟨by simp, .inl ⟨_, _, rfl, run_takeDeferred hKD, ?_⟩⟩
      refine ⟨.tuple #[.slice (some ⟨g0, off, none⟩) n c', .int .i64 k0, .int .i64 0], by simp [results, Tryz.results10, go_sem], ?_⟩
      rw [← HB.out]
      refine ⟨some ⟨g0, off, none⟩, c', by rw [show (cheaL (some (ys, k0))).length = n from HYl.out]; rfl, .inr ⟨g0, off, rfl, by have := HB7.out.size; simp; omega, fun j hj => ?_⟩, by rw [show (cheaL (some (ys, k0))).length = n from HYl.out]; exact hyc, (HI.out.bel.trans (HB7.out.mono HI.out.bel.size)).trans ⟨rfl, rfl, rfl, by simp, fun k hk => World.putObj_heap_other (by have := HI0.out.bel.size; omega)⟩⟩
      have h3 := (World.cell?_of_block (HB7.out.block g0 hg0)).trans (HC.out j (by rw [← HYl.out]; exact hj))
      rw [World.cell?_of_block (w := w1) (World.putObj_heap_other (fun e => ?_))]
      · exact h3
      · subst e
        simp only [World.cell?, hKD] at h3
        cases h3
  case stop =>
    rintro G D c' pre W hD hSp hf hK
    exact hf.elim

theorem cheapest_any (B : Nat) (rs : List DReq) (RA : Option Addr) (rn rc : Nat) (sl : List (List DPart)) (SA : Option Addr) (n c : Nat) (idle price : Int) (w : World) (hrr : ReqsIn B w RA rs) (hr : SlotsIn B w SA sl) (hB : B ≤ w.heap.size) (hrn : rs.length = rn) (hrm : rn ≤ 1000) (hrs : ∀ r ∈ rs, r.ts.length ≤ 1000) (hU : UnitIn w) (hn : sl.length = n) (hm : n ≤ 1000) (hs : SmallSlots sl) (hS : openE rs idle price sl = 0 → SlotsOk sl) (hR : openE rs idle price sl = 0 → ∀ r ∈ rs, ReqOk r) (hI : openE rs idle price sl = 0 → 0 ≤ idle ∧ idle ≤ 1000) (hP : openE rs idle price sl = 0 → 0 ≤ price ∧ price ≤ 1000) (h0 : openE rs idle price sl = 0) :
    Calls Tryz.prog 10 #[.agg #[.slice RA rn rc], .agg #[.slice SA n c, .int .i64 idle, .int .i64 price]] w (StepsRet w (cheaL (cheaF rs idle price sl (allC (slotN sl)))) (cheaN (cheaF rs idle price sl (allC (slotN sl)))) (cheaE (cheaF rs idle price sl (allC (slotN sl))))) :=
  callsIn_wide.1 (cheapest_in 1 B rs RA rn rc sl SA n c idle price w hrr hr hB hrn hrm hrs hU hn hm hs (Nat.le_refl _) h0 (hS h0) (hR h0) (hI h0) (hP h0))

end Go.Proofs.YtnfbdkdjoekifaaGreatDoor
end
