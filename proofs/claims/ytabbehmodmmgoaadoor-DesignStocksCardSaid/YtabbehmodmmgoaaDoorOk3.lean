/- Contract: CopyStock (the specification of chapter 2): a stock in memory of its own. Printed by a program (gen_d7copy.py). -/
import Derived.Test.YtabbehmodmmgoaaDoorOc2
import Derived.Test.YtabbehmodmmgoaaDoorOd9
import Derived.Test.YtabbehmodmmgoaaDoorOa9
import Derived.Test.YtabbehmodmmgoaaDoorOb5

section
namespace Go.Proofs.YtabbehmodmmgoaaDoor
open Go.RowKit

/-- Blocks of one kind stay as they are. -/
def KeptT (T : TypeId) (w w' : World) : Prop := ∀ (b : Nat) (cs : Array Value) (fz : Nat × Nat), w.heap[b]? = some (Obj.cells cs T fz) → w'.heap[b]? = w.heap[b]?
theorem KeptT.below {T : TypeId} {w w' : World} (h : Below w.heap.size w w') : KeptT T w w' := fun b _ _ ht => h.block b (Array.getElem?_eq_some_iff.1 ht).1
theorem own_ne {w : World} {base g n size : Nat} {e t : TypeId} {v : Value} {xs : List Value} {cs : Array Value} {fz : Nat × Nat} (ho : w.ownsRow base e size v n xs) (hb : w.heap[g]? = some (Obj.cells cs t fz)) (hne : e ≠ t) : some g ≠ v.ownBlock := fun he => by
  rcases ho.2 with ⟨h1, _⟩ | ⟨g', cap, cur, h1, _, hh, _⟩
  · rw [h1] at he; cases he
  · rw [h1] at he
    have : g = g' := by simpa [Value.ownBlock] using he
    subst this
    rw [hb] at hh
    injection hh with hh
    injection hh with _ hh
    exact absurd hh.symm hne
theorem KeptT.rows {T : TypeId} {w w' : World} {base n size : Nat} {e : TypeId} {v : Value} {xs : List Value} (ho : w.ownsRow base e size v n xs) (hne : e ≠ T) (hg : w.grownBy w' v.ownBlock) : KeptT T w w' := fun b _ _ ht => hg.block b (Array.getElem?_eq_some_iff.1 ht).1 (own_ne ho ht hne)
theorem KeptT.cell {T : TypeId} {w : World} {g : Nat} {t : TypeId} {cs : Array Value} (hb : Blk w g t cs) (hne : t ≠ T) {q : Addr} (hq : q.block = g) (u : Value) : KeptT T w (w.setCell q u) := fun b _ _ ht => Below.heap_setCell _ _ _ _ fun e => by
  rw [hq] at e
  subst e
  rw [show w.heap[b]? = _ from hb] at ht
  injection ht with ht
  injection ht with _ ht
  exact hne ht
/-- From A on lie the parts l, in a block of parts. -/
def PRow (w : World) (A : Option Addr) (l : List DPart) : Prop :=
  l = [] ∨ ∃ b off, A = some ⟨b, off, none⟩ ∧ (∃ (cs : Array Value) (fz : Nat × Nat), w.heap[b]? = some (Obj.cells cs 87 fz)) ∧ ∀ q, q < (partsC l).length → w.cell? ⟨b, off + q, none⟩ = (partsC l)[q]?
theorem PRow.same {w w' : World} {A : Option Addr} {l : List DPart} (h : PRow w A l) (hk : KeptT 87 w w') : PRow w' A l := by
  rcases h with h | ⟨b, off, hA, ⟨cs, fz, ht⟩, hc⟩
  · exact .inl h
  · exact .inr ⟨b, off, hA, ⟨cs, fz, (hk b cs fz ht).trans ht⟩, fun q hq => (World.cell?_of_block (hk b cs fz ht)).trans (hc q hq)⟩
theorem PRow.cells {w : World} {A : Option Addr} {l : List DPart} (h : PRow w A l) : CellsIn w.heap.size w A (partsC l) := by
  rcases h with h | ⟨b, off, hA, ⟨cs, fz, ht⟩, hc⟩
  · exact .inl (by rw [h]; rfl)
  · exact .inr ⟨b, off, hA, (Array.getElem?_eq_some_iff.1 ht).1, hc⟩
theorem partsC_len (l : List DPart) : (partsC l).length = l.length * 14 := flat_len part_len l
theorem prow_of_own {w : World} {base n c : Nat} {A : Option Addr} {l : List DPart} (h : w.ownsRow base 87 14 (.slice A n c) n (partsC l)) : PRow w A l := by
  rcases h.2 with ⟨h1, h2⟩ | ⟨g, cap, cur, hv, _, hh, _⟩
  · refine .inl ?_
    have h3 := h.1
    rw [h2, partsC_len] at h3
    exact List.eq_nil_of_length_eq_zero (by omega)
  · injection hv with hA _ _
    rcases cellsIn_of_own h with h2 | ⟨b, off, hA2, hb, hc⟩
    · refine .inl ?_
      have h3 := congrArg List.length h2
      rw [partsC_len] at h3
      exact List.eq_nil_of_length_eq_zero (by simp at h3; omega)
    · rw [hA] at hA2
      injection hA2 with hA2
      injection hA2 with e1 e2 _
      subst e1 e2
      exact .inr ⟨g, 0, hA, ⟨cur, (0, 0), hh⟩, hc⟩
/-- The values us are slices that read as the slots sl. -/
def StockRow (w : World) (us : List Value) (sl : List (List DPart)) : Prop :=
  us.length = sl.length ∧ ∀ i, i < sl.length → ∃ A c, us[i]? = some (.slice A (sl.getD i []).length c) ∧ PRow w A (sl.getD i []) ∧ (sl.getD i []).length ≤ c
theorem StockRow.nil {w : World} : StockRow w [] [] := ⟨rfl, fun i hi => by simp at hi⟩
theorem StockRow.same {w w' : World} {us : List Value} {sl : List (List DPart)} (h : StockRow w us sl) (hk : KeptT 87 w w') : StockRow w' us sl := ⟨h.1, fun i hi => by
  obtain ⟨A, c, h1, h2, h3⟩ := h.2 i hi
  exact ⟨A, c, h1, h2.same hk, h3⟩⟩
theorem StockRow.snoc {w : World} {us : List Value} {sl : List (List DPart)} (h : StockRow w us sl) {l : List DPart} {A : Option Addr} {c : Nat} (hl : PRow w A l) (hc : l.length ≤ c) : StockRow w (us ++ [.slice A l.length c]) (sl ++ [l]) := by
  refine ⟨by simp [h.1], fun i hi => ?_⟩
  rcases Nat.lt_or_ge i sl.length with h2 | h2
  · obtain ⟨A', c', h3, h4, h5⟩ := h.2 i h2
    have e : (sl ++ [l]).getD i [] = sl.getD i [] := by simp [List.getD, List.getElem?_append_left h2]
    rw [e]
    exact ⟨A', c', by rw [List.getElem?_append_left (by rw [h.1]; exact h2)]; exact h3, h4, h5⟩
  · have hie : i = sl.length := by simp at hi; omega
    subst hie
    have e : (sl ++ [l]).getD sl.length [] = l := by simp [List.getD]
    rw [e]
    exact ⟨A, c, by rw [List.getElem?_append_right (by rw [h.1]; exact Nat.le_refl _), h.1, Nat.sub_self]; rfl, hl, hc⟩
theorem StockRow.slots {w : World} {us : List Value} {sl : List (List DPart)} {base n c : Nat} {A : Option Addr} (h : StockRow w us sl) (ho : w.ownsRow base 82 1 (.slice A n c) n us) : SlotsIn w.heap.size w A sl := by
  rcases cellsIn_of_own ho with hu | ⟨b, off, hA, hb, hc⟩
  · refine .inl ?_
    have := h.1
    rw [hu] at this
    exact List.eq_nil_of_length_eq_zero this.symm
  · refine .inr ⟨b, off, hA, hb, fun i hi => ?_⟩
    obtain ⟨A', c', h1, h2, h3⟩ := h.2 i hi
    exact ⟨A', c', (hc _ (by rw [h.1]; exact hi)).trans h1, h2.cells, h3⟩
theorem own_cellT {w : World} {base size n g : Nat} {e t : TypeId} {v : Value} {xs : List Value} {cs : Array Value} (ho : w.ownsRow base e size v n xs) (hb : Blk w g t cs) (hne : e ≠ t) {q : Addr} (hq : q.block = g) (u : Value) : (w.setCell q u).ownsRow base e size v n xs := by
  obtain ⟨h1, h2⟩ := ho
  refine ⟨h1, ?_⟩
  rcases h2 with h2 | ⟨g', cap, cur, h3, h4, h5, h6⟩
  · exact .inl h2
  · refine .inr ⟨g', cap, cur, h3, h4, ?_, h6⟩
    rw [Below.heap_setCell _ _ _ _ fun e' => ?_]
    · exact h5
    · rw [hq] at e'
      subst e'
      unfold Blk at hb
      rw [hb] at h5
      injection h5 with h5
      injection h5 with _ h5
      exact hne h5.symm
theorem part_infoC : (Tryd.prog.info? 87).map (fun i => (i.zero, i.size, i.bytes)) = some (some (.agg #[.string ByteArray.empty, .int .i64 0, .int .i64 0, .int .i64 0, .int .i64 0, .int .i64 0, .int .i64 0, .int .i64 0, .int .i64 0, .int .i64 0, .int .i64 0, .int .i64 0, .int .i64 0, .int .i64 0]), 14, 120) := by kernel_rfl
theorem list_infoC : (Tryd.prog.info? 82).map (fun i => (i.zero, i.size, i.bytes)) = some (some (.slice none 0 0), 1, 24) := by kernel_rfl
theorem info_partsC {t : TypeId} {z : Value} {s b : Nat} (h : (Tryd.prog.info? t).map (fun i => (i.zero, i.size, i.bytes)) = some (some z, s, b)) : ∃ i, Tryd.prog.info? t = some i ∧ i.zero = some z ∧ i.size = s ∧ i.bytes = b := by
  cases hi : Tryd.prog.info? t with
  | none => rw [hi] at h; cases h
  | some i => rw [hi] at h; simp only [Option.map_some, Option.some.injEq, Prod.mk.injEq] at h; exact ⟨i, rfl, h.1, h.2.1, h.2.2⟩
/-- A stock of the callee's own. -/
def StockRet (w : World) (sl : List (List DPart)) (idle price : Int) (e : Ending) (w' : World) : Prop :=
  ∃ A c, e = .returned (.agg #[.slice A sl.length c, .int .i64 idle, .int .i64 price]) ∧ SlotsIn w'.heap.size w' A sl ∧ sl.length ≤ c ∧ Below w.heap.size w w'

set_option maxHeartbeats 4000000 in
set_option maxRecDepth 100000 in
theorem copyStock_any (B : Nat) (sl : List (List DPart)) (A : Option Addr) (n c : Nat) (idle price : Int) (w : World) (hr : SlotsIn B w A sl) (hB : B ≤ w.heap.size) (hn : sl.length = n) (hm : n ≤ 1000) (hs : ∀ l ∈ sl, l.length ≤ 1000) :
    Calls Tryd.prog 26 #[.agg #[.slice A n c, .int .i64 idle, .int .i64 price]] w (StockRet w sl idle price) := by
  obtain ⟨p0, hp0, hpz, hps, hpb⟩ := info_partsC part_infoC
  obtain ⟨s0, hs0, hsz, hss, hsb⟩ := info_partsC list_infoC
  have HR := Lib.hid hr
  have HS2 := Lib.hid hs
  clear hr hs
  subst hn
  go_enter Tryd.func26, Tryd.ntmps26
  go_wp2
  go_loopw [4] (fun ix wr => ∃ (i : Nat) (A' : Option Addr) (c' : Nat) (us : List Value), ix = .int .i64 (i : Int) ∧ i ≤ sl.length ∧ Blk wr w.heap.size 51 #[.slice A sl.length c, .int .i64 idle, .int .i64 price] ∧ Blk wr (w.heap.size + 1) 51 #[.slice none 0 0, .int .i64 0, .int .i64 0] ∧ Blk wr (w.heap.size + 1 + 1) 51 #[.slice A' i c', .int .i64 idle, .int .i64 price] ∧ wr.ownsRow w.heap.size 82 1 (.slice A' i c') i us ∧ StockRow wr us (sl.take i) ∧ Below w.heap.size w wr) (fun ix _ => sl.length - (intOf ix).toNat)
  case atStart => exact ⟨0, none, 0, [], rfl, Nat.zero_le _, ((Blk.newAt rfl).alloc).alloc, (Blk.newAt (by simp)).alloc, Blk.newAt (by simp), World.ownsRow_nil _ _ _ _, StockRow.nil, pa (pa (pa pr))⟩
  case round =>
    obtain ⟨i, A', c', us, rfl, hi, k0, k1, k2, hown, hrow, hq⟩ := hrel
    have e1 : wr.cell? ⟨w.heap.size, 0, none⟩ = some (.slice A sl.length c) := k0.cellAt 0 rfl
    have x0 := k0.lt
    have x2 := k2.lt
    by_cases hlt : i < sl.length
    · obtain ⟨b, off, hA, hbB, hct⟩ := HR.out.at_ hlt
      subst hA
      obtain ⟨A3, c3, t0w, tps, tc⟩ := hct i hlt
      have HT0 := Lib.hid t0w
      have HPs := Lib.hid tps
      have n0 : (0 : Int) ≤ (i : Int) := by omega
      have n1 : (i : Int) < (sl.length : Int) := by omega
      have hbw : b < w.heap.size := by omega
      have HStep := Lib.hid (show sl.take (i + 1) = sl.take i ++ [sl.getD i []] by
        have e : sl.getD i [] = sl[i] := by simp [List.getD, hlt]
        rw [List.take_succ_eq_append_getElem hlt, e])
      have hm3 := HS2.out (sl.getD i []) (by simp [List.getD, hlt])
      clear hct t0w tps
      generalize sl.getD i [] = l at *
      have hlen := partsC_len l
      have hone : ∀ u ∈ partsC l, u.oneCell' = true := flat_one part_one l
      have HLen := Lib.hid hlen
      have HOne := Lib.hid hone
      have HOwn := Lib.hid hown
      have HRow := Lib.hid hrow
      have HQ := Lib.hid hq
      have K0 := Lib.hid k0
      have K1 := Lib.hid k1
      have K2 := Lib.hid k2
      have hqs := hq.size
      clear hown hrow hq k0 k1 k2 hlen hone
      go_wp2
      clear e1
      have HS := Lib.hid (show ∀ W, Below w.heap.size w W → Blk W w.heap.size 51 #[.slice (some ⟨b, off, none⟩) sl.length c, .int .i64 idle, .int .i64 price] → Blk W (w.heap.size + 1 + 1) 51 #[.slice A' i c', .int .i64 idle, .int .i64 price] → W.cell? ⟨w.heap.size, 0, none⟩ = some (.slice (some ⟨b, off, none⟩) sl.length c) ∧ W.cell? ⟨w.heap.size + 1 + 1, 0, none⟩ = some (.slice A' i c') ∧ W.cell? ⟨b, off + i, none⟩ = some (.slice A3 l.length c3) from fun W hW h0 h2 =>
        ⟨h0.cellAt 0 rfl, h2.cellAt 0 rfl, ((bcell hW).1 _ _ hbw).trans HT0.out⟩)
      refine wp_region_G 12 follows_mixed (fun W => W.cell? ⟨w.heap.size, 0, none⟩ = some (.slice (some ⟨b, off, none⟩) sl.length c) ∧ W.cell? ⟨w.heap.size + 1 + 1, 0, none⟩ = some (.slice A' i c') ∧ W.cell? ⟨b, off + i, none⟩ = some (.slice A3 l.length c3)) (HS.out _ (pd HQ.out) K0.out.drew K2.out.drew) ?_
      intro hSd inv
      have HSd := Lib.hid hSd
      clear hSd
      refine wpAnyG_take (i := 0) (v := ?_) rfl (by kernel_rfl) (by kernel_rfl) (by kernel_rfl) (by kernel_rfl) (by kernel_rfl) (by decide) (by decide) inv (fun _ _ _ h => h) (Or.inl ⟨by rfl, ?_⟩) HSd.out ?_; rotate_left; (focus (intro W y1; obtain ⟨y1, y2, y3⟩ := y1; go_simp; (first | done | with_reducible rfl))); clear inv; intro inv; simp only [List.getElem_toArray, List.getElem_cons_zero, Act.put, List.setIfInBounds_toArray, List.set_cons_zero, List.set_cons_succ]
      refine wpAnyG_take (i := 1) (v := ?_) rfl (by kernel_rfl) (by kernel_rfl) (by kernel_rfl) (by kernel_rfl) (by kernel_rfl) (by decide) (by decide) inv (fun _ _ _ h => h) (Or.inl ⟨by rfl, ?_⟩) HSd.out ?_; rotate_left; (focus (intro W y1; obtain ⟨y1, y2, y3⟩ := y1; go_simp; (first | done | with_reducible rfl))); clear inv; intro inv; simp only [List.getElem_toArray, List.getElem_cons_zero, List.getElem_cons_succ, Act.put, List.setIfInBounds_toArray, List.set_cons_zero, List.set_cons_succ]
      refine wpAnyG_take (i := 3) (v := ?_) rfl (by kernel_rfl) (by kernel_rfl) (by kernel_rfl) (by kernel_rfl) (by kernel_rfl) (by decide) (by decide) inv (fun _ _ _ h => h) (Or.inl ⟨by rfl, ?_⟩) HSd.out ?_; rotate_left; (focus (intro W y1; obtain ⟨y1, y2, y3⟩ := y1; go_simp; (first | done | with_reducible rfl))); clear inv; intro inv; simp only [List.getElem_toArray, List.getElem_cons_zero, List.getElem_cons_succ, Act.put, List.setIfInBounds_toArray, List.set_cons_zero, List.set_cons_succ]
      refine wpAnyG_take (i := 4) (v := ?_) rfl (by kernel_rfl) (by kernel_rfl) (by kernel_rfl) (by kernel_rfl) (by kernel_rfl) (by decide) (by decide) inv (fun _ _ _ h => h) (Or.inl ⟨by rfl, ?_⟩) HSd.out ?_; rotate_left; (focus (intro W y1; obtain ⟨y1, y2, y3⟩ := y1; go_simp; (first | done | with_reducible rfl))); clear inv; intro inv; simp only [List.getElem_toArray, List.getElem_cons_zero, List.getElem_cons_succ, Act.put, List.setIfInBounds_toArray, List.set_cons_zero, List.set_cons_succ]
      refine wpAnyG_take (i := 5) (v := ?_) rfl (by kernel_rfl) (by kernel_rfl) (by kernel_rfl) (by kernel_rfl) (by kernel_rfl) (by decide) (by decide) inv (fun _ _ _ h => h) (Or.inl ⟨by rfl, ?_⟩) HSd.out ?_; rotate_left; (focus (intro W y1; obtain ⟨y1, y2, y3⟩ := y1; go_simp; (first | done | with_reducible rfl))); clear inv; intro inv; simp only [List.getElem_toArray, List.getElem_cons_zero, List.getElem_cons_succ, Act.put, List.setIfInBounds_toArray, List.set_cons_zero, List.set_cons_succ]
      refine wpAnyG_take (i := 6) (v := ?_) rfl (by kernel_rfl) (by kernel_rfl) (by kernel_rfl) (by kernel_rfl) (by kernel_rfl) (by decide) (by decide) inv (fun _ _ _ h => h) (Or.inl ⟨by rfl, ?_⟩) HSd.out ?_; rotate_left; (focus (intro W y1; obtain ⟨y1, y2, y3⟩ := y1; go_simp; (first | done | with_reducible rfl))); clear inv; intro inv; simp only [List.getElem_toArray, List.getElem_cons_zero, List.getElem_cons_succ, Act.put, List.setIfInBounds_toArray, List.set_cons_zero, List.set_cons_succ]
      refine wpAnyG_take (i := 7) (v := ?_) rfl (by kernel_rfl) (by kernel_rfl) (by kernel_rfl) (by kernel_rfl) (by kernel_rfl) (by decide) (by decide) inv (fun _ _ _ h => h) (Or.inl ⟨by rfl, ?_⟩) HSd.out ?_; rotate_left; (focus (intro W y1; obtain ⟨y1, y2, y3⟩ := y1; go_simp; (first | done | with_reducible rfl))); clear inv; intro inv; simp only [List.getElem_toArray, List.getElem_cons_zero, List.getElem_cons_succ, Act.put, List.setIfInBounds_toArray, List.set_cons_zero, List.set_cons_succ]
      clear inv
      refine wpAnyG_one (i := 2) (by kernel_rfl) rfl rfl fun K hK => ?_
      go_simp
      have own0 : (wr.alloc (.cells #[] 87)).drew.ownsRow wr.heap.size 87 14 (.slice (some ⟨wr.heap.size, 0, none⟩) 0 0) 0 [] := own_past (pd pr) (World.ownsRow_lit wr #[] 0 (Nat.le_refl _) (Nat.zero_le _) rfl)
      have hBa : Below w.heap.size w (wr.alloc (.cells #[] 87)).drew := pd (pa HQ.out)
      have hBr : Below wr.heap.size wr (wr.alloc (.cells #[] 87)).drew := pd (pa pr)
      have K0a := Lib.hid (K0.out.past hBr)
      have K2a := Lib.hid (K2.out.past hBr)
      generalize (wr.alloc (.cells #[] 87)).drew = wa at *
      refine hK.out _ _ (fun _ => HS.out _ hBa K0a.out K2a.out) ?_
      clear hK K
      have hql := hBa.size
      have hqr := hBr.size
      have hcl : CellsIn B wa A3 (partsC l) := HPs.out.below (hBa.mono hB)
      refine wpAnyG_one (i := 8) (by kernel_rfl) rfl rfl fun K hK => ?_
      refine wp_append_cells _ (.tmp 19) (.tmp 24) _ (by rfl) wr.heap.size 87 p0 _ 14 120 Tryd.underlying82 hp0 hpz hps hpb (by rfl) (by omega) (.slice (some ⟨wr.heap.size, 0, none⟩) 0 0) 0 [] (by rfl) own0 B A3 l.length c3 (partsC l) (by rfl) hcl HLen.out HOne.out (by simp only [maxLen]; omega) (by omega) (by first | omega | (simp; omega)) ?_
      intro v3 w3 hown3 hg3 _
      rw [Nat.zero_add, List.nil_append] at hown3
      obtain ⟨A5, c5, rfl, hc5, _⟩ := own_form hown3
      have hb3 := Lib.hid (show Below wr.heap.size wr w3 from pg hBr own0 (Nat.le_refl _) hg3)
      have HP3 := Lib.hid (prow_of_own hown3)
      have HO3 := Lib.hid (own_past hb3.out HOwn.out)
      have K03 := Lib.hid (K0.out.past hb3.out)
      have K13 := Lib.hid (K1.out.past hb3.out)
      have K23 := Lib.hid (K2.out.past hb3.out)
      have HQ3 := Lib.hid (pt HQ.out hb3.out)
      have HRow3 := Lib.hid (HRow.out.same (KeptT.below hb3.out))
      have hq3 := HQ3.out.size
      clear own0 hcl hown3 hg3 HOwn K0 K1 K2 HQ HRow K0a K2a hBa hBr
      refine hK.out _ _ (fun _ => HS.out _ HQ3.out K03.out K23.out) ?_
      clear hK K
      refine wpAnyG_one (i := 9) (by kernel_rfl) rfl rfl fun K hK => ?_
      go_simp
      refine hK.out _ _ (fun _ => HS.out _ (pa HQ3.out) K03.out.alloc K23.out.alloc) ?_
      clear hK K
      refine wpAnyG_one (i := 10) (by kernel_rfl) rfl rfl fun K hK => ?_
      refine wp_append_cells _ (.tmp 18) (.tmp 26) _ (by rfl) w.heap.size 82 s0 _ 1 24 Tryd.underlying49 hs0 hsz hss hsb (by rfl) (by omega) (.slice A' i c') i us (by rfl) (HO3.out.alloc _) (w3.heap.size + 1) (some ⟨w3.heap.size, 0, none⟩) 1 1 [.slice A5 l.length c5] (by rfl) (cellsIn_one w3 _ _) rfl (by simp [Value.oneCell']) (by simp only [maxLen]; omega) (by omega) (by simp; omega) ?_
      intro v4 w4 hown4 hg4 _
      obtain ⟨A4, c4, rfl, hc4, _⟩ := own_form hown4
      have HO3a := Lib.hid (HO3.out.alloc (.cells #[.slice A5 l.length c5] 82))
      have hB4 := Lib.hid (pg (pa HQ3.out) HO3a.out (Nat.le_refl _) hg4)
      have K04 := Lib.hid ((K03.out.alloc (o := .cells #[.slice A5 l.length c5] 82)).grown hg4 (own_ne HO3a.out (K03.out.alloc (o := .cells #[.slice A5 l.length c5] 82)) (by decide)))
      have K14 := Lib.hid ((K13.out.alloc (o := .cells #[.slice A5 l.length c5] 82)).grown hg4 (own_ne HO3a.out (K13.out.alloc (o := .cells #[.slice A5 l.length c5] 82)) (by decide)))
      have K24 := Lib.hid ((K23.out.alloc (o := .cells #[.slice A5 l.length c5] 82)).grown hg4 (own_ne HO3a.out (K23.out.alloc (o := .cells #[.slice A5 l.length c5] 82)) (by decide)))
      have HRow4 := Lib.hid (((HRow3.out.snoc HP3.out hc5).same (KeptT.below (pa (o := .cells #[.slice A5 l.length c5] 82) pr))).same (KeptT.rows HO3a.out (by decide) hg4))
      have HO4 := Lib.hid hown4
      clear hown4 hg4 HO3 HO3a K03 K13 K23 HRow3 HP3 hb3
      refine hK.out _ _ (fun _ => HS.out _ hB4.out K04.out K24.out) ?_
      clear hK K
      refine wpAnyG_one (i := 11) (by kernel_rfl) rfl rfl fun K hK => ?_
      go_simp
      refine hK.out _ _ (fun _ => HS.out _ hB4.out K04.out K24.out) ?_
      clear hK K
      refine wpAnyG_one (i := 12) (by kernel_rfl) rfl rfl fun K hK => ?_
      have q1 : w4.cell? ⟨w.heap.size + 1 + 1, 0, none⟩ = some (.slice A' i c') := K24.out.cellAt 0 rfl
      have q2 := K24.out.frozen 0
      have q3 := K24.out.lt
      go_simp
      refine hK.out _ _ (fun h => absurd h (by decide)) ?_
      clear hK K
      refine wpAnyG_done (by kernel_rfl) ?_
      have HK0 := Lib.hid (K04.out.far (p := ⟨w.heap.size + 1 + 1, 0, none⟩) (u := .slice A4 (i + 1) c4) (by dsimp only; omega))
      have HK1 := Lib.hid (K14.out.far (p := ⟨w.heap.size + 1 + 1, 0, none⟩) (u := .slice A4 (i + 1) c4) (by dsimp only; omega))
      have HK2 := Lib.hid (K24.out.set_ 0 (.slice A4 (i + 1) c4))
      have HOw := Lib.hid (own_cellT HO4.out K24.out (by decide) (q := ⟨w.heap.size + 1 + 1, 0, none⟩) rfl (.slice A4 (i + 1) c4))
      have HRw := Lib.hid (HRow4.out.same (KeptT.cell K24.out (by decide) (q := ⟨w.heap.size + 1 + 1, 0, none⟩) rfl (.slice A4 (i + 1) c4)))
      have HBw := Lib.hid (ps hB4.out (p := ⟨w.heap.size + 1 + 1, 0, none⟩) (u := .slice A4 (i + 1) c4) (by dsimp only; omega))
      clear q1 q2 q3 K04 K14 K24 HO4 HRow4 hB4
      go_wp2
      go_roundw
      case rel => exact ⟨i + 1, A4, c4, _, by go_num, by omega, HK0.out, HK1.out, HK2.out, HOw.out, by rw [HStep.out]; exact HRw.out, HBw.out⟩
      case measure => simp [intOf]; omega
    · obtain rfl : i = sl.length := by omega
      rw [List.take_length] at hrow
      have HRow := Lib.hid hrow
      have HOwn := Lib.hid hown
      obtain ⟨_, _, hv, hcap, _⟩ := own_form hown
      have hcap' : sl.length ≤ c' := by injection hv with _ _ h; omega
      have K1 := Lib.hid k1
      have HQ := Lib.hid hq
      have g0 := k2.cellAt 0 rfl
      have g1 := k2.cellAt 1 rfl
      have g2 := k2.cellAt 2 rfl
      have d0 := k1.cellAt 0 rfl
      have d1 := k1.cellAt 1 rfl
      have d2 := k1.cellAt 2 rfl
      have f0 := k1.frozen 0
      have f1 := k1.frozen 1
      have f2 := k1.frozen 2
      have x1 := k1.lt
      clear hown hrow hv k0 k1 k2 hq
      go_wp2
      obtain ⟨wF, hwF⟩ : ∃ wF : World, wF = ((wr.setCell ⟨w.heap.size + 1, 0, none⟩ (.slice A' sl.length c')).setCell ⟨w.heap.size + 1, 1, none⟩ (.int .i64 idle)).setCell ⟨w.heap.size + 1, 2, none⟩ (.int .i64 price) := ⟨_, rfl⟩
      have kF : Blk wF (w.heap.size + 1) 51 #[.slice A' sl.length c', .int .i64 idle, .int .i64 price] := by
        rw [hwF]
        exact ((K1.out.set_ 0 _).set_ 1 _).set_ 2 _
      have i0 := kF.cellAt 0 rfl
      have i1 := kF.cellAt 1 rfl
      have i2 := kF.cellAt 2 rfl
      rw [← hwF]
      refine bodyPost_ret (v := .agg #[.slice A' sl.length c', .int .i64 idle, .int .i64 price]) (by simp [results, Tryd.results26, go_sem, i0, i1, i2]) rfl ⟨A', c', rfl, ?_, hcap', ?_⟩
      all_goals rw [hwF]
      · have b0 := K1.out
        have b1 := K1.out.set_ 0 (.slice A' sl.length c')
        have b2 := b1.set_ 1 (.int .i64 idle)
        have hrow2 := ((HRow.out.same (KeptT.cell b0 (by decide) (q := ⟨w.heap.size + 1, 0, none⟩) rfl (.slice A' sl.length c'))).same (KeptT.cell b1 (by decide) (q := ⟨w.heap.size + 1, 1, none⟩) rfl (.int .i64 idle))).same (KeptT.cell b2 (by decide) (q := ⟨w.heap.size + 1, 2, none⟩) rfl (.int .i64 price))
        have hown2 := own_cellT (own_cellT (own_cellT HOwn.out b0 (by decide) (q := ⟨w.heap.size + 1, 0, none⟩) rfl (.slice A' sl.length c')) b1 (by decide) (q := ⟨w.heap.size + 1, 1, none⟩) rfl (.int .i64 idle)) b2 (by decide) (q := ⟨w.heap.size + 1, 2, none⟩) rfl (.int .i64 price)
        exact hrow2.slots hown2
      · exact ps (ps (ps HQ.out (Nat.le_succ _)) (Nat.le_succ _)) (Nat.le_succ _)

end Go.Proofs.YtabbehmodmmgoaaDoor
end
