/- Contracts: openChoice, openAll, ValuesOf, CostOf, Meets (package design). Printed by a program (gen_d8opn.py).
Contract: CopyStock (the specification of chapter 2): a stock in memory of its own. Printed by a program (gen_d7copy.py).
Contract: CopySpec (the specification of chapter 2): a specification in memory of its own. Printed by a program (gen_d8copy.py). -/
import Derived.Test.YtnfbdkdjoekifaaGreatDoorOn2
import Derived.Test.YtnfbdkdjoekifaaGreatDoorOc6
import Derived.Test.YtnfbdkdjoekifaaGreatDoorOc2
import Derived.Test.YtnfbdkdjoekifaaGreatDoorOd9
import Derived.Test.YtnfbdkdjoekifaaGreatDoorOa9
import Derived.Test.YtnfbdkdjoekifaaGreatDoorOb5

section
namespace Go.Proofs.YtnfbdkdjoekifaaGreatDoor
open Go.RowKit

def oneE (idle price : Int) (sl : List (List DPart)) (ch : List Int) : Int := if (stockE idle price sl).2 = 0 then choiceE sl ch else (stockE idle price sl).2
def allE (rs : List DReq) (idle price : Int) (sl : List (List DPart)) (ch : List Int) : Int := if openE rs idle price sl = 0 then choiceE sl ch else openE rs idle price sl
end Go.Proofs.YtnfbdkdjoekifaaGreatDoor
end

section
namespace Go.Proofs.YtnfbdkdjoekifaaGreatDoor
open Go.RowKit

/-- Blocks of one kind stay as they are. -/
def KeptT (T : TypeId) (w w' : World) : Prop := ∀ (b : Nat) (cs : Array Value) (fz : Nat × Nat), w.heap[b]? = some (Obj.cells cs T fz) → w'.heap[b]? = w.heap[b]?
theorem KeptT.below {T : TypeId} {w w' : World} (h : Below w.heap.size w w') : KeptT T w w' := fun b _ _ ht => h.block b (Array.getElem?_eq_some_iff.1 ht).1
theorem own_ne {w : World} {base g n size : Nat} {e t : TypeId} {v : Value} {xs : List Value} {cs : Array Value} {fz : Nat × Nat} (ho : w.ownsRow base e size v n xs) (hb : w.heap[g]? = some (Obj.cells cs t fz)) (hne : e ≠ t) : some g ≠ v.ownBlock := fun he => by
  rcases ho.2 with ⟨h1, _⟩ | ⟨g', cap, cur, h1, _, hh, _⟩
  · rw [h1] at he; cases he
  · rw [h1] at he
    have : g = g' := by simpa [Value.ownBlock] using he
    subst this
    rw [hb] at hh
    injection hh with hh
    injection hh with _ hh
    exact absurd hh.symm hne
theorem KeptT.rows {T : TypeId} {w w' : World} {base n size : Nat} {e : TypeId} {v : Value} {xs : List Value} (ho : w.ownsRow base e size v n xs) (hne : e ≠ T) (hg : w.grownBy w' v.ownBlock) : KeptT T w w' := fun b _ _ ht => hg.block b (Array.getElem?_eq_some_iff.1 ht).1 (own_ne ho ht hne)
theorem KeptT.cell {T : TypeId} {w : World} {g : Nat} {t : TypeId} {cs : Array Value} (hb : Blk w g t cs) (hne : t ≠ T) {q : Addr} (hq : q.block = g) (u : Value) : KeptT T w (w.setCell q u) := fun b _ _ ht => Below.heap_setCell _ _ _ _ fun e => by
  rw [hq] at e
  subst e
  rw [show w.heap[b]? = _ from hb] at ht
  injection ht with ht
  injection ht with _ ht
  exact hne ht
/-- From A on lie the parts l, in a block of parts. -/
def PRow (w : World) (A : Option Addr) (l : List DPart) : Prop :=
  l = [] ∨ ∃ b off, A = some ⟨b, off, none⟩ ∧ (∃ (cs : Array Value) (fz : Nat × Nat), w.heap[b]? = some (Obj.cells cs 60 fz)) ∧ ∀ q, q < (partsC l).length → w.cell? ⟨b, off + q, none⟩ = (partsC l)[q]?
theorem PRow.same {w w' : World} {A : Option Addr} {l : List DPart} (h : PRow w A l) (hk : KeptT 60 w w') : PRow w' A l := by
  rcases h with h | ⟨b, off, hA, ⟨cs, fz, ht⟩, hc⟩
  · exact .inl h
  · exact .inr ⟨b, off, hA, ⟨cs, fz, (hk b cs fz ht).trans ht⟩, fun q hq => (World.cell?_of_block (hk b cs fz ht)).trans (hc q hq)⟩
theorem PRow.cells {w : World} {A : Option Addr} {l : List DPart} (h : PRow w A l) : CellsIn w.heap.size w A (partsC l) := by
  rcases h with h | ⟨b, off, hA, ⟨cs, fz, ht⟩, hc⟩
  · exact .inl (by rw [h]; rfl)
  · exact .inr ⟨b, off, hA, (Array.getElem?_eq_some_iff.1 ht).1, hc⟩
theorem partsC_len (l : List DPart) : (partsC l).length = l.length * 14 := flat_len part_len l
theorem prow_of_own {w : World} {base n c : Nat} {A : Option Addr} {l : List DPart} (h : w.ownsRow base 60 14 (.slice A n c) n (partsC l)) : PRow w A l := by
  rcases h.2 with ⟨h1, h2⟩ | ⟨g, cap, cur, hv, _, hh, _⟩
  · refine .inl ?_
    have h3 := h.1
    rw [h2, partsC_len] at h3
    exact List.eq_nil_of_length_eq_zero (by omega)
  · injection hv with hA _ _
    rcases cellsIn_of_own h with h2 | ⟨b, off, hA2, hb, hc⟩
    · refine .inl ?_
      have h3 := congrArg List.length h2
      rw [partsC_len] at h3
      exact List.eq_nil_of_length_eq_zero (by simp at h3; omega)
    · rw [hA] at hA2
      injection hA2 with hA2
      injection hA2 with e1 e2 _
      subst e1 e2
      exact .inr ⟨g, 0, hA, ⟨cur, (0, 0), hh⟩, hc⟩
/-- The values us are slices that read as the slots sl. -/
def StockRow (w : World) (us : List Value) (sl : List (List DPart)) : Prop :=
  us.length = sl.length ∧ ∀ i, i < sl.length → ∃ A c, us[i]? = some (.slice A (sl.getD i []).length c) ∧ PRow w A (sl.getD i []) ∧ (sl.getD i []).length ≤ c
theorem StockRow.nil {w : World} : StockRow w [] [] := ⟨rfl, fun i hi => by simp at hi⟩
theorem StockRow.same {w w' : World} {us : List Value} {sl : List (List DPart)} (h : StockRow w us sl) (hk : KeptT 60 w w') : StockRow w' us sl := ⟨h.1, fun i hi => by
  obtain ⟨A, c, h1, h2, h3⟩ := h.2 i hi
  exact ⟨A, c, h1, h2.same hk, h3⟩⟩
theorem StockRow.snoc {w : World} {us : List Value} {sl : List (List DPart)} (h : StockRow w us sl) {l : List DPart} {A : Option Addr} {c : Nat} (hl : PRow w A l) (hc : l.length ≤ c) : StockRow w (us ++ [.slice A l.length c]) (sl ++ [l]) := by
  refine ⟨by simp [h.1], fun i hi => ?_⟩
  rcases Nat.lt_or_ge i sl.length with h2 | h2
  · obtain ⟨A', c', h3, h4, h5⟩ := h.2 i h2
    have e : (sl ++ [l]).getD i [] = sl.getD i [] := by simp [List.getD, List.getElem?_append_left h2]
    rw [e]
    exact ⟨A', c', by rw [List.getElem?_append_left (by rw [h.1]; exact h2)]; exact h3, h4, h5⟩
  · have hie : i = sl.length := by simp at hi; omega
    subst hie
    have e : (sl ++ [l]).getD sl.length [] = l := by simp [List.getD]
    rw [e]
    exact ⟨A, c, by rw [List.getElem?_append_right (by rw [h.1]; exact Nat.le_refl _), h.1, Nat.sub_self]; rfl, hl, hc⟩
theorem StockRow.slots {w : World} {us : List Value} {sl : List (List DPart)} {base n c : Nat} {A : Option Addr} (h : StockRow w us sl) (ho : w.ownsRow base 61 1 (.slice A n c) n us) : SlotsIn w.heap.size w A sl := by
  rcases cellsIn_of_own ho with hu | ⟨b, off, hA, hb, hc⟩
  · refine .inl ?_
    have := h.1
    rw [hu] at this
    exact List.eq_nil_of_length_eq_zero this.symm
  · refine .inr ⟨b, off, hA, hb, fun i hi => ?_⟩
    obtain ⟨A', c', h1, h2, h3⟩ := h.2 i hi
    exact ⟨A', c', (hc _ (by rw [h.1]; exact hi)).trans h1, h2.cells, h3⟩
theorem own_cellT {w : World} {base size n g : Nat} {e t : TypeId} {v : Value} {xs : List Value} {cs : Array Value} (ho : w.ownsRow base e size v n xs) (hb : Blk w g t cs) (hne : e ≠ t) {q : Addr} (hq : q.block = g) (u : Value) : (w.setCell q u).ownsRow base e size v n xs := by
  obtain ⟨h1, h2⟩ := ho
  refine ⟨h1, ?_⟩
  rcases h2 with h2 | ⟨g', cap, cur, h3, h4, h5, h6⟩
  · exact .inl h2
  · refine .inr ⟨g', cap, cur, h3, h4, ?_, h6⟩
    rw [Below.heap_setCell _ _ _ _ fun e' => ?_]
    · exact h5
    · rw [hq] at e'
      subst e'
      unfold Blk at hb
      rw [hb] at h5
      injection h5 with h5
      injection h5 with _ h5
      exact hne h5.symm
theorem part_infoC : (Tryz.prog.info? 60).map (fun i => (i.zero, i.size, i.bytes)) = some (some (.agg #[.string ByteArray.empty, .int .i64 0, .int .i64 0, .int .i64 0, .int .i64 0, .int .i64 0, .int .i64 0, .int .i64 0, .int .i64 0, .int .i64 0, .int .i64 0, .int .i64 0, .int .i64 0, .int .i64 0]), 14, 120) := by kernel_rfl
theorem list_infoC : (Tryz.prog.info? 61).map (fun i => (i.zero, i.size, i.bytes)) = some (some (.slice none 0 0), 1, 24) := by kernel_rfl
theorem info_partsC {t : TypeId} {z : Value} {s b : Nat} (h : (Tryz.prog.info? t).map (fun i => (i.zero, i.size, i.bytes)) = some (some z, s, b)) : ∃ i, Tryz.prog.info? t = some i ∧ i.zero = some z ∧ i.size = s ∧ i.bytes = b := by
  cases hi : Tryz.prog.info? t with
  | none => rw [hi] at h; cases h
  | some i => rw [hi] at h; simp only [Option.map_some, Option.some.injEq, Prod.mk.injEq] at h; exact ⟨i, rfl, h.1, h.2.1, h.2.2⟩
/-- A stock of the callee's own. -/
def StockRet (w : World) (sl : List (List DPart)) (idle price : Int) (e : Ending) (w' : World) : Prop :=
  ∃ A c, e = .returned (.agg #[.slice A sl.length c, .int .i64 idle, .int .i64 price]) ∧ SlotsIn w'.heap.size w' A sl ∧ sl.length ≤ c ∧ Below w.heap.size w w'

set_option maxHeartbeats 4000000 in
set_option maxRecDepth 100000 in
theorem copyStock_any (B : Nat) (sl : List (List DPart)) (A : Option Addr) (n c : Nat) (idle price : Int) (w : World) (hr : SlotsIn B w A sl) (hB : B ≤ w.heap.size) (hn : sl.length = n) (hm : n ≤ 1000) (hs : ∀ l ∈ sl, l.length ≤ 1000) :
    Calls Tryz.prog 12 #[.agg #[.slice A n c, .int .i64 idle, .int .i64 price]] w (StockRet w sl idle price) := by
  obtain ⟨p0, hp0, hpz, hps, hpb⟩ := info_partsC part_infoC
  obtain ⟨s0, hs0, hsz, hss, hsb⟩ := info_partsC list_infoC
  have HR := Lib.hid hr
  have HS2 := Lib.hid hs
  clear hr hs
  subst hn
  go_enter Tryz.func12, Tryz.ntmps12
  go_wp2
  go_loopw [4] (fun ix wr => ∃ (i : Nat) (A' : Option Addr) (c' : Nat) (us : List Value), ix = .int .i64 (i : Int) ∧ i ≤ sl.length ∧ Blk wr w.heap.size 27 #[.slice A sl.length c, .int .i64 idle, .int .i64 price] ∧ Blk wr (w.heap.size + 1) 27 #[.slice none 0 0, .int .i64 0, .int .i64 0] ∧ Blk wr (w.heap.size + 1 + 1) 27 #[.slice A' i c', .int .i64 idle, .int .i64 price] ∧ wr.ownsRow w.heap.size 61 1 (.slice A' i c') i us ∧ StockRow wr us (sl.take i) ∧ Below w.heap.size w wr) (fun ix _ => sl.length - (intOf ix).toNat)
  case atStart => exact ⟨0, none, 0, [], rfl, Nat.zero_le _, ((Blk.newAt rfl).alloc).alloc, (Blk.newAt (by simp)).alloc, Blk.newAt (by simp), World.ownsRow_nil _ _ _ _, StockRow.nil, pa (pa (pa pr))⟩
  case round =>
    obtain ⟨i, A', c', us, rfl, hi, k0, k1, k2, hown, hrow, hq⟩ := hrel
    have e1 : wr.cell? ⟨w.heap.size, 0, none⟩ = some (.slice A sl.length c) := k0.cellAt 0 rfl
    have x0 := k0.lt
    have x2 := k2.lt
    by_cases hlt : i < sl.length
    · obtain ⟨b, off, hA, hbB, hct⟩ := HR.out.at_ hlt
      subst hA
      obtain ⟨A3, c3, t0w, tps, tc⟩ := hct i hlt
      have HT0 := Lib.hid t0w
      have HPs := Lib.hid tps
      have n0 : (0 : Int) ≤ (i : Int) := by omega
      have n1 : (i : Int) < (sl.length : Int) := by omega
      have hbw : b < w.heap.size := by omega
      have HStep := Lib.hid (show sl.take (i + 1) = sl.take i ++ [sl.getD i []] by
        have e : sl.getD i [] = sl[i] := by simp [List.getD, hlt]
        rw [List.take_succ_eq_append_getElem hlt, e])
      have hm3 := HS2.out (sl.getD i []) (by simp [List.getD, hlt])
      clear hct t0w tps
      generalize sl.getD i [] = l at *
      have hlen := partsC_len l
      have hone : ∀ u ∈ partsC l, u.oneCell' = true := flat_one part_one l
      have HLen := Lib.hid hlen
      have HOne := Lib.hid hone
      have HOwn := Lib.hid hown
      have HRow := Lib.hid hrow
      have HQ := Lib.hid hq
      have K0 := Lib.hid k0
      have K1 := Lib.hid k1
      have K2 := Lib.hid k2
      have hqs := hq.size
      clear hown hrow hq k0 k1 k2 hlen hone
      go_wp2
      clear e1
      have HS := Lib.hid (show ∀ W, Below w.heap.size w W → Blk W w.heap.size 27 #[.slice (some ⟨b, off, none⟩) sl.length c, .int .i64 idle, .int .i64 price] → Blk W (w.heap.size + 1 + 1) 27 #[.slice A' i c', .int .i64 idle, .int .i64 price] → W.cell? ⟨w.heap.size, 0, none⟩ = some (.slice (some ⟨b, off, none⟩) sl.length c) ∧ W.cell? ⟨w.heap.size + 1 + 1, 0, none⟩ = some (.slice A' i c') ∧ W.cell? ⟨b, off + i, none⟩ = some (.slice A3 l.length c3) from fun W hW h0 h2 =>
        ⟨h0.cellAt 0 rfl, h2.cellAt 0 rfl, ((bcell hW).1 _ _ hbw).trans HT0.out⟩)
      refine wp_region_G 12 follows_mixed (fun W => W.cell? ⟨w.heap.size, 0, none⟩ = some (.slice (some ⟨b, off, none⟩) sl.length c) ∧ W.cell? ⟨w.heap.size + 1 + 1, 0, none⟩ = some (.slice A' i c') ∧ W.cell? ⟨b, off + i, none⟩ = some (.slice A3 l.length c3)) (HS.out _ (pd HQ.out) K0.out.drew K2.out.drew) ?_
      intro hSd inv
      have HSd := Lib.hid hSd
      clear hSd
      refine wpAnyG_take (i := 0) (v := ?_) rfl (by kernel_rfl) (by kernel_rfl) (by kernel_rfl) (by kernel_rfl) (by kernel_rfl) (by decide) (by decide) inv (fun _ _ _ h => h) (Or.inl ⟨by rfl, ?_⟩) HSd.out ?_; rotate_left; (focus (intro W y1; obtain ⟨y1, y2, y3⟩ := y1; go_simp; (first | done | with_reducible rfl))); clear inv; intro inv; simp only [List.getElem_toArray, List.getElem_cons_zero, Act.put, List.setIfInBounds_toArray, List.set_cons_zero, List.set_cons_succ]
      refine wpAnyG_take (i := 1) (v := ?_) rfl (by kernel_rfl) (by kernel_rfl) (by kernel_rfl) (by kernel_rfl) (by kernel_rfl) (by decide) (by decide) inv (fun _ _ _ h => h) (Or.inl ⟨by rfl, ?_⟩) HSd.out ?_; rotate_left; (focus (intro W y1; obtain ⟨y1, y2, y3⟩ := y1; go_simp; (first | done | with_reducible rfl))); clear inv; intro inv; simp only [List.getElem_toArray, List.getElem_cons_zero, List.getElem_cons_succ, Act.put, List.setIfInBounds_toArray, List.set_cons_zero, List.set_cons_succ]
      refine wpAnyG_take (i := 3) (v := ?_) rfl (by kernel_rfl) (by kernel_rfl) (by kernel_rfl) (by kernel_rfl) (by kernel_rfl) (by decide) (by decide) inv (fun _ _ _ h => h) (Or.inl ⟨by rfl, ?_⟩) HSd.out ?_; rotate_left; (focus (intro W y1; obtain ⟨y1, y2, y3⟩ := y1; go_simp; (first | done | with_reducible rfl))); clear inv; intro inv; simp only [List.getElem_toArray, List.getElem_cons_zero, List.getElem_cons_succ, Act.put, List.setIfInBounds_toArray, List.set_cons_zero, List.set_cons_succ]
      refine wpAnyG_take (i := 4) (v := ?_) rfl (by kernel_rfl) (by kernel_rfl) (by kernel_rfl) (by kernel_rfl) (by kernel_rfl) (by decide) (by decide) inv (fun _ _ _ h => h) (Or.inl ⟨by rfl, ?_⟩) HSd.out ?_; rotate_left; (focus (intro W y1; obtain ⟨y1, y2, y3⟩ := y1; go_simp; (first | done | with_reducible rfl))); clear inv; intro inv; simp only [List.getElem_toArray, List.getElem_cons_zero, List.getElem_cons_succ, Act.put, List.setIfInBounds_toArray, List.set_cons_zero, List.set_cons_succ]
      refine wpAnyG_take (i := 5) (v := ?_) rfl (by kernel_rfl) (by kernel_rfl) (by kernel_rfl) (by kernel_rfl) (by kernel_rfl) (by decide) (by decide) inv (fun _ _ _ h => h) (Or.inl ⟨by rfl, ?_⟩) HSd.out ?_; rotate_left; (focus (intro W y1; obtain ⟨y1, y2, y3⟩ := y1; go_simp; (first | done | with_reducible rfl))); clear inv; intro inv; simp only [List.getElem_toArray, List.getElem_cons_zero, List.getElem_cons_succ, Act.put, List.setIfInBounds_toArray, List.set_cons_zero, List.set_cons_succ]
      refine wpAnyG_take (i := 6) (v := ?_) rfl (by kernel_rfl) (by kernel_rfl) (by kernel_rfl) (by kernel_rfl) (by kernel_rfl) (by decide) (by decide) inv (fun _ _ _ h => h) (Or.inl ⟨by rfl, ?_⟩) HSd.out ?_; rotate_left; (focus (intro W y1; obtain ⟨y1, y2, y3⟩ := y1; go_simp; (first | done | with_reducible rfl))); clear inv; intro inv; simp only [List.getElem_toArray, List.getElem_cons_zero, List.getElem_cons_succ, Act.put, List.setIfInBounds_toArray, List.set_cons_zero, List.set_cons_succ]
      refine wpAnyG_take (i := 7) (v := ?_) rfl (by kernel_rfl) (by kernel_rfl) (by kernel_rfl) (by kernel_rfl) (by kernel_rfl) (by decide) (by decide) inv (fun _ _ _ h => h) (Or.inl ⟨by rfl, ?_⟩) HSd.out ?_; rotate_left; (focus (intro W y1; obtain ⟨y1, y2, y3⟩ := y1; go_simp; (first | done | with_reducible rfl))); clear inv; intro inv; simp only [List.getElem_toArray, List.getElem_cons_zero, List.getElem_cons_succ, Act.put, List.setIfInBounds_toArray, List.set_cons_zero, List.set_cons_succ]
      clear inv
      refine wpAnyG_one (i := 2) (by kernel_rfl) rfl rfl fun K hK => ?_
      go_simp
      have own0 : (wr.alloc (.cells #[] 60)).drew.ownsRow wr.heap.size 60 14 (.slice (some ⟨wr.heap.size, 0, none⟩) 0 0) 0 [] := own_past (pd pr) (World.ownsRow_lit wr #[] 0 (Nat.le_refl _) (Nat.zero_le _) rfl)
      have hBa : Below w.heap.size w (wr.alloc (.cells #[] 60)).drew := pd (pa HQ.out)
      have hBr : Below wr.heap.size wr (wr.alloc (.cells #[] 60)).drew := pd (pa pr)
      have K0a := Lib.hid (K0.out.past hBr)
      have K2a := Lib.hid (K2.out.past hBr)
      generalize (wr.alloc (.cells #[] 60)).drew = wa at *
      refine hK.out _ _ (fun _ => HS.out _ hBa K0a.out K2a.out) ?_
      clear hK K
      have hql := hBa.size
      have hqr := hBr.size
      have hcl : CellsIn B wa A3 (partsC l) := HPs.out.below (hBa.mono hB)
      refine wpAnyG_one (i := 8) (by kernel_rfl) rfl rfl fun K hK => ?_
      refine wp_append_cells _ (.tmp 19) (.tmp 24) _ (by rfl) wr.heap.size 60 p0 _ 14 120 Tryz.underlying61 hp0 hpz hps hpb (by rfl) (by omega) (.slice (some ⟨wr.heap.size, 0, none⟩) 0 0) 0 [] (by rfl) own0 B A3 l.length c3 (partsC l) (by rfl) hcl HLen.out HOne.out (by simp only [maxLen]; omega) (by omega) (by first | omega | (simp; omega)) ?_
      intro v3 w3 hown3 hg3 _
      rw [Nat.zero_add, List.nil_append] at hown3
      obtain ⟨A5, c5, rfl, hc5, _⟩ := own_form hown3
      have hb3 := Lib.hid (show Below wr.heap.size wr w3 from pg hBr own0 (Nat.le_refl _) hg3)
      have HP3 := Lib.hid (prow_of_own hown3)
      have HO3 := Lib.hid (own_past hb3.out HOwn.out)
      have K03 := Lib.hid (K0.out.past hb3.out)
      have K13 := Lib.hid (K1.out.past hb3.out)
      have K23 := Lib.hid (K2.out.past hb3.out)
      have HQ3 := Lib.hid (pt HQ.out hb3.out)
      have HRow3 := Lib.hid (HRow.out.same (KeptT.below hb3.out))
      have hq3 := HQ3.out.size
      clear own0 hcl hown3 hg3 HOwn K0 K1 K2 HQ HRow K0a K2a hBa hBr
      refine hK.out _ _ (fun _ => HS.out _ HQ3.out K03.out K23.out) ?_
      clear hK K
      refine wpAnyG_one (i := 9) (by kernel_rfl) rfl rfl fun K hK => ?_
      go_simp
      refine hK.out _ _ (fun _ => HS.out _ (pa HQ3.out) K03.out.alloc K23.out.alloc) ?_
      clear hK K
      refine wpAnyG_one (i := 10) (by kernel_rfl) rfl rfl fun K hK => ?_
      refine wp_append_cells _ (.tmp 18) (.tmp 26) _ (by rfl) w.heap.size 61 s0 _ 1 24 Tryz.underlying25 hs0 hsz hss hsb (by rfl) (by omega) (.slice A' i c') i us (by rfl) (HO3.out.alloc _) (w3.heap.size + 1) (some ⟨w3.heap.size, 0, none⟩) 1 1 [.slice A5 l.length c5] (by rfl) (cellsIn_one w3 _ _) rfl (by simp [Value.oneCell']) (by simp only [maxLen]; omega) (by omega) (by simp; omega) ?_
      intro v4 w4 hown4 hg4 _
      obtain ⟨A4, c4, rfl, hc4, _⟩ := own_form hown4
      have HO3a := Lib.hid (HO3.out.alloc (.cells #[.slice A5 l.length c5] 61))
      have hB4 := Lib.hid (pg (pa HQ3.out) HO3a.out (Nat.le_refl _) hg4)
      have K04 := Lib.hid ((K03.out.alloc (o := .cells #[.slice A5 l.length c5] 61)).grown hg4 (own_ne HO3a.out (K03.out.alloc (o := .cells #[.slice A5 l.length c5] 61)) (by decide)))
      have K14 := Lib.hid ((K13.out.alloc (o := .cells #[.slice A5 l.length c5] 61)).grown hg4 (own_ne HO3a.out (K13.out.alloc (o := .cells #[.slice A5 l.length c5] 61)) (by decide)))
      have K24 := Lib.hid ((K23.out.alloc (o := .cells #[.slice A5 l.length c5] 61)).grown hg4 (own_ne HO3a.out (K23.out.alloc (o := .cells #[.slice A5 l.length c5] 61)) (by decide)))
      have HRow4 := Lib.hid (((HRow3.out.snoc HP3.out hc5).same (KeptT.below (pa (o := .cells #[.slice A5 l.length c5] 61) pr))).same (KeptT.rows HO3a.out (by decide) hg4))
      have HO4 := Lib.hid hown4
      clear hown4 hg4 HO3 HO3a K03 K13 K23 HRow3 HP3 hb3
      refine hK.out _ _ (fun _ => HS.out _ hB4.out K04.out K24.out) ?_
      clear hK K
      refine wpAnyG_one (i := 11) (by kernel_rfl) rfl rfl fun K hK => ?_
      go_simp
      refine hK.out _ _ (fun _ => HS.out _ hB4.out K04.out K24.out) ?_
      clear hK K
      refine wpAnyG_one (i := 12) (by kernel_rfl) rfl rfl fun K hK => ?_
      have q1 : w4.cell? ⟨w.heap.size + 1 + 1, 0, none⟩ = some (.slice A' i c') := K24.out.cellAt 0 rfl
      have q2 := K24.out.frozen 0
      have q3 := K24.out.lt
      go_simp
      refine hK.out _ _ (fun h => absurd h (by decide)) ?_
      clear hK K
      refine wpAnyG_done (by kernel_rfl) ?_
      have HK0 := Lib.hid (K04.out.far (p := ⟨w.heap.size + 1 + 1, 0, none⟩) (u := .slice A4 (i + 1) c4) (by dsimp only; omega))
      have HK1 := Lib.hid (K14.out.far (p := ⟨w.heap.size + 1 + 1, 0, none⟩) (u := .slice A4 (i + 1) c4) (by dsimp only; omega))
      have HK2 := Lib.hid (K24.out.set_ 0 (.slice A4 (i + 1) c4))
      have HOw := Lib.hid (own_cellT HO4.out K24.out (by decide) (q := ⟨w.heap.size + 1 + 1, 0, none⟩) rfl (.slice A4 (i + 1) c4))
      have HRw := Lib.hid (HRow4.out.same (KeptT.cell K24.out (by decide) (q := ⟨w.heap.size + 1 + 1, 0, none⟩) rfl (.slice A4 (i + 1) c4)))
      have HBw := Lib.hid (ps hB4.out (p := ⟨w.heap.size + 1 + 1, 0, none⟩) (u := .slice A4 (i + 1) c4) (by dsimp only; omega))
      clear q1 q2 q3 K04 K14 K24 HO4 HRow4 hB4
      go_wp2
      go_roundw
      case rel => exact ⟨i + 1, A4, c4, _, by go_num, by omega, HK0.out, HK1.out, HK2.out, HOw.out, by rw [HStep.out]; exact HRw.out, HBw.out⟩
      case measure => simp [intOf]; omega
    · obtain rfl : i = sl.length := by omega
      rw [List.take_length] at hrow
      have HRow := Lib.hid hrow
      have HOwn := Lib.hid hown
      obtain ⟨_, _, hv, hcap, _⟩ := own_form hown
      have hcap' : sl.length ≤ c' := by injection hv with _ _ h; omega
      have K1 := Lib.hid k1
      have HQ := Lib.hid hq
      have g0 := k2.cellAt 0 rfl
      have g1 := k2.cellAt 1 rfl
      have g2 := k2.cellAt 2 rfl
      have d0 := k1.cellAt 0 rfl
      have d1 := k1.cellAt 1 rfl
      have d2 := k1.cellAt 2 rfl
      have f0 := k1.frozen 0
      have f1 := k1.frozen 1
      have f2 := k1.frozen 2
      have x1 := k1.lt
      clear hown hrow hv k0 k1 k2 hq
      go_wp2
      obtain ⟨wF, hwF⟩ : ∃ wF : World, wF = ((wr.setCell ⟨w.heap.size + 1, 0, none⟩ (.slice A' sl.length c')).setCell ⟨w.heap.size + 1, 1, none⟩ (.int .i64 idle)).setCell ⟨w.heap.size + 1, 2, none⟩ (.int .i64 price) := ⟨_, rfl⟩
      have kF : Blk wF (w.heap.size + 1) 27 #[.slice A' sl.length c', .int .i64 idle, .int .i64 price] := by
        rw [hwF]
        exact ((K1.out.set_ 0 _).set_ 1 _).set_ 2 _
      have i0 := kF.cellAt 0 rfl
      have i1 := kF.cellAt 1 rfl
      have i2 := kF.cellAt 2 rfl
      rw [← hwF]
      refine bodyPost_ret (v := .agg #[.slice A' sl.length c', .int .i64 idle, .int .i64 price]) (by simp [results, Tryz.results12, go_sem, i0, i1, i2]) rfl ⟨A', c', rfl, ?_, hcap', ?_⟩
      all_goals rw [hwF]
      · have b0 := K1.out
        have b1 := K1.out.set_ 0 (.slice A' sl.length c')
        have b2 := b1.set_ 1 (.int .i64 idle)
        have hrow2 := ((HRow.out.same (KeptT.cell b0 (by decide) (q := ⟨w.heap.size + 1, 0, none⟩) rfl (.slice A' sl.length c'))).same (KeptT.cell b1 (by decide) (q := ⟨w.heap.size + 1, 1, none⟩) rfl (.int .i64 idle))).same (KeptT.cell b2 (by decide) (q := ⟨w.heap.size + 1, 2, none⟩) rfl (.int .i64 price))
        have hown2 := own_cellT (own_cellT (own_cellT HOwn.out b0 (by decide) (q := ⟨w.heap.size + 1, 0, none⟩) rfl (.slice A' sl.length c')) b1 (by decide) (q := ⟨w.heap.size + 1, 1, none⟩) rfl (.int .i64 idle)) b2 (by decide) (q := ⟨w.heap.size + 1, 2, none⟩) rfl (.int .i64 price)
        exact hrow2.slots hown2
      · exact ps (ps (ps HQ.out (Nat.le_succ _)) (Nat.le_succ _)) (Nat.le_succ _)

end Go.Proofs.YtnfbdkdjoekifaaGreatDoor
end

section
namespace Go.Proofs.YtnfbdkdjoekifaaGreatDoor
open Go.RowKit

theorem KeptT.put {T : TypeId} {w W : World} {g : Nat} {t : TypeId} {cs : Array Value} (hb : Blk w g t cs) (hne : t ≠ T) (hp : Put w W g) : KeptT T w W := fun b _ _ ht => hp.other b fun e => by
  subst e
  rw [show w.heap[b]? = _ from hb] at ht
  injection ht with ht
  injection ht with _ ht
  exact hne ht
theorem own_putT {w W : World} {base size n g : Nat} {e t : TypeId} {v : Value} {xs : List Value} {cs : Array Value} (ho : w.ownsRow base e size v n xs) (hb : Blk w g t cs) (hne : e ≠ t) (hp : Put w W g) : W.ownsRow base e size v n xs := by
  obtain ⟨h1, h2⟩ := ho
  refine ⟨h1, ?_⟩
  rcases h2 with h2 | ⟨g', cap, cur, h3, h4, h5, h6⟩
  · exact .inl h2
  · refine .inr ⟨g', cap, cur, h3, h4, ?_, h6⟩
    rw [hp.other g' fun e' => ?_]
    · exact h5
    · subst e'
      unfold Blk at hb
      rw [hb] at h5
      injection h5 with h5
      injection h5 with _ h5
      exact hne h5.symm
/-- From A on lie the values us, in a block of a type. -/
def CRow (T : TypeId) (w : World) (A : Option Addr) (us : List Value) : Prop :=
  us = [] ∨ ∃ b off, A = some ⟨b, off, none⟩ ∧ (∃ (cs : Array Value) (fz : Nat × Nat), w.heap[b]? = some (Obj.cells cs T fz)) ∧ ∀ q, q < us.length → w.cell? ⟨b, off + q, none⟩ = us[q]?
theorem CRow.same {T : TypeId} {w w' : World} {A : Option Addr} {us : List Value} (h : CRow T w A us) (hk : KeptT T w w') : CRow T w' A us := by
  rcases h with h | ⟨b, off, hA, ⟨cs, fz, ht⟩, hc⟩
  · exact .inl h
  · exact .inr ⟨b, off, hA, ⟨cs, fz, (hk b cs fz ht).trans ht⟩, fun q hq => (World.cell?_of_block (hk b cs fz ht)).trans (hc q hq)⟩
theorem CRow.cells {T : TypeId} {w : World} {A : Option Addr} {us : List Value} (h : CRow T w A us) : CellsIn w.heap.size w A us := by
  rcases h with h | ⟨b, off, hA, ⟨cs, fz, ht⟩, hc⟩
  · exact .inl h
  · exact .inr ⟨b, off, hA, (Array.getElem?_eq_some_iff.1 ht).1, hc⟩
theorem crow_of_own {T : TypeId} {w : World} {base s n c : Nat} {A : Option Addr} {us : List Value} (h : w.ownsRow base T s (.slice A n c) n us) : CRow T w A us := by
  rcases h.2 with ⟨h1, h2⟩ | ⟨g, cap, cur, hv, _, hh, _⟩
  · refine .inl ?_
    have h3 := h.1
    rw [h2, Nat.zero_mul] at h3
    exact List.eq_nil_of_length_eq_zero h3
  · injection hv with hA _ _
    rcases cellsIn_of_own h with h2 | ⟨b, off, hA2, hb, hc⟩
    · exact .inl h2
    · rw [hA] at hA2
      injection hA2 with hA2
      injection hA2 with e1 e2 _
      subst e1 e2
      exact .inr ⟨g, 0, hA, ⟨cur, (0, 0), hh⟩, hc⟩
theorem termsC_len (l : List DTerm) : (termsC l).length = l.length * 2 := flat_len term_len l
/-- The values us are requirements that read as rs. -/
def SpecRow (w : World) (us : List Value) (rs : List DReq) : Prop :=
  us.length = rs.length * 4 ∧ ∀ i, i < rs.length → ∃ A c, us[i * 4]? = some (.slice A (rs.getD i default).ts.length c) ∧ us[i * 4 + 1]? = some (.bool (rs.getD i default).ge) ∧ us[i * 4 + 2]? = some (.int .i64 (rs.getD i default).lim) ∧ us[i * 4 + 3]? = some (.int .i64 (rs.getD i default).unit) ∧ CRow 64 w A (termsC (rs.getD i default).ts) ∧ (rs.getD i default).ts.length ≤ c
theorem SpecRow.nil {w : World} : SpecRow w [] [] := ⟨rfl, fun i hi => by simp at hi⟩
theorem SpecRow.same {w w' : World} {us : List Value} {rs : List DReq} (h : SpecRow w us rs) (hk : KeptT 64 w w') : SpecRow w' us rs := ⟨h.1, fun i hi => by
  obtain ⟨A, c, h0, h1, h2, h3, h4, h5⟩ := h.2 i hi
  exact ⟨A, c, h0, h1, h2, h3, h4.same hk, h5⟩⟩
theorem SpecRow.snoc {w : World} {us : List Value} {rs : List DReq} (h : SpecRow w us rs) {ts : List DTerm} {ge : Bool} {lim unit : Int} {A : Option Addr} {c : Nat} (hl : CRow 64 w A (termsC ts)) (hc : ts.length ≤ c) : SpecRow w (us ++ [.slice A ts.length c, .bool ge, .int .i64 lim, .int .i64 unit]) (rs ++ [⟨ts, ge, lim, unit⟩]) := by
  refine ⟨by simp [h.1]; omega, fun i hi => ?_⟩
  rcases Nat.lt_or_ge i rs.length with h2 | h2
  · obtain ⟨A', c', h3, h4, h5, h6, h7, h8⟩ := h.2 i h2
    have e : (rs ++ [(⟨ts, ge, lim, unit⟩ : DReq)]).getD i default = rs.getD i default := by simp [List.getD, List.getElem?_append_left h2]
    have hl := h.1
    rw [e]
    exact ⟨A', c', by rw [List.getElem?_append_left (by omega)]; exact h3, by rw [List.getElem?_append_left (by omega)]; exact h4, by rw [List.getElem?_append_left (by omega)]; exact h5, by rw [List.getElem?_append_left (by omega)]; exact h6, h7, h8⟩
  · have hie : i = rs.length := by simp at hi; omega
    subst hie
    have e : (rs ++ [(⟨ts, ge, lim, unit⟩ : DReq)]).getD rs.length default = ⟨ts, ge, lim, unit⟩ := by simp [List.getD]
    have hl := h.1
    rw [e]
    exact ⟨A, c, by rw [List.getElem?_append_right (by omega), hl, Nat.sub_self]; rfl, by rw [List.getElem?_append_right (by omega), hl, show rs.length * 4 + 1 - rs.length * 4 = 1 by omega]; rfl, by rw [List.getElem?_append_right (by omega), hl, show rs.length * 4 + 2 - rs.length * 4 = 2 by omega]; rfl, by rw [List.getElem?_append_right (by omega), hl, show rs.length * 4 + 3 - rs.length * 4 = 3 by omega]; rfl, by assumption, hc⟩
theorem SpecRow.reqs {w : World} {us : List Value} {rs : List DReq} {base n c : Nat} {A : Option Addr} (h : SpecRow w us rs) (ho : w.ownsRow base 45 4 (.slice A n c) n us) : ReqsIn w.heap.size w A rs := by
  rcases cellsIn_of_own ho with hu | ⟨b, off, hA, hb, hc⟩
  · refine .inl ?_
    have := h.1
    rw [hu] at this
    exact List.eq_nil_of_length_eq_zero (by simp at this; omega)
  · refine .inr ⟨b, off, hA, hb, fun i hi => ?_⟩
    obtain ⟨A', c', h0, h1, h2, h3, h4, h5⟩ := h.2 i hi
    have hl := h.1
    exact ⟨A', c', (hc _ (by omega)).trans h0, (hc _ (by omega)).trans h1, (hc _ (by omega)).trans h2, (hc _ (by omega)).trans h3, h4.cells, h5⟩
theorem term_infoC : (Tryz.prog.info? 64).map (fun i => (i.zero, i.size, i.bytes)) = some (some (.agg #[.int .i64 0, .int .i64 0]), 2, 16) := by kernel_rfl
theorem req_infoC : (Tryz.prog.info? 45).map (fun i => (i.zero, i.size, i.bytes)) = some (some (.agg #[.slice none 0 0, .bool false, .int .i64 0, .int .i64 0]), 4, 48) := by kernel_rfl
theorem terms_sizeC : (Tryz.prog.info? 43).map (·.size) = some 1 := by kernel_rfl
theorem reqs_sizeC : (Tryz.prog.info? 22).map (·.size) = some 1 := by kernel_rfl
theorem spec_sizeC : (Tryz.prog.info? 24).map (·.size) = some 1 := by kernel_rfl
theorem cells_new (w : World) (t : TypeId) (cs : Array Value) : CellsIn (w.heap.size + 1) (w.alloc (.cells cs t)) (some ⟨w.heap.size, 0, none⟩) cs.toList := .inr ⟨w.heap.size, 0, rfl, by omega, fun q hq => by
  rw [Nat.zero_add]
  exact ((Blk.new w t cs).cell q).trans (by simp)⟩
/-- A specification of the callee's own. -/
def SpecRet (w : World) (rs : List DReq) (e : Ending) (w' : World) : Prop :=
  ∃ A c, e = .returned (.agg #[.slice A rs.length c]) ∧ ReqsIn w'.heap.size w' A rs ∧ rs.length ≤ c ∧ Below w.heap.size w w'

set_option maxHeartbeats 4000000 in
set_option maxRecDepth 100000 in
theorem copySpec_any (B : Nat) (rs : List DReq) (A : Option Addr) (n c : Nat) (w : World) (hr : ReqsIn B w A rs) (hB : B ≤ w.heap.size) (hn : rs.length = n) (hm : n ≤ 1000) (hs : ∀ r ∈ rs, r.ts.length ≤ 1000) :
    Calls Tryz.prog 11 #[.agg #[.slice A n c]] w (SpecRet w rs) := by
  obtain ⟨p0, hp0, hpz, hps, hpb⟩ := info_partsC term_infoC
  obtain ⟨s0, hs0, hsz, hss, hsb⟩ := info_partsC req_infoC
  have HR := Lib.hid hr
  have HS2 := Lib.hid hs
  clear hr hs
  subst hn
  go_enter Tryz.func11, Tryz.ntmps11
  go_wp2
  go_loopw [4] (fun ix wr => ∃ (i : Nat) (A' : Option Addr) (c' : Nat) (us : List Value), ix = .int .i64 (i : Int) ∧ i ≤ rs.length ∧ Blk wr w.heap.size 24 #[.slice A rs.length c] ∧ Blk wr (w.heap.size + 1) 24 #[.slice none 0 0] ∧ Blk wr (w.heap.size + 1 + 1) 24 #[.slice A' i c'] ∧ wr.ownsRow w.heap.size 45 4 (.slice A' i c') i us ∧ SpecRow wr us (rs.take i) ∧ Below w.heap.size w wr) (fun ix _ => rs.length - (intOf ix).toNat)
  case atStart => exact ⟨0, none, 0, [], rfl, Nat.zero_le _, ((Blk.newAt rfl).alloc).alloc, (Blk.newAt (by simp)).alloc, Blk.newAt (by simp), World.ownsRow_nil _ _ _ _, SpecRow.nil, pa (pa (pa pr))⟩
  case round =>
    obtain ⟨i, A', c', us, rfl, hi, k0, k1, k2, hown, hrow, hq⟩ := hrel
    have e1 : wr.cell? ⟨w.heap.size, 0, none⟩ = some (.slice A rs.length c) := k0.cellAt 0 rfl
    have x0 := k0.lt
    have x2 := k2.lt
    by_cases hlt : i < rs.length
    · obtain ⟨b, off, hA, hbB, hct⟩ := (HR.out.below (hq.mono hB)).at_ hlt
      subst hA
      obtain ⟨A3, c3, t0, t1, t2, t3, tps, tc⟩ := hct i hlt
      have HPs := Lib.hid tps
      have n0 : (0 : Int) ≤ (i : Int) := by omega
      have n1 : (i : Int) < (rs.length : Int) := by omega
      have hbw : b < w.heap.size := by omega
      have HStep := Lib.hid (show rs.take (i + 1) = rs.take i ++ [rs.getD i default] from take_snoc hlt)
      have hm3 := HS2.out (rs.getD i default) (getD_mem' hlt)
      clear hct tps
      generalize rs.getD i default = r at *
      obtain ⟨ts, ge, lim, unit⟩ := r
      dsimp only at *
      have HLen := Lib.hid (termsC_len ts)
      have HOne := Lib.hid (show ∀ u ∈ termsC ts, u.oneCell' = true from flat_one term_one ts)
      have HOwn := Lib.hid hown
      have HRow := Lib.hid hrow
      have HQ := Lib.hid hq
      have K0 := Lib.hid k0
      have K1 := Lib.hid k1
      have K2 := Lib.hid k2
      have hqs := hq.size
      clear hown hrow hq k0 k1 k2
      have hbr : b < wr.heap.size := by omega
      have hxs : (wr.alloc (.cells #[.slice A3 ts.length c3, .bool ge, .int .i64 lim, .int .i64 unit] 45)).heap.size = wr.heap.size + 1 := by simp
      have own0 : ((wr.alloc (.cells #[.slice A3 ts.length c3, .bool ge, .int .i64 lim, .int .i64 unit] 45)).alloc (.cells #[] 64)).ownsRow (wr.heap.size + 1) 64 2 (.slice (some ⟨wr.heap.size + 1, 0, none⟩) 0 0) 0 [] := by
        rw [← hxs]
        exact World.ownsRow_lit (wr.alloc (.cells #[.slice A3 ts.length c3, .bool ge, .int .i64 lim, .int .i64 unit] 45)) #[] 0 (Nat.le_refl _) (Nat.zero_le _) rfl
      have K5 := Lib.hid (show Blk ((wr.alloc (.cells #[.slice A3 ts.length c3, .bool ge, .int .i64 lim, .int .i64 unit] 45)).alloc (.cells #[] 64)) wr.heap.size 45 #[.slice A3 ts.length c3, .bool ge, .int .i64 lim, .int .i64 unit] from (Blk.newAt rfl).alloc)
      have hBr : Below wr.heap.size wr ((wr.alloc (.cells #[.slice A3 ts.length c3, .bool ge, .int .i64 lim, .int .i64 unit] 45)).alloc (.cells #[] 64)) := pa (pa pr)
      have hBR := Lib.hid hBr
      have K0a := Lib.hid (K0.out.past hBr)
      have K1a := Lib.hid (K1.out.past hBr)
      have K2a := Lib.hid (K2.out.past hBr)
      have HOa := Lib.hid (own_past hBr HOwn.out)
      have HRa := Lib.hid (HRow.out.same (KeptT.below hBr))
      have HQa := Lib.hid (pt HQ.out hBr)
      have has : ((wr.alloc (.cells #[.slice A3 ts.length c3, .bool ge, .int .i64 lim, .int .i64 unit] 45)).alloc (.cells #[] 64)).heap.size = wr.heap.size + 1 + 1 := by simp
      have K0w := K0; have K1w := K1; have K2w := K2; have HOw := HOwn; have HRw := HRow
      clear hBr hxs K0 K1 K2 HOwn HRow HQ
      have HCL := Lib.hid (show CellsIn B ((wr.alloc (.cells #[.slice A3 ts.length c3, .bool ge, .int .i64 lim, .int .i64 unit] 45)).alloc (.cells #[] 64)) A3 (termsC ts) from HPs.out.below ((show Below wr.heap.size wr ((wr.alloc (.cells #[.slice A3 ts.length c3, .bool ge, .int .i64 lim, .int .i64 unit] 45)).alloc (.cells #[] 64)) from hBR.out).mono (by omega)))
      have OWN0 := Lib.hid own0
      have HBR := hBR
      clear own0 hBR HPs
      have hm4 : ts.length ≤ 1000 := hm3
      go_wp2_with (first
        | (at_builtin; (refine wpList_append_cells _ rfl (.tmp 18) (.tmp 20) _ (by rfl) (wr.heap.size + 1) 64 p0 _ 2 16 Tryz.underlying43 hp0 hpz hps hpb (by rfl) (by omega) (.slice (some ⟨wr.heap.size + 1, 0, none⟩) 0 0) 0 [] (by rfl) OWN0.out B A3 ts.length c3 (termsC ts) (by rfl) HCL.out HLen.out HOne.out (by simp only [maxLen]; omega) (by omega) (by first | omega | (simp; omega)) ?_); intro v3 w3 hown3 hg3 _; rw [Nat.zero_add, List.nil_append] at hown3; obtain ⟨A5, c5, rfl, hc5, _⟩ := own_form hown3; have HG := Lib.hid hg3; have HO5 := Lib.hid hown3; have HC5 := Lib.hid hc5; have K53 := Lib.hid (K5.out.grown hg3 (own_ne OWN0.out K5.out (by decide))); clear hown3 hg3 hc5 e1 t0 t1 t2 t3)
        | ((with_reducible refine store_sub (T := 43) (x := .tmp 22) (y := .tmp 21) (o := 0) (vs := #[.slice A5 ts.length c5]) (cs' := #[.slice A5 ts.length c5, .bool ge, .int .i64 lim, .int .i64 unit]) K53.out ?_ ?_ ?_ ?_ ?_ ?_ ?_); (focus (first | rfl | (go_simp; done))); (focus (first | rfl | (go_simp; done))); (focus rfl); (focus (simp; done)); (focus exact terms_sizeC); (focus (simp [Value.oneCell']; done)); intro w4 R4 P4; have HR4 := Lib.hid R4; have HP4 := Lib.hid P4; have HB4 := Lib.hid (show Below wr.heap.size wr w4 from pp (pg HBR.out OWN0.out (by omega) HG.out) P4 (by omega)); have HQ4 := Lib.hid (pp (pg HQa.out OWN0.out (by omega) HG.out) P4 (by omega)); have q4 := (K2w.out.past HB4.out).cellAt 0 rfl; have q5 := (K2w.out.past HB4.out).lt; have r0 := R4.cellAt 0 rfl; have r1 := R4.cellAt 1 rfl; have r2 := R4.cellAt 2 rfl; have r3 := R4.cellAt 3 rfl; have rl := R4.lt; have HP5 := Lib.hid ((crow_of_own HO5.out).same (KeptT.put K53.out (by decide) HP4.out)); have HO4 := Lib.hid (own_past HB4.out HOw.out); have HRow4 := Lib.hid (HRw.out.same (KeptT.below HB4.out)); have K04 := Lib.hid (K0w.out.past HB4.out); have K14 := Lib.hid (K1w.out.past HB4.out); have K24 := Lib.hid (K2w.out.past HB4.out); have hq4 := HQ4.out.size; clear R4 P4 HB4 HBR HOw HRw K0w K1w K2w K0a K1a K2a HOa HRa HQa K5 K53 HO5 HG OWN0 HCL HP4 HR4)
        | (at_builtin; go_must (refine wpList_append_cells _ rfl (.tmp 24) (.tmp 26) _ (by rfl) w.heap.size 45 s0 _ 4 48 Tryz.underlying22 hs0 hsz hss hsb (by rfl) (by omega) (.slice A' i c') i us (by rfl) (HO4.out.alloc _) (w4.heap.size + 1) (some ⟨w4.heap.size, 0, none⟩) 1 1 [.slice A5 ts.length c5, .bool ge, .int .i64 lim, .int .i64 unit] (by rfl) (cells_new w4 _ #[.slice A5 ts.length c5, .bool ge, .int .i64 lim, .int .i64 unit]) rfl (by simp [Value.oneCell']) (by simp only [maxLen]; omega) (by omega) (by simp; omega) ?_); intro v6 w6 hown6 hg6 _; obtain ⟨A4, c4, rfl, hc4, _⟩ := own_form hown6; have HO4a := Lib.hid (HO4.out.alloc (.cells #[.slice A5 ts.length c5, .bool ge, .int .i64 lim, .int .i64 unit] 45)); have HB6 := Lib.hid (pg (pa HQ4.out) HO4a.out (Nat.le_refl _) hg6); have K06 := Lib.hid ((K04.out.alloc (o := .cells #[.slice A5 ts.length c5, .bool ge, .int .i64 lim, .int .i64 unit] 45)).grown hg6 (own_ne HO4a.out (K04.out.alloc (o := .cells #[.slice A5 ts.length c5, .bool ge, .int .i64 lim, .int .i64 unit] 45)) (by decide))); have K16 := Lib.hid ((K14.out.alloc (o := .cells #[.slice A5 ts.length c5, .bool ge, .int .i64 lim, .int .i64 unit] 45)).grown hg6 (own_ne HO4a.out (K14.out.alloc (o := .cells #[.slice A5 ts.length c5, .bool ge, .int .i64 lim, .int .i64 unit] 45)) (by decide))); have K26 := Lib.hid ((K24.out.alloc (o := .cells #[.slice A5 ts.length c5, .bool ge, .int .i64 lim, .int .i64 unit] 45)).grown hg6 (own_ne HO4a.out (K24.out.alloc (o := .cells #[.slice A5 ts.length c5, .bool ge, .int .i64 lim, .int .i64 unit] 45)) (by decide))); have HRow6 := Lib.hid (((HRow4.out.snoc (ge := ge) (lim := lim) (unit := unit) HP5.out HC5.out).same (KeptT.below (pa (o := .cells #[.slice A5 ts.length c5, .bool ge, .int .i64 lim, .int .i64 unit] 45) pr))).same (KeptT.rows HO4a.out (by decide) hg6)); have HO6 := Lib.hid hown6; clear hown6 hg6)
        | ((with_reducible refine store_sub (T := 22) (x := .tmp 28) (y := .tmp 27) (o := 0) (vs := #[.slice A4 (i + 1) c4]) (cs' := #[.slice A4 (i + 1) c4]) K26.out ?_ ?_ ?_ ?_ ?_ ?_ ?_); (focus (first | rfl | (go_simp; done))); (focus (first | rfl | (go_simp; done))); (focus rfl); (focus (simp; done)); (focus exact reqs_sizeC); (focus (simp [Value.oneCell']; done)); intro w7 R7 P7; have HR7 := Lib.hid R7; have HP7 := Lib.hid P7; clear R7 P7))
      go_roundw
      case rel => exact ⟨i + 1, A4, c4, _, by go_num, by omega, K06.out.put HP7.out (by omega), K16.out.put HP7.out (by omega), HR7.out, own_putT HO6.out K26.out (by decide) HP7.out, by rw [HStep.out]; exact HRow6.out.same (KeptT.put K26.out (by decide) HP7.out), pp HB6.out HP7.out (by omega)⟩
      case measure => simp [intOf]; omega
    · obtain rfl : i = rs.length := by omega
      rw [List.take_length] at hrow
      have HRow := Lib.hid hrow
      have HOwn := Lib.hid hown
      obtain ⟨_, _, hv, hcap, _⟩ := own_form hown
      have hcap' : rs.length ≤ c' := by injection hv with _ _ h; omega
      have K1 := Lib.hid k1
      have HQ := Lib.hid hq
      have g0 := k2.cellAt 0 rfl
      have x1 := k1.lt
      clear hown hrow hv k0 k1 k2 hq
      go_wp2_with ((with_reducible refine store_sub (T := 24) (x := .tmp 2) (y := .tmp 29) (o := 0) (vs := #[.slice A' rs.length c']) (cs' := #[.slice A' rs.length c']) K1.out ?_ ?_ ?_ ?_ ?_ ?_ ?_); (focus (first | rfl | (go_simp; done))); (focus (first | rfl | (go_simp; done))); (focus rfl); (focus (simp; done)); (focus exact spec_sizeC); (focus (simp [Value.oneCell']; done)); intro wF RF PF)
      have i0 := RF.cellAt 0 rfl
      refine bodyPost_ret (v := .agg #[.slice A' rs.length c']) (by simp [results, Tryz.results11, go_sem, i0]) rfl ⟨A', c', rfl, ?_, hcap', ?_⟩
      · exact (HRow.out.same (KeptT.put K1.out (by decide) PF)).reqs (own_putT HOwn.out K1.out (by decide) PF)
      · exact pp HQ.out PF (by omega)

end Go.Proofs.YtnfbdkdjoekifaaGreatDoor
end
