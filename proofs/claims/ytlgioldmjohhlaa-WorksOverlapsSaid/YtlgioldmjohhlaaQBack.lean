/- Contracts: slices.Backward at a row of numbers and the iterator that it returns. -/
import Derived.Test.YtlgioldmjohhlaaPCollect
namespace Go.Proofs.Ytlgioldmjohhlaa
open Go.RowKit Go.Shelf
attribute [local go_sem] Oper.semAt_some undef

/-- A row of natural numbers in block kr, from its beginning. -/
def RowAt (kr : Nat) (w : World) (A : Option Addr) (L : List Nat) : Prop :=
  L = [] ∨ (A = some ⟨kr, 0, none⟩ ∧ ∀ j, j < L.length → w.cell? ⟨kr, j, none⟩ = some (.int .i64 (L.getD j 0 : Nat)))

theorem RowAt.keep {kr : Nat} {w w' : World} {A : Option Addr} {L : List Nat} (h : RowAt kr w A L) (hk : w'.heap[kr]? = w.heap[kr]?) : RowAt kr w' A L := by
  rcases h with h | ⟨h1, h2⟩
  · exact .inl h
  · exact .inr ⟨h1, fun j hj => by have := h2 j hj; unfold World.cell? at *; rw [hk]; exact this⟩

def backEnc (p : Nat × Nat) : Array Value := #[.int .i64 (p.1 : Int), .int .i64 (p.2 : Int)]
/-- What a round keeps for the iterator: the box and the row. -/
def BackKp (kb kr : Nat) (_ W W' : World) : Prop := W'.heap[kb]? = W.heap[kb]? ∧ W'.heap[kr]? = W.heap[kr]?

theorem rev_take {L : List Nat} {k : Nat} (hk : k < L.length) : L.reverse.take (L.length - 1 - k) ++ [L.getD k 0] = L.reverse.take (L.length - k) := by
  have e : L.length - k = L.length - 1 - k + 1 := by omega
  rw [e, List.take_add_one]
  congr 1
  rw [List.getElem?_reverse (by omega)]
  have e2 : L.length - 1 - (L.length - 1 - k) = k := by omega
  rw [e2]
  simp [List.getD, hk]

set_option maxRecDepth 100000 in
set_option maxHeartbeats 2000000 in
theorem backward_seq (kb kr n : Nat) (L : List Nat) (A : Option Addr) (c : Nat) (w0 : World) (hb0 : Blk w0 kb 28 #[.slice A L.length c]) (hr0 : RowAt kr w0 A L) (hkr : kr < w0.heap.size) (hlen : L.length ≤ 7) :
    SeqP n Try.prog 148 #[] #[.pointer (some ⟨kb, 0, none⟩)] backEnc (fun p _ => p.2 ∈ L) (BackKp kb kr)
      (fun ps => ps.map (·.2) = L.reverse) (fun pre => pre ≠ [] ∧ pre.map (·.2) <+: L.reverse) L.length w0 := by
  intro l J Jx W hW hJ hJx hY h0
  have HY := Lib.hid hY
  have HJ := Lib.hid hJ
  have q0 : Blk W kb 28 #[.slice A L.length c] := hb0.past hW
  have r0 : RowAt kr W A L := hr0.keep (hW.block _ hkr)
  have hkr1 : kr < W.heap.size := Nat.lt_of_lt_of_le hkr hW.size
  clear hY hJ hJx hb0 hr0 hkr hW
  have d0 := q0.cellAt 0 rfl
  have x0 := q0.lt
  have e1 : IntKind.i64.wrap ((L.length : Int) - 1) = (L.length : Int) - 1 := IntWalk.i64_in _ (by omega)
  refine callsIn_of_wp Try.func148 rfl trivial ?_ rfl
  simp only [undef, Try.ntmps148, List.size_toArray, List.length_cons, List.length_nil, Nat.reduceAdd, Nat.reduceSub, Array.replicate_succ, Array.replicate_zero, List.push_toArray, List.append_toArray, List.nil_append, List.cons_append]
  gi_wp2
  gi_loopw [3] (fun ix wr => ∃ (k : Nat) (p : List (Nat × Nat)), k ≤ L.length ∧ ix = .int .i64 ((k : Int) - 1) ∧ p.length = L.length - k ∧ p.map (·.2) = L.reverse.take (L.length - k) ∧ J p wr ∧ Blk wr kb 28 #[.slice A L.length c] ∧ RowAt kr wr A L ∧ kr < wr.heap.size) (fun ix _ => (intOf ix + 1).toNat)
  case atStart => exact ⟨L.length, [], Nat.le_refl _, rfl, by simp, by simp, h0, q0, r0, hkr1⟩
  case round =>
    obtain ⟨k, p, hk, rfl, hpl, hpm, hj, s0, hrw, hk2⟩ := hrel
    clear h0 q0 r0 hkr1 d0 x0
    have d0 := s0.cellAt 0 rfl
    have x0 := s0.lt
    have HPL := Lib.hid hpl
    have HPM := Lib.hid hpm
    have HRW := Lib.hid hrw
    clear hpl hpm hrw
    by_cases hz : k = 0
    · subst hz
      have HEnd := Lib.hid (show p.map (·.2) = L.reverse by rw [HPM.out]; exact List.take_of_length_le (by simp))
      gi_wp2
      go_end0
      exact ⟨⟨_, rfl⟩, .inl ⟨p, HEnd.out, hj⟩⟩
    · obtain ⟨i, rfl⟩ : ∃ i, k = i + 1 := ⟨k - 1, by omega⟩
      obtain ⟨hA, hcells⟩ : A = some ⟨kr, 0, none⟩ ∧ ∀ j, j < L.length → wr.cell? ⟨kr, j, none⟩ = some (.int .i64 (L.getD j 0 : Nat)) := by
        rcases HRW.out with h | h
        · subst h; simp at hk
        · exact h
      subst hA
      have ei : ((i + 1 : Nat) : Int) - 1 = (i : Int) := by omega
      rw [ei]
      have ci := hcells i (by omega)
      have e2 : IntKind.i64.wrap ((i : Int) - 1) = (i : Int) - 1 := IntWalk.i64_in _ (by omega)
      have hmap : (p ++ [(i, L.getD i 0)]).map (·.2) = L.reverse.take (L.length - i) := by
        rw [List.map_append, HPM.out, show L.length - (i + 1) = L.length - 1 - i by omega]
        exact rev_take (by omega)
      have HMap := Lib.hid hmap
      obtain ⟨x, hx⟩ : ∃ x, x = L.getD i 0 := ⟨_, rfl⟩
      rw [← hx] at ci
      have HX := Lib.hid hx
      have hmem : x ∈ L := by rw [hx]; simp [List.getD, show i < L.length by omega]
      clear hcells ei hmap hx
      have hlt : p.length < L.length := by rw [HPL.out]; omega
      have n0 : (0 : Int) ≤ (i : Int) := by omega
      obtain ⟨fn, tmps, assign, body, hy, hR⟩ := HY.out p (i, x) wr hj hmem hlt
      unfold backEnc at hy
      gi_wp2
      refine ⟨(fun h => nomatch h), (roundIn_any hR).mono ?_⟩
      rintro e W3 (⟨rfl, hJ3, hk3, hk4⟩ | ⟨rfl, hJx3⟩)
      · gi_wp2
        go_roundw
        case rel => exact ⟨i, p ++ [(i, x)], by omega, rfl, by simp [HPL.out]; omega, by rw [HX.out]; exact HMap.out, hJ3, hk3.trans s0, HRW.out.keep hk4, by
          rcases Nat.lt_or_ge kr W3.heap.size with h | h
          · exact h
          · rw [Array.getElem?_eq_none h, Array.getElem?_eq_getElem hk2] at hk4; cases hk4⟩
        case measure => simp [intOf]
      · gi_wp2
        refine bodyPost_ret (results_none rfl _ _ _) rfl ?_
        exact ⟨⟨_, rfl⟩, .inr ⟨p ++ [(i, x)], ⟨by simp, by rw [HX.out, HMap.out]; exact List.take_prefix _ _⟩, hJx3⟩⟩

/-- Backward hands over its iterator, which holds the row's box. -/
theorem backward_any (A : Option Addr) (k c : Nat) (w : World) :
    Calls Try.prog 126 #[.slice A k c] w fun e w' => e = .returned (.func (.func 148) #[] #[.pointer (some ⟨w.heap.size, 0, none⟩)]) ∧ w' = w.alloc (.cells #[.slice A k c] 28) := by
  go_enter Try.func126, Try.ntmps126
  go_wp2
  refine bodyPost_ret (results_tmp rfl _ _ _) rfl ?_
  exact ⟨rfl, rfl⟩

end Go.Proofs.Ytlgioldmjohhlaa
