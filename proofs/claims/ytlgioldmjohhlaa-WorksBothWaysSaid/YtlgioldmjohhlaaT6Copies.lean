/- Contract: the specification's CopyLots: lots in memory of their own. Lengths at most 1000. -/
import Derived.Test.YtlgioldmjohhlaaT5Copy
namespace Go.Proofs.Ytlgioldmjohhlaa
open Go.RowKit

/-- The values us are the cells of the lots xs, one behind the other. -/
def LotRow (w : World) (us : List Value) (xs : List Lot) : Prop :=
  us.length = xs.length * 6 ∧ ∀ i, i < xs.length → ∃ A c, us[i * 6]? = some (.string (xs.getD i default).name) ∧ us[i * 6 + 1]? = some (.slice A (xs.getD i default).made.length c) ∧ TextRow w A (xs.getD i default).made ∧ (xs.getD i default).made.length ≤ c ∧
    us[i * 6 + 2]? = some (.int .i64 (xs.getD i default).mlo) ∧ us[i * 6 + 3]? = some (.int .i64 (xs.getD i default).mhi) ∧ us[i * 6 + 4]? = some (.int .i64 (xs.getD i default).llo) ∧ us[i * 6 + 5]? = some (.int .i64 (xs.getD i default).lhi)

section
variable {w w' : World} {us : List Value} {xs : List Lot}
theorem LotRow.nil : LotRow w [] [] := ⟨rfl, fun i hi => by simp at hi⟩
theorem LotRow.same (h : LotRow w us xs) (hk : ∀ (b : Nat) (cs : Array Value) (fz : Nat × Nat), w.heap[b]? = some (Obj.cells cs 9 fz) → w'.heap[b]? = w.heap[b]?) : LotRow w' us xs :=
  ⟨h.1, fun i hi => by
    obtain ⟨A, c, h0, h1, h2, h3⟩ := h.2 i hi
    exact ⟨A, c, h0, h1, h2.same hk, h3⟩⟩
theorem LotRow.snoc (h : LotRow w us xs) {x : Lot} {A : Option Addr} {c : Nat} (hx : TextRow w A x.made) (hc : x.made.length ≤ c) :
    LotRow w (us ++ [.string x.name, .slice A x.made.length c, .int .i64 x.mlo, .int .i64 x.mhi, .int .i64 x.llo, .int .i64 x.lhi]) (xs ++ [x]) := by
  refine ⟨by simp [h.1]; omega, fun i hi => ?_⟩
  rcases Nat.lt_or_ge i xs.length with hl | hl
  · obtain ⟨A', c', h0, h1, h2, h3, h4, h5, h6, h7⟩ := h.2 i hl
    have e : (xs ++ [x]).getD i default = xs.getD i default := by simp [List.getD, List.getElem?_append_left hl]
    have hu := h.1
    rw [e]
    refine ⟨A', c', ?_, ?_, h2, h3, ?_, ?_, ?_, ?_⟩
    all_goals rw [List.getElem?_append_left (by omega)]; assumption
  · have hie : i = xs.length := by simp at hi; omega
    subst hie
    have e : (xs ++ [x]).getD xs.length default = x := by simp [List.getD]
    have hu := h.1
    rw [e]
    refine ⟨A, c, ?_, ?_, hx, hc, ?_, ?_, ?_, ?_⟩
    · rw [List.getElem?_append_right (by omega), show xs.length * 6 - us.length = 0 by omega]; rfl
    · rw [List.getElem?_append_right (by omega), show xs.length * 6 + 1 - us.length = 1 by omega]; rfl
    · rw [List.getElem?_append_right (by omega), show xs.length * 6 + 2 - us.length = 2 by omega]; rfl
    · rw [List.getElem?_append_right (by omega), show xs.length * 6 + 3 - us.length = 3 by omega]; rfl
    · rw [List.getElem?_append_right (by omega), show xs.length * 6 + 4 - us.length = 4 by omega]; rfl
    · rw [List.getElem?_append_right (by omega), show xs.length * 6 + 5 - us.length = 5 by omega]; rfl
theorem LotRow.lots {base n c : Nat} {A : Option Addr} (h : LotRow w us xs) (ho : w.ownsRow base 61 6 (.slice A n c) n us) : LotsIn w.heap.size w A xs := by
  rcases cellsIn_of_own ho with hu | ⟨b, off, hA, hb, hc⟩
  · refine .inl ?_
    have := h.1
    rw [hu] at this
    exact List.eq_nil_of_length_eq_zero (by simp at this; omega)
  · refine .inr ⟨b, off, hA, hb, fun i hi => ?_⟩
    obtain ⟨A', c', h0, h1, h2, h3, h4, h5, h6, h7⟩ := h.2 i hi
    have hl := h.1
    have hcell : ∀ q v, us[i * 6 + q]? = some v → w.cell? ⟨b, off + i * 6 + q, none⟩ = some v := fun q v hv => by
      rw [Nat.add_assoc]
      exact (hc _ (List.getElem?_eq_some_iff.1 hv).1).trans hv
    exact ⟨hcell 0 _ h0, A', c', hcell 1 _ h1, h2.row, h3, hcell 2 _ h4, hcell 3 _ h5, hcell 4 _ h6, hcell 5 _ h7⟩
theorem cellsIn_block (w : World) (t : TypeId) (cs : Array Value) : CellsIn (w.heap.size + 1) (w.alloc (.cells cs t)) (some ⟨w.heap.size, 0, none⟩) cs.toList := .inr ⟨w.heap.size, 0, rfl, by omega, fun q hq => by
  rw [Nat.zero_add]
  exact ((Blk.new w t cs).cell q).trans (by simp)⟩
end

theorem lot_info : (Try.prog.info? 61).map (fun i => (i.zero, i.size, i.bytes)) = some (some (.agg #[.string ByteArray.empty, .slice none 0 0, .int .i64 0, .int .i64 0, .int .i64 0, .int .i64 0]), 6, 72) := by kernel_rfl

/-- Lots of the callee's own. -/
def LotsRet (w : World) (xs : List Lot) (e : Ending) (w' : World) : Prop :=
  ∃ A c, e = .returned (.slice A xs.length c) ∧ LotsIn w'.heap.size w' A xs ∧ xs.length ≤ c ∧ Below w.heap.size w w'

set_option maxHeartbeats 4000000 in
set_option maxRecDepth 100000 in
theorem copyLots_any (B : Nat) (xs : List Lot) (A : Option Addr) (n c : Nat) (w : World) (hr : LotsIn B w A xs) (hn : xs.length = n) (hB : B ≤ w.heap.size) (hs : SmallLots xs) :
    Calls Try.prog 36 #[.slice A n c] w (LotsRet w xs) := by
  obtain ⟨i0, hi0, hz0, hz1, hz2⟩ := info_parts lot_info
  obtain ⟨hs1, hs2⟩ := hs
  have HR := Lib.hid hr
  have HS := Lib.hid hs2
  clear hr hs2
  subst hn
  go_enter Try.func36, Try.ntmps36
  go_wp2
  go_loopw [3, 4] (fun ov ix wr => ∃ (i : Nat) (A' : Option Addr) (c' : Nat) (us : List Value), ov = .slice A' i c' ∧ ix = .int .i64 (i : Int) ∧ i ≤ xs.length ∧ wr.ownsRow w.heap.size 61 6 (.slice A' i c') i us ∧ LotRow wr us (xs.take i) ∧ Below w.heap.size w wr) (fun _ ix _ => xs.length - (intOf ix).toNat)
  case atStart => exact ⟨0, none, 0, [], rfl, rfl, Nat.zero_le _, World.ownsRow_nil _ _ _ _, LotRow.nil, pr⟩
  case round =>
    obtain ⟨i, A', c', us, rfl, rfl, hi, hown, hrow, hq⟩ := hrel
    by_cases hlt : i < xs.length
    · obtain ⟨b, off, hA, hbB, hct⟩ := (HR.out.below (hq.mono hB)).at_ hlt
      subst hA
      obtain ⟨t0, A3, c3, t1, tr, tc, t2, t3, t4, t5⟩ := hct i hlt
      have hBr : B ≤ wr.heap.size := Nat.le_trans hB hq.size
      have hbw : b < wr.heap.size := Nat.lt_of_lt_of_le hbB hBr
      have n0 : (0 : Int) ≤ (i : Int) := by omega
      have n1 : (i : Int) < (xs.length : Int) := by omega
      have hstep := Lib.hid (show xs.take (i + 1) = xs.take i ++ [xs.getD i default] by
        have e : xs.getD i default = xs[i] := by simp [List.getD, hlt]
        rw [List.take_succ_eq_append_getElem hlt, e])
      have hsm := HS.out i hlt
      generalize xs.getD i default = x at *
      have HCall := Lib.hid (copyLot_any B x A3 x.made.length c3 wr rfl tr hBr hsm)
      have HOwn := Lib.hid hown
      have HRow := Lib.hid hrow
      have HQ := Lib.hid hq
      have hqs := hq.size
      clear hct hown hrow hsm tr hq
      go_wp2_with (first
        | (go_at_call 40; go_must (refine HCall.out.mono ?_); rintro e w1 ⟨A1, c1, rfl, hrow1, hc1, hb1⟩; have hzz := hb1.size; have HRow1 := Lib.hid hrow1; have HB1 := Lib.hid hb1; have HO1 := Lib.hid ((ownsRow_past hb1 HOwn.out).alloc (.cells #[.string x.name, .slice A1 x.made.length c1, .int .i64 x.mlo, .int .i64 x.mhi, .int .i64 x.llo, .int .i64 x.lhi] 61)); have HC := Lib.hid (cellsIn_block w1 61 #[.string x.name, .slice A1 x.made.length c1, .int .i64 x.mlo, .int .i64 x.mhi, .int .i64 x.llo, .int .i64 x.lhi]); clear hrow1 hb1 t0 t1 t2 t3 t4 t5)
        | (at_builtin; go_must (refine wpList_append_cells _ rfl (.tmp 11) (.tmp 17) _ rfl w.heap.size 61 i0 _ 6 72 Try.underlying49 hi0 hz0 hz1 hz2 rfl (by omega) _ i us rfl HO1.out (w1.heap.size + 1) (some ⟨w1.heap.size, 0, none⟩) 1 1 _ rfl HC.out rfl (by simp [Value.oneCell']) (by simp only [maxLen]; omega) (by omega) (by simp; omega) ?_); intro v3 w3 hown3 hg3 hat3; obtain ⟨A4, c4, rfl, hc4, hm4⟩ := own_form hown3))
      have HB3 := Lib.hid (show Below w.heap.size w w3 from pg (pa (pt HQ.out HB1.out)) HO1.out (Nat.le_refl _) hg3)
      have HRow3 := Lib.hid (((HRow.out.same (TextRow.kept_below HB1.out)).snoc HRow1.out hc1 |>.same (TextRow.kept_below (pa pr))).same (TextRow.kept_rows HO1.out (by decide) hg3))
      have HOwn3 := Lib.hid hown3
      clear hown3 hg3 hat3
      go_roundw
      case rel => exact ⟨i + 1, A4, c4, _, rfl, by go_num, by omega, HOwn3.out, by rw [hstep.out]; exact HRow3.out, HB3.out⟩
      case measure => simp [intOf]; omega
    · obtain rfl : i = xs.length := by omega
      rw [List.take_length] at hrow
      have HL := Lib.hid (hrow.lots hown)
      obtain ⟨A2, c2, hv, hcap, _⟩ := own_form hown
      have hcap' : xs.length ≤ c' := by injection hv with _ _ h; omega
      clear hown hrow hv
      go_wp2
      go_ret
      exact ⟨A', c', rfl, HL.out, hcap', hq⟩

end Go.Proofs.Ytlgioldmjohhlaa
