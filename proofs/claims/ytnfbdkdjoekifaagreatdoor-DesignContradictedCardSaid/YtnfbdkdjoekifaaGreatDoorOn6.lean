/- Contracts: MarginsOf, Meets (the specification of chapter 2), base.Ranges. Printed by a program (gen_d8rmar.py).
The law DesignChoices: the walk. Printed by a program (gen_d8law.py). -/
import Derived.Test.YtnfbdkdjoekifaaGreatDoorOn4
import Derived.Test.YtnfbdkdjoekifaaGreatDoorOn5
import Derived.Test.YtnfbdkdjoekifaaGreatDoorOg3
import Derived.Test.YtnfbdkdjoekifaaGreatDoorOn1
import Derived.Test.YtnfbdkdjoekifaaGreatDoorOn2
import Derived.Deep.RegionHeld3

section
namespace Go.Proofs.YtnfbdkdjoekifaaGreatDoor
open Go.RowKit

theorem cells_newA (w : World) (t : TypeId) (cs : Array Value) {g : Nat} (h : w.heap.size = g) : CellsIn (g + 1) (w.alloc (.cells cs t)) (some ⟨g, 0, none⟩) cs.toList := by
  subst h
  exact cells_new w t cs
/-- Ranges of the callee's own. -/
def RngsRet (w : World) (L : List (Int × Int)) (e : Ending) (w' : World) : Prop := ∃ A c, e = .returned (.slice A L.length c) ∧ CellsIn w'.heap.size w' A (rangesC L) ∧ Below w.heap.size w w'
theorem rangesC_snoc (L : List (Int × Int)) (a b : Int) : rangesC (L ++ [(a, b)]) = rangesC L ++ [.int .i64 a, .int .i64 b] := by
  unfold rangesC
  rw [List.flatMap_append]
  rfl

set_option maxRecDepth 100000 in
set_option maxHeartbeats 8000000 in
theorem refMarginsOf_any (B : Nat) (rs : List DReq) (RA : Option Addr) (rn rc : Nat) (sl : List (List DPart)) (SA : Option Addr) (n c : Nat) (idle price : Int) (ch : List Int) (CA : Option Addr) (cc : Nat) (w : World) (hrr : ReqsIn B w RA rs) (hr : SlotsIn B w SA sl) (hc : IntsIn B w CA ch) (hB : B ≤ w.heap.size) (hrn : rs.length = rn) (hrm : rn ≤ 1000) (hn : sl.length = n) (hs : SlotsOk sl) (hch : ChoiceOk sl ch) (hrs : ∀ r ∈ rs, ReqOk r) :
    Calls Tryz.prog 40 #[.agg #[.slice RA rn rc], .agg #[.slice SA n c, .int .i64 idle, .int .i64 price], .slice CA n cc] w (RngsRet w (marginsV rs sl ch)) := by
  have HV := Lib.hid (fun W (hW : Below w.heap.size w W) => refValuesOf_any B sl SA n c idle price ch CA cc W (hr.below (hW.mono hB)) (hc.below (hW.mono hB)) (Nat.le_trans hB hW.size) hn hs hch)
  have HVo := Lib.hid (show ValsOk (valsF sl ch n) from fun q => by
    have := vals_bd hs hch q (k := n) (by rw [hn]; exact Nat.le_refl _)
    have h5 : n ≤ 5 := by rw [← hn]; exact hs.1.2
    have h6 : ((n : Nat) : Int) * 1000000 ≤ 5000000 := by omega
    exact ⟨⟨this.1, by omega⟩, by omega, by omega⟩)
  have HM := Lib.hid (show marginsV rs sl ch = rs.map (fun r => marginV r (valsF sl ch n)) by unfold marginsV; rw [hch.1, hn])
  have HR := Lib.hid hrr
  have HN := Lib.hid hrn
  have HRo := Lib.hid hrs
  obtain ⟨i0, hi0, hz0, hz1, hz2⟩ := info_partsC range_infoC
  clear hrr hr hc hrn hn hs hch hrs
  generalize valsF sl ch n = v at *
  generalize marginsV rs sl ch = ML at *
  unfold valsV valsC at HV
  have R0 := Lib.hid (show Blk ((w.alloc (.cells #[.slice RA rn rc] 24)).alloc (.cells #[.slice SA n c, .int .i64 idle, .int .i64 price] 27)) w.heap.size 24 #[.slice RA rn rc] from (Blk.newAt rfl).alloc)
  have HB0 := Lib.hid (show Below w.heap.size w ((w.alloc (.cells #[.slice RA rn rc] 24)).alloc (.cells #[.slice SA n c, .int .i64 idle, .int .i64 price] 27)) from pa (pa pr))
  go_enter Tryz.func40, Tryz.ntmps40
  go_wp2_with (go_at_call 64; refine (HV.out _ HB0.out).mono ?_; rintro e w1 ⟨rfl, hb1⟩; have HB1 := Lib.hid (show Below w.heap.size w (w1.alloc (.cells #[.int .i64 (v 0).1, .int .i64 (v 0).2, .int .i64 (v 1).1, .int .i64 (v 1).2, .int .i64 (v 2).1, .int .i64 (v 2).2, .int .i64 (v 3).1, .int .i64 (v 3).2, .int .i64 (v 4).1, .int .i64 (v 4).2, .int .i64 (v 5).1, .int .i64 (v 5).2] 58)) from pa (pt HB0.out hb1)); have R1 := Lib.hid ((R0.out.past hb1).alloc (o := .cells #[.int .i64 (v 0).1, .int .i64 (v 0).2, .int .i64 (v 1).1, .int .i64 (v 1).2, .int .i64 (v 2).1, .int .i64 (v 2).2, .int .i64 (v 3).1, .int .i64 (v 3).2, .int .i64 (v 4).1, .int .i64 (v 4).2, .int .i64 (v 5).1, .int .i64 (v 5).2] 58)); have S1 := Lib.hid (show Blk (w1.alloc (.cells #[.int .i64 (v 0).1, .int .i64 (v 0).2, .int .i64 (v 1).1, .int .i64 (v 1).2, .int .i64 (v 2).1, .int .i64 (v 2).2, .int .i64 (v 3).1, .int .i64 (v 3).2, .int .i64 (v 4).1, .int .i64 (v 4).2, .int .i64 (v 5).1, .int .i64 (v 5).2] 58)) w1.heap.size 58 (valsC v) from Blk.newAt rfl); clear hb1)
  have hg7 : w.heap.size ≤ w1.heap.size := by have h1 := HB1.out.size; have h2 := R1.out.lt; have h3 := S1.out.lt; simp at h1 h2 h3; omega
  generalize w1.alloc (.cells #[.int .i64 (v 0).1, .int .i64 (v 0).2, .int .i64 (v 1).1, .int .i64 (v 1).2, .int .i64 (v 2).1, .int .i64 (v 2).2, .int .i64 (v 3).1, .int .i64 (v 3).2, .int .i64 (v 4).1, .int .i64 (v 4).2, .int .i64 (v 5).1, .int .i64 (v 5).2] 58) = wo at *
  generalize w1.heap.size = g7 at *
  clear HV HB0 R0
  go_loopw [8, 9] (fun sv iv wr => ∃ (k : Nat) (A' : Option Addr) (c' : Nat), iv = .int .i64 (k : Int) ∧ k ≤ rn ∧ sv = .slice A' k c' ∧ wr.ownsRow w.heap.size 57 2 (.slice A' k c') k (rangesC ((rs.take k).map fun r => marginV r v)) ∧ Blk wr w.heap.size 24 #[.slice RA rn rc] ∧ Blk wr g7 58 (valsC v) ∧ Below w.heap.size w wr) (fun _ iv _ => rn - (intOf iv).toNat)
  case atStart => exact ⟨0, none, 0, rfl, Nat.zero_le _, rfl, World.ownsRow_nil _ _ _ _, R1.out, S1.out, HB1.out⟩
  case round =>
    clear R1 S1 HB1
    obtain ⟨k, A', c', rfl, hk, rfl, hown, k0, k7, hq⟩ := hrel
    have HO := Lib.hid hown
    have K0 := Lib.hid k0
    have K7 := Lib.hid k7
    have HQ := Lib.hid hq
    have x0 := k0.cellAt 0 rfl
    have xl := k0.lt
    have hqs := hq.size
    clear hown k0 k7 hq
    by_cases hlt : k < rn
    · have hk' : k < rs.length := by rw [HN.out]; exact hlt
      have hro := HRo.out _ (getD_mem' hk')
      obtain ⟨b, off, rfl, hb, hct⟩ := (HR.out.below (HQ.out.mono hB)).at_ hk'
      obtain ⟨A2, c2, u0, u1, u2, u3, hts, hcap⟩ := hct k hk'
      have HS := Lib.hid (fun W (hW : Below wr.heap.size wr W) => refSumOf_any B (rs.getD k default).ts A2 _ c2 v W (hts.below (hW.mono (Nat.le_trans hB HQ.out.size))) (Nat.le_trans hB (Nat.le_trans HQ.out.size hW.size)) rfl hro.1 HVo.out)
      have HStep := Lib.hid (show (rs.take (k + 1)).map (fun r => marginV r v) = (rs.take k).map (fun r => marginV r v) ++ [marginV (rs.getD k default) v] by rw [take_snoc hk', List.map_append]; rfl)
      obtain ⟨hsb1, hsb2⟩ := sumT_all hro.1 HVo.out
      have hlb := hro.2
      have HMv := Lib.hid (show marginV (rs.getD k default) v = if (rs.getD k default).ge then ((sumT (rs.getD k default).ts v).1 - (rs.getD k default).lim, (sumT (rs.getD k default).ts v).2 - (rs.getD k default).lim) else ((rs.getD k default).lim - (sumT (rs.getD k default).ts v).2, (rs.getD k default).lim - (sumT (rs.getD k default).ts v).1) from rfl)
      have hbw : b < wr.heap.size := by omega
      have j0 : (0 : Int) ≤ (k : Int) := by omega
      have j1 : (k : Int) < (rn : Int) := by omega
      unfold rngV valsV at HS
      clear hct hts hcap hro
      generalize marginV (rs.getD k default) v = MV at *
      generalize (rs.take k).map (fun r => marginV r v) = L0 at *
      generalize rs.getD k default = r at *
      obtain ⟨ts, ge, lim, unit⟩ := r
      dsimp only at *
      generalize ts.length = ln at *
      generalize (sumT ts v).1 = s1 at *
      generalize (sumT ts v).2 = s2 at *
      have X10 := Lib.hid (show Blk (wr.alloc (.cells #[.slice A2 ln c2, .bool ge, .int .i64 lim, .int .i64 unit] 45)) wr.heap.size 45 #[.slice A2 ln c2, .bool ge, .int .i64 lim, .int .i64 unit] from Blk.newAt rfl)
      have z0 := X10.out.cellAt 0 rfl
      have zl := X10.out.lt
      have K7a := Lib.hid (K7.out.alloc (o := .cells #[.slice A2 ln c2, .bool ge, .int .i64 lim, .int .i64 unit] 45))
      have hB0 : -80000000000 ≤ s1 ∧ s1 ≤ 80000000000 ∧ -80000000000 ≤ s2 ∧ s2 ≤ 80000000000 := ⟨hsb1.1, hsb1.2, hsb2.1, hsb2.2⟩
      cases ge
      · have HMw := Lib.hid (show MV = (lim - s2, lim - s1) from HMv.out)
        clear HMv
        go_wp2_with (first
        | ((with_reducible refine load_blk (T := 58) (x := .tmp 7) K7a.out rfl rfl ?_ ?_ ?_); (focus exact valuesR_size); (focus (first | rfl | (go_simp; done))))
        | (go_at_call 65; refine (HS.out _ (pa pr)).mono ?_; rintro e w2 ⟨rfl, hb2⟩; have HB2 := Lib.hid (show Below wr.heap.size wr (w2.alloc (.cells #[.int .i64 s1, .int .i64 s2] 57)) from pa (pt (pa pr) hb2)); have Y10 := Lib.hid ((X10.out.past hb2).alloc (o := .cells #[.int .i64 s1, .int .i64 s2] 57)); have Y11 := Lib.hid (show Blk (w2.alloc (.cells #[.int .i64 s1, .int .i64 s2] 57)) w2.heap.size 57 #[.int .i64 s1, .int .i64 s2] from Blk.newAt rfl); have HO2 := Lib.hid (own_past HB2.out HO.out); clear z0 zl hb2; have y1 := Y10.out.cellAt 1 rfl; have y2 := Y10.out.cellAt 2 rfl; have yl := Y10.out.lt; have v0 := Y11.out.cellAt 0 rfl; have v1 := Y11.out.cellAt 1 rfl; have vl := Y11.out.lt; have hq2 := HB2.out.size; have hx2 : (w2.alloc (.cells #[.int .i64 s1, .int .i64 s2] 57)).heap.size = w2.heap.size + 1 := by simp)
        | (at_builtin; go_must (refine wpList_append_cells _ rfl (.tmp 47) (.tmp 59) _ (by rfl) w.heap.size 57 i0 _ 2 16 Tryz.underlying50 hi0 hz0 hz1 hz2 (by rfl) (by omega) _ k _ (by rfl) (HO2.out.alloc _) (w2.heap.size + 1 + 1) (some ⟨w2.heap.size + 1, 0, none⟩) 1 1 [.int .i64 (lim - s2), .int .i64 (lim - s1)] (by rfl) (cells_newA _ _ #[.int .i64 (lim - s2), .int .i64 (lim - s1)] hx2) rfl (by simp [Value.oneCell']) (by simp only [maxLen]; omega) (by omega) (by simp; omega) ?_); intro v9 w9 hown9 hg9 _; obtain ⟨A9, c9, rfl, hc9, hm9⟩ := own_form hown9; have HO2a := Lib.hid (HO2.out.alloc (.cells #[.int .i64 (lim - s2), .int .i64 (lim - s1)] 57))))
        have HBz := Lib.hid (pt HQ.out HB2.out)
        have HK0 := Lib.hid (((K0.out.past HB2.out).alloc (o := (.cells #[.int .i64 (lim - s2), .int .i64 (lim - s1)] 57))).grown hg9 (own_ne HO2a.out ((K0.out.past HB2.out).alloc (o := (.cells #[.int .i64 (lim - s2), .int .i64 (lim - s1)] 57))) (by decide)))
        have HK7 := Lib.hid (((K7.out.past HB2.out).alloc (o := (.cells #[.int .i64 (lim - s2), .int .i64 (lim - s1)] 57))).grown hg9 (own_ne HO2a.out ((K7.out.past HB2.out).alloc (o := (.cells #[.int .i64 (lim - s2), .int .i64 (lim - s1)] 57))) (by decide)))
        have HB9 := Lib.hid (pg (pa HBz.out) HO2a.out (Nat.le_refl _) hg9)
        have HO9 := Lib.hid hown9
        clear hown9 hg9
        go_roundw
        case rel => exact ⟨k + 1, A9, c9, by go_num, by omega, rfl, by rw [HStep.out, HMw.out, rangesC_snoc]; exact HO9.out, HK0.out, HK7.out, HB9.out⟩
        case measure => simp [intOf]; omega
      · have HMw := Lib.hid (show MV = (s1 - lim, s2 - lim) from HMv.out)
        clear HMv
        go_wp2_with (first
        | ((with_reducible refine load_blk (T := 58) (x := .tmp 7) K7a.out rfl rfl ?_ ?_ ?_); (focus exact valuesR_size); (focus (first | rfl | (go_simp; done))))
        | (go_at_call 65; refine (HS.out _ (pa pr)).mono ?_; rintro e w2 ⟨rfl, hb2⟩; have HB2 := Lib.hid (show Below wr.heap.size wr (w2.alloc (.cells #[.int .i64 s1, .int .i64 s2] 57)) from pa (pt (pa pr) hb2)); have Y10 := Lib.hid ((X10.out.past hb2).alloc (o := .cells #[.int .i64 s1, .int .i64 s2] 57)); have Y11 := Lib.hid (show Blk (w2.alloc (.cells #[.int .i64 s1, .int .i64 s2] 57)) w2.heap.size 57 #[.int .i64 s1, .int .i64 s2] from Blk.newAt rfl); have HO2 := Lib.hid (own_past HB2.out HO.out); clear z0 zl hb2; have y1 := Y10.out.cellAt 1 rfl; have y2 := Y10.out.cellAt 2 rfl; have yl := Y10.out.lt; have v0 := Y11.out.cellAt 0 rfl; have v1 := Y11.out.cellAt 1 rfl; have vl := Y11.out.lt; have hq2 := HB2.out.size; have hx2 : (w2.alloc (.cells #[.int .i64 s1, .int .i64 s2] 57)).heap.size = w2.heap.size + 1 := by simp)
        | (at_builtin; go_must (refine wpList_append_cells _ rfl (.tmp 33) (.tmp 45) _ (by rfl) w.heap.size 57 i0 _ 2 16 Tryz.underlying50 hi0 hz0 hz1 hz2 (by rfl) (by omega) _ k _ (by rfl) (HO2.out.alloc _) (w2.heap.size + 1 + 1) (some ⟨w2.heap.size + 1, 0, none⟩) 1 1 [.int .i64 (s1 - lim), .int .i64 (s2 - lim)] (by rfl) (cells_newA _ _ #[.int .i64 (s1 - lim), .int .i64 (s2 - lim)] hx2) rfl (by simp [Value.oneCell']) (by simp only [maxLen]; omega) (by omega) (by simp; omega) ?_); intro v9 w9 hown9 hg9 _; obtain ⟨A9, c9, rfl, hc9, hm9⟩ := own_form hown9; have HO2a := Lib.hid (HO2.out.alloc (.cells #[.int .i64 (s1 - lim), .int .i64 (s2 - lim)] 57))))
        have HBz := Lib.hid (pt HQ.out HB2.out)
        have HK0 := Lib.hid (((K0.out.past HB2.out).alloc (o := (.cells #[.int .i64 (s1 - lim), .int .i64 (s2 - lim)] 57))).grown hg9 (own_ne HO2a.out ((K0.out.past HB2.out).alloc (o := (.cells #[.int .i64 (s1 - lim), .int .i64 (s2 - lim)] 57))) (by decide)))
        have HK7 := Lib.hid (((K7.out.past HB2.out).alloc (o := (.cells #[.int .i64 (s1 - lim), .int .i64 (s2 - lim)] 57))).grown hg9 (own_ne HO2a.out ((K7.out.past HB2.out).alloc (o := (.cells #[.int .i64 (s1 - lim), .int .i64 (s2 - lim)] 57))) (by decide)))
        have HB9 := Lib.hid (pg (pa HBz.out) HO2a.out (Nat.le_refl _) hg9)
        have HO9 := Lib.hid hown9
        clear hown9 hg9
        go_roundw
        case rel => exact ⟨k + 1, A9, c9, by go_num, by omega, rfl, by rw [HStep.out, HMw.out, rangesC_snoc]; exact HO9.out, HK0.out, HK7.out, HB9.out⟩
        case measure => simp [intOf]; omega
    · have hkn : k = rn := by omega
      subst hkn
      have hL : (rs.take k).map (fun r => marginV r v) = ML := by rw [HM.out, List.take_of_length_le (by rw [HN.out]; exact Nat.le_refl _)]
      have hLn : k = ML.length := by rw [HM.out, List.length_map, HN.out]
      rw [hL] at HO
      have HL := Lib.hid hLn
      clear hL hLn
      go_wp2
      go_ret
      exact ⟨A', c', by rw [← HL.out]; rfl, cellsIn_of_own HO.out, HQ.out⟩

theorem rng_at {B : Nat} {w : World} {A : Option Addr} {L : List (Int × Int)} {k : Nat} (h : CellsIn B w A (rangesC L)) (hk : k < L.length) : ∃ b off, A = some ⟨b, off, none⟩ ∧ b < B ∧ ∀ i, i < L.length → w.cell? ⟨b, off + i * 2, none⟩ = some (.int .i64 (L.getD i default).1) ∧ w.cell? ⟨b, off + i * 2 + 1, none⟩ = some (.int .i64 (L.getD i default).2) := by
  obtain ⟨b, off, hA, hb, hc⟩ := h.elem rng_len hk (by decide)
  exact ⟨b, off, hA, hb, fun i hi => ⟨hc i hi 0 (by decide), hc i hi 1 (by decide)⟩⟩
theorem drop_at {α : Type} [Inhabited α] {l : List α} {k : Nat} (h : k < l.length) : l.drop k = l.getD k default :: l.drop (k + 1) := by
  rw [List.drop_eq_getElem_cons h]
  simp [List.getD, h]

set_option maxRecDepth 100000 in
set_option maxHeartbeats 8000000 in
theorem refMeets_any (B : Nat) (rs : List DReq) (RA : Option Addr) (rn rc : Nat) (sl : List (List DPart)) (SA : Option Addr) (n c : Nat) (idle price : Int) (ch : List Int) (CA : Option Addr) (cc : Nat) (w : World) (hrr : ReqsIn B w RA rs) (hr : SlotsIn B w SA sl) (hc : IntsIn B w CA ch) (hB : B ≤ w.heap.size) (hrn : rs.length = rn) (hrm : rn ≤ 1000) (hn : sl.length = n) (hs : SlotsOk sl) (hch : ChoiceOk sl ch) (hrs : ∀ r ∈ rs, ReqOk r) :
    Calls Tryz.prog 15 #[.agg #[.slice RA rn rc], .agg #[.slice SA n c, .int .i64 idle, .int .i64 price], .slice CA n cc] w fun e w' => e = .returned (.int .i64 (meetsV rs sl ch)) ∧ Below w.heap.size w w' := by
  have HMa := Lib.hid (fun W (hW : Below w.heap.size w W) => refMarginsOf_any B rs RA rn rc sl SA n c idle price ch CA cc W (hrr.below (hW.mono hB)) (hr.below (hW.mono hB)) (hc.below (hW.mono hB)) (Nat.le_trans hB hW.size) hrn hrm hn hs hch hrs)
  have HE := Lib.hid (show meetsV rs sl ch = meetsF (marginsV rs sl ch) 2 from rfl)
  have hml : (marginsV rs sl ch).length = rn := by unfold marginsV; rw [List.length_map, hrn]
  clear hrr hr hc hrn hn hs hch hrs
  generalize meetsV rs sl ch = E at *
  generalize marginsV rs sl ch = L at *
  have HB0 := Lib.hid (show Below w.heap.size w ((w.alloc (.cells #[.slice RA rn rc] 24)).alloc (.cells #[.slice SA n c, .int .i64 idle, .int .i64 price] 27)) from pa (pa pr))
  generalize hln : L.length = ln at *
  have HL := Lib.hid hln
  clear hln
  go_enter Tryz.func15, Tryz.ntmps15
  go_wp2_with (go_at_call 40; refine (HMa.out _ HB0.out).mono ?_; rintro e w1 ⟨A1, c1, rfl, hc1, hb1⟩; rw [HL.out]; have HC1 := Lib.hid hc1; have HB1 := Lib.hid (pt HB0.out hb1); clear hc1 hb1)
  go_loopw [8, 9] (fun av iv wr => ∃ (k : Nat) (a : Int), iv = .int .i64 (k : Int) ∧ k ≤ ln ∧ av = .int .i64 a ∧ meetsF L 2 = meetsF (L.drop k) a ∧ Below w1.heap.size w1 wr) (fun _ iv _ => ln - (intOf iv).toNat)
  case atStart => exact ⟨0, 2, rfl, Nat.zero_le _, rfl, rfl, pr⟩
  case round =>
    obtain ⟨k, a, rfl, hk, rfl, hf, hq⟩ := hrel
    have HQ := Lib.hid (pt HB1.out hq)
    have HQo := Lib.hid hq
    have HF := Lib.hid hf
    clear hf
    by_cases hlt : k < ln
    · have hk' : k < L.length := by rw [HL.out]; exact hlt
      obtain ⟨b, off, rfl, hb, hct⟩ := rng_at (HC1.out.below HQo.out) hk'
      obtain ⟨u0, u1⟩ := hct k hk'
      have HD := Lib.hid (drop_at hk')
      have hbw : b < wr.heap.size := Nat.lt_of_lt_of_le hb hq.size
      have j0 : (0 : Int) ≤ (k : Int) := by omega
      have j1 : (k : Int) < (ln : Int) := by omega
      clear hct hq
      generalize L.getD k default = m at *
      obtain ⟨lo, hi⟩ := m
      dsimp only at *
      by_cases hx : hi < 0
      · have HRs := Lib.hid (show E = 0 by rw [HE.out, HF.out, HD.out, meetsF, if_pos hx])
        go_wp2
        go_ret
        exact ⟨ret_int HRs.out.symm, HQ.out⟩
      · by_cases hy : lo < 0
        · have HS2 := Lib.hid (show meetsF L 2 = meetsF (L.drop (k + 1)) 1 by rw [HF.out, HD.out, meetsF, if_neg hx, if_pos hy])
          go_wp2
          go_roundw
          case rel => exact ⟨k + 1, 1, by go_num, by omega, rfl, HS2.out, HQo.out⟩
          case measure => simp [intOf]; omega
        · have HS2 := Lib.hid (show meetsF L 2 = meetsF (L.drop (k + 1)) a by rw [HF.out, HD.out, meetsF, if_neg hx, if_neg hy])
          go_wp2
          go_roundw
          case rel => exact ⟨k + 1, a, by go_num, by omega, rfl, HS2.out, HQo.out⟩
          case measure => simp [intOf]; omega
    · have HRs := Lib.hid (show E = a by rw [HE.out, HF.out, List.drop_of_length_le (by rw [HL.out]; omega)]; rfl)
      clear hq
      go_wp2
      go_ret
      exact ⟨ret_int HRs.out.symm, HQ.out⟩

end Go.Proofs.YtnfbdkdjoekifaaGreatDoor
end

section
namespace Go.Proofs.YtnfbdkdjoekifaaGreatDoor
open Go.RowKit
attribute [local go_sem high] vals_eqlIn

theorem few_bd2 {rs : List DReq} {sl : List (List DPart)} (h : FewP rs sl) : rs.length ≤ 8 ∧ (∀ r ∈ rs, r.ts.length ≤ 1000) ∧ sl.length ≤ 7 ∧ SmallSlots sl := by
  obtain ⟨h1, h2, h3, h4⟩ := h
  refine ⟨h1, fun r hr => ?_, h2, fun l hl => ?_⟩
  · obtain ⟨i, hi, he⟩ := mem_getD hr
    have h5 := h3 i hi
    rw [he] at h5
    omega
  · obtain ⟨i, hi, he⟩ := mem_getD hl
    have hd : sl.getD i default = sl.getD i [] := rfl
    rw [hd] at he
    obtain ⟨h5, h6⟩ := h4 i hi
    rw [he] at h5 h6
    refine ⟨by omega, fun q hq => ?_⟩
    obtain ⟨k, hk, he2⟩ := mem_getD hq
    have h7 := h6 k hk
    rw [he2] at h7
    exact Nat.le_trans h7 (by decide)
end Go.Proofs.YtnfbdkdjoekifaaGreatDoor
end
