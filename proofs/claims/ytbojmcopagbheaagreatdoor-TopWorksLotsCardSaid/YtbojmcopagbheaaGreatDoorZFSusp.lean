/- Contracts: the suspect lots; the index and the error of lots; whether a lot is accepted, or its error. -/
import Derived.Test.YtbojmcopagbheaaGreatDoorZEOpenLots
namespace Go.Proofs.YtbojmcopagbheaaGreatDoor
open Go.RowKit Go.Maps

def badB (x : Lot) : Bool := acceptV x != 2
def suspB (F : Fam) (bad : List ByteArray) (x : Lot) : Bool := anyG (touchB F x.name) bad
def suspectsV (xs : List Lot) : List ByteArray := namesV (suspB (fromV xs xs.length) (namesV badB xs)) xs

theorem fromV_some (xs : List Lot) : ∀ (k i : Nat), i < k → goneB (fromV xs k) (xs.getD i default).name = false
  | 0, _, h => by omega
  | k + 1, i, h => by
    unfold goneB
    show (if sameS (xs.getD i default).name (xs.getD k default).name then some (ownV (fromV xs k) (xs.getD k default).made) else fromV xs k (xs.getD i default).name).isNone = false
    split
    · rfl
    · rename_i hs
      rcases Nat.lt_or_ge i k with h1 | h1
      · exact fromV_some xs k i h1
      · obtain rfl : i = k := by omega
        exact absurd (sameS_self _) hs

theorem bad1_any (x : Lot) (A : Option Addr) (n c : Nat) (w : World) :
    Calls Tryz.prog 69 #[.agg #[.string x.name, .slice A n c, .int .i64 x.mlo, .int .i64 x.mhi, .int .i64 x.llo, .int .i64 x.lhi]] w fun e w' => e = .returned (.bool (badB x)) ∧ Below w.heap.size w w' := by
  have HB := Lib.hid (show badB x = (acceptV x != 2) from rfl)
  have hacc := accept_any x A n c
  generalize acceptV x = V at *
  go_enter Tryz.func69, Tryz.ntmps69
  go_wp2_with (go_at_call 70; refine (hacc _).mono ?_; rintro e w1 ⟨rfl, hb⟩)
  go_ret
  exact ⟨ret_bool HB.out.symm, pt (pa pr) hb⟩

set_option maxHeartbeats 1000000 in
theorem suspect2_any (B qb fb fm k cap cb : Nat) (F : Fam) (bad : List ByteArray) (Ab : Option Addr) (x : Lot) (A : Option Addr) (n c : Nat) (w : World) (hB : B ≤ w.heap.size) (hq : w.cell? ⟨qb, 0, none⟩ = some (.slice Ab bad.length cb)) (hqb : qb < B) (hr : RowIn Value.string B w Ab bad)
    (hf : w.cell? ⟨fb, 1, none⟩ = some (.map (some fm))) (hfb : fb < B) (hF : FromIs B w fm F k cap) (hn : x.name.size ≤ 1000) (hbad : ∀ j, j < bad.length → (bad.getD j default).size ≤ 1000) (hlen : bad.length ≤ 1000) (hin : goneB F x.name = false) :
    Calls Tryz.prog 71 #[.agg #[.string x.name, .slice A n c, .int .i64 x.mlo, .int .i64 x.mhi, .int .i64 x.llo, .int .i64 x.lhi], .pointer (some ⟨qb, 0, none⟩), .pointer (some ⟨fb, 0, none⟩)] w fun e w' => e = .returned (.bool (suspB F bad x)) ∧ Below w.heap.size w w' := by
  have hcf := containsFuncS_suspect B Ab bad.length cb bad (touchB F x.name) (.pointer (some ⟨w.heap.size, 0, none⟩)) (.pointer (some ⟨fb, 0, none⟩)) (w.alloc (.cells #[.string x.name, .slice A n c, .int .i64 x.mlo, .int .i64 x.mhi, .int .i64 x.llo, .int .i64 x.lhi] 58)) (hr.below ((pa pr).mono hB)) rfl hlen
    (fun j hj => suspect1_any w.heap.size fb fm B k cap F x.name _ _ ((Blk.newAt rfl).cellAt 0 rfl) (((bcell ((pa pr).mono hB)).1 fb 1 hfb).trans hf) (hF.below ((pa pr).mono hB)) hn (hbad j hj) hin)
  have HCF := Lib.hid hcf
  have HR := Lib.hid (show suspB F bad x = anyG (touchB F x.name) bad from rfl)
  have hqw : qb < w.heap.size := by omega
  clear hcf hr hF hbad hf
  go_enter Tryz.func71, Tryz.ntmps71
  go_wp2_with (go_at_call 72; go_must (refine HCF.out.mono ?_); rintro e w1 ⟨rfl, rfl⟩)
  go_ret
  exact ⟨ret_bool HR.out.symm, pa pr⟩

theorem namesV_size {p : Lot → Bool} {xs : List Lot} (hs : SmallLots xs) : ∀ j, j < (namesV p xs).length → ((namesV p xs).getD j default).size ≤ 1000 := by
  intro j hj
  have hm : (namesV p xs).getD j default ∈ namesV p xs := getD_in hj
  unfold namesV at hm
  obtain ⟨x, hx, he⟩ := List.mem_map.1 hm
  obtain ⟨i, hi, hxi⟩ := List.getElem_of_mem (List.mem_filter.1 hx).1
  have h := (hs.2 i hi).1
  rw [show xs.getD i default = x by simp [List.getD, hi, hxi]] at h
  unfold namesV
  rw [← he]
  exact h
theorem namesV_le (p : Lot → Bool) (xs : List Lot) : (namesV p xs).length ≤ xs.length := by
  have := namesV_len p xs xs.length
  rwa [List.take_length] at this

def SuspPost (xs : List Lot) (w : World) (e : Ending) (w' : World) : Prop :=
  ∃ A c, e = .returned (.tuple #[.slice A (suspectsV xs).length c, .int .i64 0]) ∧ RowIn Value.string w'.heap.size w' A (suspectsV xs) ∧ (suspectsV xs).length ≤ c ∧ Below w.heap.size w w'

set_option maxHeartbeats 2000000 in
set_option maxRecDepth 100000 in
theorem suspectsIn_err (B : Nat) (xs : List Lot) (A : Option Addr) (c : Nat) (w : World) (hr : LotsIn B w A xs) (hB : B ≤ w.heap.size) (hs : SmallLots xs) (he : (openLotsV xs).2 ≠ 0) :
    Calls Tryz.prog 27 #[.slice A xs.length c] w fun e w' => e = .returned (.tuple #[.slice none 0 0, .int .i64 (openLotsV xs).2]) ∧ Below w.heap.size w w' := by
  have HO := Lib.hid (openLots_any B xs A c w hr hB hs)
  have hne : ((openLotsV xs).2 != 0) = true := by simpa using he
  clear hr hs he
  unfold LotsPost at HO
  generalize (openLotsV xs).1 = I at *
  generalize (openLotsV xs).2 = E at *
  go_enter Tryz.func27, Tryz.ntmps27
  go_wp2_with (go_at_call 67; go_must (refine HO.out.mono ?_); rintro e w1 ⟨fm, rfl, _, hb1⟩)
  go_ret2
  exact ⟨rfl, pa hb1⟩

theorem susp_names (B : Nat) (xs : List Lot) (A A2 : Option Addr) (c c2 fm : Nat) (w w1 w2 : World) (hr : LotsIn B w A xs) (hB : B ≤ w.heap.size) (hs : SmallLots xs) (hb1 : Below w.heap.size w w1) (hF : FromIs w1.heap.size w1 fm (fromV xs xs.length) xs.length (capV xs.length))
    (hb2 : Below (w1.alloc (.cells #[.slice A xs.length c, .map (some fm)] 120)).heap.size (w1.alloc (.cells #[.slice A xs.length c, .map (some fm)] 120)) w2) (hrow : RowIn Value.string w2.heap.size w2 A2 (namesV badB xs)) :
    Calls Tryz.prog 68 #[.agg #[.slice A xs.length c, .map (some fm)], .func (.func 71) #[] #[.pointer (some ⟨w2.heap.size, 0, none⟩), .pointer (some ⟨w1.heap.size, 0, none⟩)]] (w2.alloc (.cells #[.slice A2 (namesV badB xs).length c2] 56)) (NamesPost (suspB (fromV xs xs.length) (namesV badB xs)) xs (w2.alloc (.cells #[.slice A2 (namesV badB xs).length c2] 56))) := by
  have hb12 : Below w1.heap.size w1 w2 := pt (pa pr) hb2
  have hb1W : Below w1.heap.size w1 (w2.alloc (.cells #[.slice A2 (namesV badB xs).length c2] 56)) := pa hb12
  have hbw : Below w.heap.size w (w2.alloc (.cells #[.slice A2 (namesV badB xs).length c2] 56)) := pt hb1 hb1W
  have hlt1 : w1.heap.size < w2.heap.size := by have := hb2.size; simp at this; omega
  have kF := ((Blk.new w1 120 #[.slice A xs.length c, .map (some fm)]).past hb2).alloc (o := .cells #[.slice A2 (namesV badB xs).length c2] 56)
  have kQ : Blk (w2.alloc (.cells #[.slice A2 (namesV badB xs).length c2] 56)) w2.heap.size 56 #[.slice A2 (namesV badB xs).length c2] := Blk.new _ _ _
  refine names_suspect B xs A c fm _ _ _ _ (hr.below (hbw.mono hB)) (Nat.le_trans hB hbw.size) hs.1 fun i hi W hW A1 c1 => ?_
  have hsz := hW.size
  simp only [World.size_alloc] at hsz
  exact suspect2_any (w2.heap.size + 1) w2.heap.size w1.heap.size fm xs.length (capV xs.length) c2 _ _ A2 _ A1 _ c1 W hsz ((kQ.past hW).cellAt 0 rfl) (by omega) (((hrow.below ((pa pr : Below w2.heap.size w2 (w2.alloc (.cells #[.slice A2 (namesV badB xs).length c2] 56))))).more (by omega)).below (hW.mono (by simp)))
    ((kF.past hW).cellAt 1 rfl) (by omega) (((hF.below hb1W).more (by omega)).below (hW.mono (by simp))) (hs.2 i hi).1 (namesV_size hs) (Nat.le_trans (namesV_le _ _) hs.1) (fromV_some xs xs.length i hi)

set_option maxHeartbeats 2000000 in
set_option maxRecDepth 100000 in
theorem suspectsIn_ok (B : Nat) (xs : List Lot) (A : Option Addr) (c : Nat) (w : World) (hr : LotsIn B w A xs) (hB : B ≤ w.heap.size) (hs : SmallLots xs) (he : (openLotsV xs).2 = 0) :
    Calls Tryz.prog 27 #[.slice A xs.length c] w (SuspPost xs w) := by
  have ho := openLots_any B xs A c w hr hB hs
  unfold LotsPost at ho
  rw [he] at ho
  have HO := Lib.hid ho
  have HSm := Lib.hid hs
  have HR := Lib.hid hr
  have hm := hs.1
  clear hr hs he ho
  generalize (openLotsV xs).1 = I at *
  go_enter Tryz.func27, Tryz.ntmps27
  go_wp2_with (first
    | (go_at_call 67; go_must (refine HO.out.mono ?_); rintro e w1 ⟨fm, rfl, hF, hb1⟩; have HF := Lib.hid (hF rfl); have HB1 := Lib.hid hb1; clear hF hb1; have hbad := names_bad B xs A c fm badB (w1.alloc (.cells #[.slice A xs.length c, .map (some fm)] 120)) (HR.out.below ((pa HB1.out).mono hB)) (Nat.le_trans hB (pa HB1.out).size) hm (fun i hi W hW A1 c1 => bad1_any _ A1 _ c1 W); have HBad := Lib.hid hbad; clear hbad)
    | (go_at_call 68; (with_reducible refine HSus.out.mono ?_); rintro e w3 ⟨A3, c3, rfl, hrow3, hc3, hb3⟩)
    | (go_at_call 68; go_must (refine HBad.out.mono ?_); rintro e w2 ⟨A2, c2, rfl, hrow2, hc2, hb2⟩; clear HBad; have hsus := susp_names B xs A A2 c c2 fm w w1 w2 HR.out hB HSm.out HB1.out HF.out hb2 hrow2; have HSus := Lib.hid hsus; have kF := (Blk.new w1 120 #[.slice A xs.length c, .map (some fm)]).past hb2; have g0 : w2.cell? ⟨w1.heap.size, 0, none⟩ = some (.slice A xs.length c) := kF.cellAt 0 rfl; have g1 : w2.cell? ⟨w1.heap.size, 1, none⟩ = some (.map (some fm)) := kF.cellAt 1 rfl; have gx := kF.lt; have HB2 := Lib.hid hb2; clear hsus kF hb2 hrow2))
  go_ret2
  exact ⟨A3, c3, rfl, hrow3, hc3, pt (pa (pt (pa HB1.out) HB2.out)) hb3⟩

end Go.Proofs.YtbojmcopagbheaaGreatDoor
