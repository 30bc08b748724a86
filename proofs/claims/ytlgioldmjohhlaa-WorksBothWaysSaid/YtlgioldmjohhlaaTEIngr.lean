/- Contracts: the ingredients and the products of a lot: the program's and the specification's. Names of at most 1000 bytes. -/
import Derived.Test.YtlgioldmjohhlaaTDMember
import Derived.Test.YtlgioldmjohhlaaT9RefSusp
namespace Go.Proofs.Ytlgioldmjohhlaa
open Go.RowKit Go.Maps

def ingredientsV (xs : List Lot) (z : ByteArray) : List ByteArray := namesV (fun x => innerOf (fromV xs xs.length) z x.name) xs
def productsV (xs : List Lot) (z : ByteArray) : List ByteArray := namesV (fun x => innerOf (fromV xs xs.length) x.name z) xs

theorem ingr1_any (fb nb fm B k cap : Nat) (F : Fam) (z : ByteArray) (x : Lot) (A : Option Addr) (n c : Nat) (w : World) (hB : B ≤ w.heap.size) (h1 : w.cell? ⟨fb, 1, none⟩ = some (.map (some fm))) (hfb : fb < B) (h2 : w.cell? ⟨nb, 0, none⟩ = some (.string z)) (hnb : nb < B) (hF : FromIs B w fm F k cap) (hz : z.size ≤ 1000) (hn : x.name.size ≤ 1000) (hin : goneB F z = false) :
    Calls Try.prog 113 #[.agg #[.string x.name, .slice A n c, .int .i64 x.mlo, .int .i64 x.mhi, .int .i64 x.llo, .int .i64 x.lhi], .pointer (some ⟨fb, 0, none⟩), .pointer (some ⟨nb, 0, none⟩)] w fun e w' => e = .returned (.bool (innerOf F z x.name)) ∧ Below w.heap.size w w' := by
  cases h : F z with
  | none => unfold goneB at hin; rw [h] at hin; cases hin
  | some own =>
    have hF1 : FromIs B (w.alloc (.cells #[.string x.name, .slice A n c, .int .i64 x.mlo, .int .i64 x.mhi, .int .i64 x.llo, .int .i64 x.lhi] 61)) fm F k cap := hF.below ((pa pr).mono hB)
    obtain ⟨ib, hl0, hs, _⟩ := hF1.look_some hz h
    have hl := hl0 _ (Below.refl _ _)
    have hl2 := hs.look hn
    have HR := Lib.hid (show innerOf F z x.name = own x.name by unfold innerOf; rw [h]; rfl)
    have hfw : fb < w.heap.size := by omega
    have hnw : nb < w.heap.size := by omega
    clear hF h hl0 hF1 hs hin
    go_enter Try.func113, Try.ntmps113
    go_wp2
    go_ret
    exact ⟨ret_bool HR.out.symm, pa pr⟩

theorem prod1_any (fb nb fm B k cap : Nat) (F : Fam) (z : ByteArray) (x : Lot) (A : Option Addr) (n c : Nat) (w : World) (hB : B ≤ w.heap.size) (h1 : w.cell? ⟨fb, 1, none⟩ = some (.map (some fm))) (hfb : fb < B) (h2 : w.cell? ⟨nb, 0, none⟩ = some (.string z)) (hnb : nb < B) (hF : FromIs B w fm F k cap) (hz : z.size ≤ 1000) (hn : x.name.size ≤ 1000) (hin : goneB F x.name = false) :
    Calls Try.prog 114 #[.agg #[.string x.name, .slice A n c, .int .i64 x.mlo, .int .i64 x.mhi, .int .i64 x.llo, .int .i64 x.lhi], .pointer (some ⟨fb, 0, none⟩), .pointer (some ⟨nb, 0, none⟩)] w fun e w' => e = .returned (.bool (innerOf F x.name z)) ∧ Below w.heap.size w w' := by
  cases h : F x.name with
  | none => unfold goneB at hin; rw [h] at hin; cases hin
  | some own =>
    have hF1 : FromIs B (w.alloc (.cells #[.string x.name, .slice A n c, .int .i64 x.mlo, .int .i64 x.mhi, .int .i64 x.llo, .int .i64 x.lhi] 61)) fm F k cap := hF.below ((pa pr).mono hB)
    obtain ⟨ib, hl0, hs, _⟩ := hF1.look_some hn h
    have hl := hl0 _ (Below.refl _ _)
    have hl2 := hs.look hz
    have HR := Lib.hid (show innerOf F x.name z = own z by unfold innerOf; rw [h]; rfl)
    have hfw : fb < w.heap.size := by omega
    have hnw : nb < w.heap.size := by omega
    clear hF h hl0 hF1 hs hin
    go_enter Try.func114, Try.ntmps114
    go_wp2
    go_ret
    exact ⟨ret_bool HR.out.symm, pa pr⟩

/-- Strings in a slice, and no error. -/
def TextsRet0 (w : World) (ys : List ByteArray) (e : Ending) (w' : World) : Prop :=
  ∃ A c, e = .returned (.tuple #[.slice A ys.length c, .int .i64 0]) ∧ RowIn Value.string w'.heap.size w' A ys ∧ ys.length ≤ c ∧ Below w.heap.size w w'

set_option maxHeartbeats 2000000 in
set_option maxRecDepth 100000 in
theorem ingredients_err (B : Nat) (xs : List Lot) (z : ByteArray) (A : Option Addr) (c : Nat) (w : World) (hr : LotsIn B w A xs) (hB : B ≤ w.heap.size) (hs : SmallLots xs) (hz : z.size ≤ 1000) (he : memberE xs z ≠ 0) :
    Calls Try.prog 53 #[.slice A xs.length c, .string z] w fun e w' => e = .returned (.tuple #[.slice none 0 0, .int .i64 (memberE xs z)]) ∧ Below w.heap.size w w' := by
  have HO := Lib.hid (member_any B xs z A c (w.alloc (.cells #[.string z] 9)) (hr.below ((pa pr).mono hB)) (Nat.le_trans hB (by simp)) hs hz)
  have hne : (memberE xs z != 0) = true := by simpa using he
  clear hr hs he
  unfold MemberPost at HO
  generalize memberE xs z = E at *
  go_enter Try.func53, Try.ntmps53
  go_wp2_with (go_at_call 112; go_must (refine HO.out.mono ?_); rintro e w1 ⟨fm, rfl, _, hb1⟩)
  go_ret2
  exact ⟨rfl, pa (pt (pa pr) hb1)⟩
set_option maxHeartbeats 2000000 in
set_option maxRecDepth 100000 in
theorem products_err (B : Nat) (xs : List Lot) (z : ByteArray) (A : Option Addr) (c : Nat) (w : World) (hr : LotsIn B w A xs) (hB : B ≤ w.heap.size) (hs : SmallLots xs) (hz : z.size ≤ 1000) (he : memberE xs z ≠ 0) :
    Calls Try.prog 54 #[.slice A xs.length c, .string z] w fun e w' => e = .returned (.tuple #[.slice none 0 0, .int .i64 (memberE xs z)]) ∧ Below w.heap.size w w' := by
  have HO := Lib.hid (member_any B xs z A c (w.alloc (.cells #[.string z] 9)) (hr.below ((pa pr).mono hB)) (Nat.le_trans hB (by simp)) hs hz)
  have hne : (memberE xs z != 0) = true := by simpa using he
  clear hr hs he
  unfold MemberPost at HO
  generalize memberE xs z = E at *
  go_enter Try.func54, Try.ntmps54
  go_wp2_with (go_at_call 112; go_must (refine HO.out.mono ?_); rintro e w1 ⟨fm, rfl, _, hb1⟩)
  go_ret2
  exact ⟨rfl, pa (pt (pa pr) hb1)⟩

set_option maxHeartbeats 2000000 in
set_option maxRecDepth 100000 in
theorem ingredients_ok (B : Nat) (xs : List Lot) (z : ByteArray) (A : Option Addr) (c : Nat) (w : World) (hr : LotsIn B w A xs) (hB : B ≤ w.heap.size) (hs : SmallLots xs) (hz : z.size ≤ 1000) (he : memberE xs z = 0) :
    Calls Try.prog 53 #[.slice A xs.length c, .string z] w (TextsRet0 w (ingredientsV xs z)) := by
  have ho := member_any B xs z A c (w.alloc (.cells #[.string z] 9)) (hr.below ((pa pr).mono hB)) (Nat.le_trans hB (by simp)) hs hz
  unfold MemberPost at ho
  rw [he] at ho
  have HO := Lib.hid ho
  have HG := Lib.hid (member_ok he).2.2
  have HSm := Lib.hid hs
  have HR := Lib.hid hr
  have HV := Lib.hid (show ingredientsV xs z = namesV (fun x => innerOf (fromV xs xs.length) z x.name) xs from rfl)
  have hm := hs.1
  clear hr hs he ho
  go_enter Try.func53, Try.ntmps53
  go_wp2_with (first
    | (go_at_call 112; go_must (refine HO.out.mono ?_); rintro e w1 ⟨fm, rfl, hF, hb1⟩; have HF := Lib.hid (hF rfl); have HB1 := Lib.hid hb1; have n0 : w1.cell? ⟨w.heap.size, 0, none⟩ = some (.string z) := ((Blk.newAt (t := 9) (cs := #[.string z]) (w := w) rfl).past hb1).cellAt 0 rfl; have nx : w.heap.size < w1.heap.size := ((Blk.newAt (t := 9) (cs := #[.string z]) (w := w) rfl).past hb1).lt; have N0 := Lib.hid n0; clear hF hb1; have hW := names_from w.heap.size xs A c fm (fun x => innerOf (fromV xs xs.length) z x.name) (.pointer (some ⟨w1.heap.size, 0, none⟩)) (.pointer (some ⟨w.heap.size, 0, none⟩)) (w1.alloc (.cells #[.slice A xs.length c, .map (some fm)] 129)) ((HR.out.more hB).below (pa (pt (pa pr) HB1.out))) (pa (pt (pa pr) HB1.out)).size hm (fun i hi W hW A1 c1 => ingr1_any w1.heap.size w.heap.size fm (w1.heap.size + 1) xs.length (capV xs.length) _ z _ A1 _ c1 W (by have := hW.size; simpa using this) (((Blk.new w1 129 #[.slice A xs.length c, .map (some fm)]).past hW).cellAt 1 rfl) (by omega) (((bcell (Below.mono hW (show w1.heap.size + 1 ≤ _ by simp))).1 w.heap.size 0 (by omega)).trans (((bcell ((pa pr) : Below w1.heap.size w1 (w1.alloc (.cells #[.slice A xs.length c, .map (some fm)] 129)))).1 w.heap.size 0 nx).trans N0.out)) (by omega) (((HF.out.below (pa pr)).more (by omega)).below (hW.mono (by simp))) hz (HSm.out.2 i hi).1 HG.out); have HW := Lib.hid hW; clear hW)
    | (go_at_call 96; go_must (refine HW.out.mono ?_); rintro e w3 ⟨A3, c3, rfl, hrow3, hc3, hb3⟩))
  go_ret2
  exact ⟨A3, c3, rfl, hrow3, hc3, pt (pa (pt (pa pr) HB1.out)) hb3⟩

set_option maxHeartbeats 2000000 in
set_option maxRecDepth 100000 in
theorem products_ok (B : Nat) (xs : List Lot) (z : ByteArray) (A : Option Addr) (c : Nat) (w : World) (hr : LotsIn B w A xs) (hB : B ≤ w.heap.size) (hs : SmallLots xs) (hz : z.size ≤ 1000) (he : memberE xs z = 0) :
    Calls Try.prog 54 #[.slice A xs.length c, .string z] w (TextsRet0 w (productsV xs z)) := by
  have ho := member_any B xs z A c (w.alloc (.cells #[.string z] 9)) (hr.below ((pa pr).mono hB)) (Nat.le_trans hB (by simp)) hs hz
  unfold MemberPost at ho
  rw [he] at ho
  have HO := Lib.hid ho
  have HSm := Lib.hid hs
  have HR := Lib.hid hr
  have HV := Lib.hid (show productsV xs z = namesV (fun x => innerOf (fromV xs xs.length) x.name z) xs from rfl)
  have hm := hs.1
  clear hr hs he ho
  go_enter Try.func54, Try.ntmps54
  go_wp2_with (first
    | (go_at_call 112; go_must (refine HO.out.mono ?_); rintro e w1 ⟨fm, rfl, hF, hb1⟩; have HF := Lib.hid (hF rfl); have HB1 := Lib.hid hb1; have n0 : w1.cell? ⟨w.heap.size, 0, none⟩ = some (.string z) := ((Blk.newAt (t := 9) (cs := #[.string z]) (w := w) rfl).past hb1).cellAt 0 rfl; have nx : w.heap.size < w1.heap.size := ((Blk.newAt (t := 9) (cs := #[.string z]) (w := w) rfl).past hb1).lt; have N0 := Lib.hid n0; clear hF hb1; have hW := names_to w.heap.size xs A c fm (fun x => innerOf (fromV xs xs.length) x.name z) (.pointer (some ⟨w1.heap.size, 0, none⟩)) (.pointer (some ⟨w.heap.size, 0, none⟩)) (w1.alloc (.cells #[.slice A xs.length c, .map (some fm)] 129)) ((HR.out.more hB).below (pa (pt (pa pr) HB1.out))) (pa (pt (pa pr) HB1.out)).size hm (fun i hi W hW A1 c1 => prod1_any w1.heap.size w.heap.size fm (w1.heap.size + 1) xs.length (capV xs.length) _ z _ A1 _ c1 W (by have := hW.size; simpa using this) (((Blk.new w1 129 #[.slice A xs.length c, .map (some fm)]).past hW).cellAt 1 rfl) (by omega) (((bcell (Below.mono hW (show w1.heap.size + 1 ≤ _ by simp))).1 w.heap.size 0 (by omega)).trans (((bcell ((pa pr) : Below w1.heap.size w1 (w1.alloc (.cells #[.slice A xs.length c, .map (some fm)] 129)))).1 w.heap.size 0 nx).trans N0.out)) (by omega) (((HF.out.below (pa pr)).more (by omega)).below (hW.mono (by simp))) hz (HSm.out.2 i hi).1 (fromV_some xs xs.length i hi)); have HW := Lib.hid hW; clear hW)
    | (go_at_call 96; go_must (refine HW.out.mono ?_); rintro e w3 ⟨A3, c3, rfl, hrow3, hc3, hb3⟩))
  go_ret2
  exact ⟨A3, c3, rfl, hrow3, hc3, pt (pa (pt (pa pr) HB1.out)) hb3⟩

end Go.Proofs.Ytlgioldmjohhlaa
