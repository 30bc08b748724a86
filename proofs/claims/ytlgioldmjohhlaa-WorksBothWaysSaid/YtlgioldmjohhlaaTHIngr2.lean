/- Contracts: the ingredients and the products of a lot, as rows of strings in blocks of their own. Names of at most 1000 bytes. -/
import Derived.Test.YtlgioldmjohhlaaTEIngr
import Derived.Deep.RegionHeld3
namespace Go.Proofs.Ytlgioldmjohhlaa
open Go.RowKit Go.Maps

def NamesPost2 (p : Lot → Bool) (xs : List Lot) (w : World) (e : Ending) (w' : World) : Prop :=
  ∃ A c, e = .returned (.slice A (namesV p xs).length c) ∧ TextRow w' A (namesV p xs) ∧ (namesV p xs).length ≤ c ∧ Below w.heap.size w w'

set_option maxHeartbeats 1000000 in
set_option maxRecDepth 100000 in
theorem names2_from (B : Nat) (xs : List Lot) (A : Option Addr) (c fm : Nat) (p : Lot → Bool) (q1 q2 : Value) (w : World) (hr : LotsIn B w A xs) (hB : B ≤ w.heap.size) (hm : xs.length ≤ 1000)
    (hcb : ∀ i, i < xs.length → ∀ W, Below w.heap.size w W → ∀ A1 c1, Calls Try.prog 113 #[.agg #[.string (xs.getD i default).name, .slice A1 (xs.getD i default).made.length c1, .int .i64 (xs.getD i default).mlo, .int .i64 (xs.getD i default).mhi, .int .i64 (xs.getD i default).llo, .int .i64 (xs.getD i default).lhi], q1, q2] W fun e W' => e = .returned (.bool (p (xs.getD i default))) ∧ Below W.heap.size W W') :
    Calls Try.prog 96 #[.agg #[.slice A xs.length c, .map (some fm)], .func (.func 113) #[] #[q1, q2]] w (NamesPost2 p xs w) := by
  obtain ⟨i0, hi0, hz0, hz1, hz2⟩ := info_parts string_info
  have HR := Lib.hid hr
  have HCB := Lib.hid hcb
  clear hr hcb
  go_enter Try.func96, Try.ntmps96
  go_wp2
  go_loopw [5, 11] (fun ov ix wr => ∃ (i : Nat) (A' : Option Addr) (c' : Nat), ov = .slice A' (namesV p (xs.take i)).length c' ∧ ix = .int .i64 (i : Int) ∧ i ≤ xs.length ∧ wr.ownsRow w.heap.size 9 1 (.slice A' (namesV p (xs.take i)).length c') (namesV p (xs.take i)).length ((namesV p (xs.take i)).map Value.string) ∧ Below w.heap.size w wr) (fun _ ix _ => xs.length - (intOf ix).toNat)
  case atStart => exact ⟨0, none, 0, rfl, rfl, Nat.zero_le _, ⟨by simp [namesV], .inl ⟨by simp [namesV], by simp [namesV]⟩⟩, pa pr⟩
  case round =>
    obtain ⟨i, A', c', rfl, rfl, hi, hown, hq⟩ := hrel
    by_cases hlt : i < xs.length
    · obtain ⟨b, off, hA, hbB, hct⟩ := (HR.out.below (hq.mono hB)).at_ hlt
      subst hA
      obtain ⟨t0, A3, c3, t1, _, _, t2, t3, t4, t5⟩ := hct i hlt
      have hbw := Nat.lt_of_lt_of_le hbB (Nat.le_trans hB hq.size)
      have n0 : (0 : Int) ≤ (i : Int) := by omega
      have n1 : (i : Int) < (xs.length : Int) := by omega
      have hcall := HCB.out i hlt (wr.alloc (.cells #[.string (xs.getD i default).name, .slice A3 (xs.getD i default).made.length c3, .int .i64 (xs.getD i default).mlo, .int .i64 (xs.getD i default).mhi, .int .i64 (xs.getD i default).llo, .int .i64 (xs.getD i default).lhi] 61)) (pa hq) A3 c3
      have hstep := namesV_succ p xs i hlt
      have hlen := namesV_len p xs i
      have hlen' : (namesV p (xs.take i)).length ≤ 1000 := by omega
      generalize namesV p (xs.take i) = ys at *
      generalize xs.getD i default = x at *
      have HOwn := Lib.hid hown
      clear hown hct
      cases hp : p x with
      | false =>
        rw [hp] at hcall hstep
        have HCall := Lib.hid hcall
        have HStep := Lib.hid (show namesV p (xs.take (i + 1)) = ys by rw [hstep]; simp)
        clear hcall hstep hp
        go_wp2_with (go_at_call 113; go_must (refine HCall.out.mono ?_); rintro e w1 ⟨rfl, hb1⟩)
        go_roundw
        case rel => exact ⟨i + 1, A', c', by rw [HStep.out], by go_num, by omega, by rw [HStep.out]; exact ownsRow_past (pt (pa pr) hb1) HOwn.out, pt (pa hq) hb1⟩
        case measure => simp [intOf]; omega
      | true =>
        rw [hp] at hcall hstep
        have HCall := Lib.hid hcall
        have HStep := Lib.hid (show namesV p (xs.take (i + 1)) = ys ++ [x.name] by rw [hstep]; simp)
        clear hcall hstep hp
        have hq1 := Lib.hid (pa (o := .cells #[.string x.name, .slice A3 x.made.length c3, .int .i64 x.mlo, .int .i64 x.mhi, .int .i64 x.llo, .int .i64 x.lhi] 61) hq)
        go_wp2_with (first
          | (go_at_call 113; go_must (refine HCall.out.mono ?_); rintro e w1 ⟨rfl, hb1⟩; have bT := (Blk.new wr 61 #[.string x.name, .slice A3 x.made.length c3, .int .i64 x.mlo, .int .i64 x.mhi, .int .i64 x.llo, .int .i64 x.lhi]).past hb1; have b0 := bT.cellAt 0 rfl; have bx := bT.lt; have hq2 := pt hq1.out hb1; have hsz := hq2.size; have HO := Lib.hid ((ownsRow_past (pt (pa pr) hb1) HOwn.out).alloc (.cells #[.string x.name] 9)); have HC := Lib.hid (cellsIn_new w1 9 (.string x.name)))
          | (at_builtin; go_must (refine wpList_append_cells _ rfl (.tmp 18) (.tmp 21) _ rfl w.heap.size 9 i0 _ 1 16 Try.underlying53 hi0 hz0 hz1 hz2 rfl (by omega) _ ys.length _ rfl HO.out (w1.heap.size + 1) (some ⟨w1.heap.size, 0, none⟩) 1 1 _ rfl HC.out rfl (by simp [Value.oneCell']) (by simp only [maxLen]; omega) (by omega) (by simp; omega) ?_); intro v3 w3 hown3 hg3 hat3; obtain ⟨A3', c3', rfl, hc3', hm3⟩ := own_form hown3))
        have hb3 : Below w.heap.size w w3 := pg (pa hq2) HO.out (Nat.le_refl _) hg3
        have HOwn3 := Lib.hid hown3
        clear hown3 hg3 hat3 bT b0
        go_roundw
        case rel => exact ⟨i + 1, A3', c3', by rw [HStep.out]; simp, by go_num, by omega, by rw [HStep.out]; simpa using HOwn3.out, hb3⟩
        case measure => simp [intOf]; omega
    · have hie : i = xs.length := by omega
      subst hie
      rw [List.take_length] at hown ⊢
      have hrow := textRow_of_own hown
      obtain ⟨A2, c2, hv, hcap, _⟩ := own_form hown
      have HRow := Lib.hid hrow
      have HCap := Lib.hid (show (namesV p xs).length ≤ c' by injection hv with _ _ h; omega)
      clear hown hrow hv
      go_wp2
      go_ret
      exact ⟨A', c', rfl, HRow.out, HCap.out, hq⟩
set_option maxHeartbeats 1000000 in
set_option maxRecDepth 100000 in
theorem names2_to (B : Nat) (xs : List Lot) (A : Option Addr) (c fm : Nat) (p : Lot → Bool) (q1 q2 : Value) (w : World) (hr : LotsIn B w A xs) (hB : B ≤ w.heap.size) (hm : xs.length ≤ 1000)
    (hcb : ∀ i, i < xs.length → ∀ W, Below w.heap.size w W → ∀ A1 c1, Calls Try.prog 114 #[.agg #[.string (xs.getD i default).name, .slice A1 (xs.getD i default).made.length c1, .int .i64 (xs.getD i default).mlo, .int .i64 (xs.getD i default).mhi, .int .i64 (xs.getD i default).llo, .int .i64 (xs.getD i default).lhi], q1, q2] W fun e W' => e = .returned (.bool (p (xs.getD i default))) ∧ Below W.heap.size W W') :
    Calls Try.prog 96 #[.agg #[.slice A xs.length c, .map (some fm)], .func (.func 114) #[] #[q1, q2]] w (NamesPost2 p xs w) := by
  obtain ⟨i0, hi0, hz0, hz1, hz2⟩ := info_parts string_info
  have HR := Lib.hid hr
  have HCB := Lib.hid hcb
  clear hr hcb
  go_enter Try.func96, Try.ntmps96
  go_wp2
  go_loopw [5, 11] (fun ov ix wr => ∃ (i : Nat) (A' : Option Addr) (c' : Nat), ov = .slice A' (namesV p (xs.take i)).length c' ∧ ix = .int .i64 (i : Int) ∧ i ≤ xs.length ∧ wr.ownsRow w.heap.size 9 1 (.slice A' (namesV p (xs.take i)).length c') (namesV p (xs.take i)).length ((namesV p (xs.take i)).map Value.string) ∧ Below w.heap.size w wr) (fun _ ix _ => xs.length - (intOf ix).toNat)
  case atStart => exact ⟨0, none, 0, rfl, rfl, Nat.zero_le _, ⟨by simp [namesV], .inl ⟨by simp [namesV], by simp [namesV]⟩⟩, pa pr⟩
  case round =>
    obtain ⟨i, A', c', rfl, rfl, hi, hown, hq⟩ := hrel
    by_cases hlt : i < xs.length
    · obtain ⟨b, off, hA, hbB, hct⟩ := (HR.out.below (hq.mono hB)).at_ hlt
      subst hA
      obtain ⟨t0, A3, c3, t1, _, _, t2, t3, t4, t5⟩ := hct i hlt
      have hbw := Nat.lt_of_lt_of_le hbB (Nat.le_trans hB hq.size)
      have n0 : (0 : Int) ≤ (i : Int) := by omega
      have n1 : (i : Int) < (xs.length : Int) := by omega
      have hcall := HCB.out i hlt (wr.alloc (.cells #[.string (xs.getD i default).name, .slice A3 (xs.getD i default).made.length c3, .int .i64 (xs.getD i default).mlo, .int .i64 (xs.getD i default).mhi, .int .i64 (xs.getD i default).llo, .int .i64 (xs.getD i default).lhi] 61)) (pa hq) A3 c3
      have hstep := namesV_succ p xs i hlt
      have hlen := namesV_len p xs i
      have hlen' : (namesV p (xs.take i)).length ≤ 1000 := by omega
      generalize namesV p (xs.take i) = ys at *
      generalize xs.getD i default = x at *
      have HOwn := Lib.hid hown
      clear hown hct
      cases hp : p x with
      | false =>
        rw [hp] at hcall hstep
        have HCall := Lib.hid hcall
        have HStep := Lib.hid (show namesV p (xs.take (i + 1)) = ys by rw [hstep]; simp)
        clear hcall hstep hp
        go_wp2_with (go_at_call 114; go_must (refine HCall.out.mono ?_); rintro e w1 ⟨rfl, hb1⟩)
        go_roundw
        case rel => exact ⟨i + 1, A', c', by rw [HStep.out], by go_num, by omega, by rw [HStep.out]; exact ownsRow_past (pt (pa pr) hb1) HOwn.out, pt (pa hq) hb1⟩
        case measure => simp [intOf]; omega
      | true =>
        rw [hp] at hcall hstep
        have HCall := Lib.hid hcall
        have HStep := Lib.hid (show namesV p (xs.take (i + 1)) = ys ++ [x.name] by rw [hstep]; simp)
        clear hcall hstep hp
        have hq1 := Lib.hid (pa (o := .cells #[.string x.name, .slice A3 x.made.length c3, .int .i64 x.mlo, .int .i64 x.mhi, .int .i64 x.llo, .int .i64 x.lhi] 61) hq)
        go_wp2_with (first
          | (go_at_call 114; go_must (refine HCall.out.mono ?_); rintro e w1 ⟨rfl, hb1⟩; have bT := (Blk.new wr 61 #[.string x.name, .slice A3 x.made.length c3, .int .i64 x.mlo, .int .i64 x.mhi, .int .i64 x.llo, .int .i64 x.lhi]).past hb1; have b0 := bT.cellAt 0 rfl; have bx := bT.lt; have hq2 := pt hq1.out hb1; have hsz := hq2.size; have HO := Lib.hid ((ownsRow_past (pt (pa pr) hb1) HOwn.out).alloc (.cells #[.string x.name] 9)); have HC := Lib.hid (cellsIn_new w1 9 (.string x.name)))
          | (at_builtin; go_must (refine wpList_append_cells _ rfl (.tmp 18) (.tmp 21) _ rfl w.heap.size 9 i0 _ 1 16 Try.underlying53 hi0 hz0 hz1 hz2 rfl (by omega) _ ys.length _ rfl HO.out (w1.heap.size + 1) (some ⟨w1.heap.size, 0, none⟩) 1 1 _ rfl HC.out rfl (by simp [Value.oneCell']) (by simp only [maxLen]; omega) (by omega) (by simp; omega) ?_); intro v3 w3 hown3 hg3 hat3; obtain ⟨A3', c3', rfl, hc3', hm3⟩ := own_form hown3))
        have hb3 : Below w.heap.size w w3 := pg (pa hq2) HO.out (Nat.le_refl _) hg3
        have HOwn3 := Lib.hid hown3
        clear hown3 hg3 hat3 bT b0
        go_roundw
        case rel => exact ⟨i + 1, A3', c3', by rw [HStep.out]; simp, by go_num, by omega, by rw [HStep.out]; simpa using HOwn3.out, hb3⟩
        case measure => simp [intOf]; omega
    · have hie : i = xs.length := by omega
      subst hie
      rw [List.take_length] at hown ⊢
      have hrow := textRow_of_own hown
      obtain ⟨A2, c2, hv, hcap, _⟩ := own_form hown
      have HRow := Lib.hid hrow
      have HCap := Lib.hid (show (namesV p xs).length ≤ c' by injection hv with _ _ h; omega)
      clear hown hrow hv
      go_wp2
      go_ret
      exact ⟨A', c', rfl, HRow.out, HCap.out, hq⟩


def TextsRet2 (w : World) (ys : List ByteArray) (e : Ending) (w' : World) : Prop :=
  ∃ A c, e = .returned (.tuple #[.slice A ys.length c, .int .i64 0]) ∧ TextRow w' A ys ∧ ys.length ≤ c ∧ Below w.heap.size w w'

set_option maxHeartbeats 2000000 in
set_option maxRecDepth 100000 in
theorem ingredients_ok2 (B : Nat) (xs : List Lot) (z : ByteArray) (A : Option Addr) (c : Nat) (w : World) (hr : LotsIn B w A xs) (hB : B ≤ w.heap.size) (hs : SmallLots xs) (hz : z.size ≤ 1000) (he : memberE xs z = 0) :
    Calls Try.prog 53 #[.slice A xs.length c, .string z] w (TextsRet2 w (ingredientsV xs z)) := by
  have ho := member_any B xs z A c (w.alloc (.cells #[.string z] 9)) (hr.below ((pa pr).mono hB)) (Nat.le_trans hB (by simp)) hs hz
  unfold MemberPost at ho
  rw [he] at ho
  have HO := Lib.hid ho
  have HG := Lib.hid (member_ok he).2.2
  have HSm := Lib.hid hs
  have HR := Lib.hid hr
  have HV := Lib.hid (show ingredientsV xs z = namesV (fun x => innerOf (fromV xs xs.length) z x.name) xs from rfl)
  have hm := hs.1
  clear hr hs he ho
  go_enter Try.func53, Try.ntmps53
  go_wp2_with (first
    | (go_at_call 112; go_must (refine HO.out.mono ?_); rintro e w1 ⟨fm, rfl, hF, hb1⟩; have HF := Lib.hid (hF rfl); have HB1 := Lib.hid hb1; have n0 : w1.cell? ⟨w.heap.size, 0, none⟩ = some (.string z) := ((Blk.newAt (t := 9) (cs := #[.string z]) (w := w) rfl).past hb1).cellAt 0 rfl; have nx : w.heap.size < w1.heap.size := ((Blk.newAt (t := 9) (cs := #[.string z]) (w := w) rfl).past hb1).lt; have N0 := Lib.hid n0; clear hF hb1; have hW := names2_from w.heap.size xs A c fm (fun x => innerOf (fromV xs xs.length) z x.name) (.pointer (some ⟨w1.heap.size, 0, none⟩)) (.pointer (some ⟨w.heap.size, 0, none⟩)) (w1.alloc (.cells #[.slice A xs.length c, .map (some fm)] 129)) ((HR.out.more hB).below (pa (pt (pa pr) HB1.out))) (pa (pt (pa pr) HB1.out)).size hm (fun i hi W hW A1 c1 => ingr1_any w1.heap.size w.heap.size fm (w1.heap.size + 1) xs.length (capV xs.length) _ z _ A1 _ c1 W (by have := hW.size; simpa using this) (((Blk.new w1 129 #[.slice A xs.length c, .map (some fm)]).past hW).cellAt 1 rfl) (by omega) (((bcell (Below.mono hW (show w1.heap.size + 1 ≤ _ by simp))).1 w.heap.size 0 (by omega)).trans (((bcell ((pa pr) : Below w1.heap.size w1 (w1.alloc (.cells #[.slice A xs.length c, .map (some fm)] 129)))).1 w.heap.size 0 nx).trans N0.out)) (by omega) (((HF.out.below (pa pr)).more (by omega)).below (hW.mono (by simp))) hz (HSm.out.2 i hi).1 HG.out); have HW := Lib.hid hW; clear hW)
    | (go_at_call 96; go_must (refine HW.out.mono ?_); rintro e w3 ⟨A3, c3, rfl, hrow3, hc3, hb3⟩))
  go_ret2
  exact ⟨A3, c3, rfl, hrow3, hc3, pt (pa (pt (pa pr) HB1.out)) hb3⟩

set_option maxHeartbeats 2000000 in
set_option maxRecDepth 100000 in
theorem products_ok2 (B : Nat) (xs : List Lot) (z : ByteArray) (A : Option Addr) (c : Nat) (w : World) (hr : LotsIn B w A xs) (hB : B ≤ w.heap.size) (hs : SmallLots xs) (hz : z.size ≤ 1000) (he : memberE xs z = 0) :
    Calls Try.prog 54 #[.slice A xs.length c, .string z] w (TextsRet2 w (productsV xs z)) := by
  have ho := member_any B xs z A c (w.alloc (.cells #[.string z] 9)) (hr.below ((pa pr).mono hB)) (Nat.le_trans hB (by simp)) hs hz
  unfold MemberPost at ho
  rw [he] at ho
  have HO := Lib.hid ho
  have HSm := Lib.hid hs
  have HR := Lib.hid hr
  have HV := Lib.hid (show productsV xs z = namesV (fun x => innerOf (fromV xs xs.length) x.name z) xs from rfl)
  have hm := hs.1
  clear hr hs he ho
  go_enter Try.func54, Try.ntmps54
  go_wp2_with (first
    | (go_at_call 112; go_must (refine HO.out.mono ?_); rintro e w1 ⟨fm, rfl, hF, hb1⟩; have HF := Lib.hid (hF rfl); have HB1 := Lib.hid hb1; have n0 : w1.cell? ⟨w.heap.size, 0, none⟩ = some (.string z) := ((Blk.newAt (t := 9) (cs := #[.string z]) (w := w) rfl).past hb1).cellAt 0 rfl; have nx : w.heap.size < w1.heap.size := ((Blk.newAt (t := 9) (cs := #[.string z]) (w := w) rfl).past hb1).lt; have N0 := Lib.hid n0; clear hF hb1; have hW := names2_to w.heap.size xs A c fm (fun x => innerOf (fromV xs xs.length) x.name z) (.pointer (some ⟨w1.heap.size, 0, none⟩)) (.pointer (some ⟨w.heap.size, 0, none⟩)) (w1.alloc (.cells #[.slice A xs.length c, .map (some fm)] 129)) ((HR.out.more hB).below (pa (pt (pa pr) HB1.out))) (pa (pt (pa pr) HB1.out)).size hm (fun i hi W hW A1 c1 => prod1_any w1.heap.size w.heap.size fm (w1.heap.size + 1) xs.length (capV xs.length) _ z _ A1 _ c1 W (by have := hW.size; simpa using this) (((Blk.new w1 129 #[.slice A xs.length c, .map (some fm)]).past hW).cellAt 1 rfl) (by omega) (((bcell (Below.mono hW (show w1.heap.size + 1 ≤ _ by simp))).1 w.heap.size 0 (by omega)).trans (((bcell ((pa pr) : Below w1.heap.size w1 (w1.alloc (.cells #[.slice A xs.length c, .map (some fm)] 129)))).1 w.heap.size 0 nx).trans N0.out)) (by omega) (((HF.out.below (pa pr)).more (by omega)).below (hW.mono (by simp))) hz (HSm.out.2 i hi).1 (fromV_some xs xs.length i hi)); have HW := Lib.hid hW; clear hW)
    | (go_at_call 96; go_must (refine HW.out.mono ?_); rintro e w3 ⟨A3, c3, rfl, hrow3, hc3, hb3⟩))
  go_ret2
  exact ⟨A3, c3, rfl, hrow3, hc3, pt (pa (pt (pa pr) HB1.out)) hb3⟩

end Go.Proofs.Ytlgioldmjohhlaa
