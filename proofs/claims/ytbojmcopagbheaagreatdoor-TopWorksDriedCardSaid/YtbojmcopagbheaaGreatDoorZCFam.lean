/- Contracts: the names of the lots for which a condition holds; the conditions. Lengths at most 1000. -/
import Derived.Test.YtbojmcopagbheaaGreatDoorZBMaps
import Derived.Test.YtbojmcopagbheaaGreatDoorZBAccept
import Derived.Deep.RegionHeld3
namespace Go.Proofs.YtbojmcopagbheaaGreatDoor
open Go.RowKit

/-- A lot lies in block b from offset o on. -/
def LotAt (B : Nat) (w : World) (b o : Nat) (x : Lot) : Prop :=
  w.cell? ⟨b, o, none⟩ = some (.string x.name) ∧ ∃ A c, w.cell? ⟨b, o + 1, none⟩ = some (.slice A x.made.length c) ∧ RowIn Value.string B w A x.made ∧ x.made.length ≤ c ∧
    w.cell? ⟨b, o + 2, none⟩ = some (.int .i64 x.mlo) ∧ w.cell? ⟨b, o + 3, none⟩ = some (.int .i64 x.mhi) ∧ w.cell? ⟨b, o + 4, none⟩ = some (.int .i64 x.llo) ∧ w.cell? ⟨b, o + 5, none⟩ = some (.int .i64 x.lhi)
def LotsIn (B : Nat) (w : World) (A : Option Addr) (xs : List Lot) : Prop :=
  xs = [] ∨ ∃ b off, A = some ⟨b, off, none⟩ ∧ b < B ∧ ∀ i, i < xs.length → LotAt B w b (off + i * 6) (xs.getD i default)

theorem LotAt.keep {B : Nat} {w w' : World} {b o : Nat} {x : Lot} (h : LotAt B w b o x) (hb : b < B) (hk : ∀ b o, b < B → w'.cell? ⟨b, o, none⟩ = w.cell? ⟨b, o, none⟩) : LotAt B w' b o x := by
  obtain ⟨h0, A, c, h1, h2, h3, h4, h5, h6, h7⟩ := h
  exact ⟨(hk _ _ hb).trans h0, A, c, (hk _ _ hb).trans h1, h2.keep hk, h3, (hk _ _ hb).trans h4, (hk _ _ hb).trans h5, (hk _ _ hb).trans h6, (hk _ _ hb).trans h7⟩
theorem LotsIn.keep {B : Nat} {w w' : World} {A : Option Addr} {xs : List Lot} (h : LotsIn B w A xs) (hk : ∀ b o, b < B → w'.cell? ⟨b, o, none⟩ = w.cell? ⟨b, o, none⟩) : LotsIn B w' A xs := by
  rcases h with h | ⟨b, off, hA, hb, hc⟩
  · exact .inl h
  · exact .inr ⟨b, off, hA, hb, fun i hi => (hc i hi).keep hb hk⟩
theorem LotsIn.below {B : Nat} {w w' : World} {A : Option Addr} {xs : List Lot} (h : LotsIn B w A xs) (hb : Below B w w') : LotsIn B w' A xs := h.keep (bcell hb).1
theorem LotAt.more {B B' : Nat} {w : World} {b o : Nat} {x : Lot} (h : LotAt B w b o x) (hB : B ≤ B') : LotAt B' w b o x := by
  obtain ⟨h0, A, c, h1, h2, h3, h4, h5, h6, h7⟩ := h
  exact ⟨h0, A, c, h1, h2.more hB, h3, h4, h5, h6, h7⟩
theorem LotsIn.more {B B' : Nat} {w : World} {A : Option Addr} {xs : List Lot} (h : LotsIn B w A xs) (hB : B ≤ B') : LotsIn B' w A xs := by
  rcases h with h | ⟨b, off, hA, hb, hc⟩
  · exact .inl h
  · exact .inr ⟨b, off, hA, by omega, fun i hi => (hc i hi).more hB⟩
theorem LotsIn.at_ {B : Nat} {w : World} {A : Option Addr} {xs : List Lot} {k : Nat} (h : LotsIn B w A xs) (hk : k < xs.length) : ∃ b off, A = some ⟨b, off, none⟩ ∧ b < B ∧ ∀ i, i < xs.length → LotAt B w b (off + i * 6) (xs.getD i default) := by
  rcases h with h | h
  · subst h; simp at hk
  · exact h

/-- The names of the lots for which p holds. -/
def namesV (p : Lot → Bool) (xs : List Lot) : List ByteArray := (xs.filter p).map (·.name)
theorem namesV_succ (p : Lot → Bool) (xs : List Lot) (i : Nat) (h : i < xs.length) : namesV p (xs.take (i + 1)) = namesV p (xs.take i) ++ if p (xs.getD i default) then [(xs.getD i default).name] else [] := by
  unfold namesV
  have e : xs.getD i default = xs[i] := by simp [List.getD, h]
  rw [List.take_succ_eq_append_getElem h, List.filter_append, List.map_append, e]
  cases hp : p xs[i] <;> simp [hp]
theorem namesV_len (p : Lot → Bool) (xs : List Lot) (i : Nat) : (namesV p (xs.take i)).length ≤ i := by
  unfold namesV
  rw [List.length_map]
  have h1 := List.length_filter_le p (xs.take i)
  have h2 := List.length_take_le i xs
  omega

def NamesPost (p : Lot → Bool) (xs : List Lot) (w : World) (e : Ending) (w' : World) : Prop :=
  ∃ A c, e = .returned (.slice A (namesV p xs).length c) ∧ RowIn Value.string w'.heap.size w' A (namesV p xs) ∧ (namesV p xs).length ≤ c ∧ Below w.heap.size w w'

theorem rowS_of_own {w : World} {base : Nat} {e : TypeId} {n c : Nat} {A : Option Addr} {xs : List ByteArray} (h : w.ownsRow base e 1 (.slice A n c) n (xs.map Value.string)) : RowIn Value.string w.heap.size w A xs := by
  rcases cellsIn_of_own h with h | ⟨b, off, hA, hb, hc⟩
  · exact .inl (by simpa using h)
  · exact .inr ⟨b, off, hA, hb, fun j hj => by
      rw [hc j (by simpa using hj)]
      simp [List.getD, hj]⟩

theorem grown_of_below {a w : World} (h : Below a.heap.size a w) (row : Option Nat) : a.grownBy w row := ⟨h.os, h.tape, h.output, h.size, fun i hi _ => h.block i hi⟩
theorem ownsRow_past {w w' : World} {base : Nat} {e : TypeId} {size n : Nat} {v : Value} {xs : List Value} (hb : Below w.heap.size w w') (h : w.ownsRow base e size v n xs) : w'.ownsRow base e size v n xs :=
  h.kept (grown_of_below hb none) (by cases v.ownBlock <;> simp)
theorem cellsIn_new (w : World) (t : TypeId) (v : Value) : CellsIn (w.heap.size + 1) (w.alloc (.cells #[v] t)) (some ⟨w.heap.size, 0, none⟩) [v] := .inr ⟨w.heap.size, 0, rfl, by omega, fun q hq => by
  obtain rfl : q = 0 := by simp at hq; omega
  exact (Blk.new w t #[v]).cellAt 0 rfl⟩

theorem string_info : (Tryz.prog.info? 9).map (fun i => (i.zero, i.size, i.bytes)) = some (some (.string ByteArray.empty), 1, 16) := by kernel_rfl

set_option maxHeartbeats 1000000 in
set_option maxRecDepth 100000 in
theorem names_bad (B : Nat) (xs : List Lot) (A : Option Addr) (c fm : Nat) (p : Lot → Bool)  (w : World) (hr : LotsIn B w A xs) (hB : B ≤ w.heap.size) (hm : xs.length ≤ 1000)
    (hcb : ∀ i, i < xs.length → ∀ W, Below w.heap.size w W → ∀ A1 c1, Calls Tryz.prog 69 #[.agg #[.string (xs.getD i default).name, .slice A1 (xs.getD i default).made.length c1, .int .i64 (xs.getD i default).mlo, .int .i64 (xs.getD i default).mhi, .int .i64 (xs.getD i default).llo, .int .i64 (xs.getD i default).lhi]] W fun e W' => e = .returned (.bool (p (xs.getD i default))) ∧ Below W.heap.size W W') :
    Calls Tryz.prog 68 #[.agg #[.slice A xs.length c, .map (some fm)], .func (.func 69) #[] #[]] w (NamesPost p xs w) := by
  obtain ⟨i0, hi0, hz0, hz1, hz2⟩ := info_parts string_info
  have HR := Lib.hid hr
  have HCB := Lib.hid hcb
  clear hr hcb
  go_enter Tryz.func68, Tryz.ntmps68
  go_wp2
  go_loopw [5, 11] (fun ov ix wr => ∃ (i : Nat) (A' : Option Addr) (c' : Nat), ov = .slice A' (namesV p (xs.take i)).length c' ∧ ix = .int .i64 (i : Int) ∧ i ≤ xs.length ∧ wr.ownsRow w.heap.size 9 1 (.slice A' (namesV p (xs.take i)).length c') (namesV p (xs.take i)).length ((namesV p (xs.take i)).map Value.string) ∧ Below w.heap.size w wr) (fun _ ix _ => xs.length - (intOf ix).toNat)
  case atStart => exact ⟨0, none, 0, rfl, rfl, Nat.zero_le _, ⟨by simp [namesV], .inl ⟨by simp [namesV], by simp [namesV]⟩⟩, pa pr⟩
  case round =>
    obtain ⟨i, A', c', rfl, rfl, hi, hown, hq⟩ := hrel
    by_cases hlt : i < xs.length
    · obtain ⟨b, off, hA, hbB, hct⟩ := (HR.out.below (hq.mono hB)).at_ hlt
      subst hA
      obtain ⟨t0, A3, c3, t1, _, _, t2, t3, t4, t5⟩ := hct i hlt
      have hbw := Nat.lt_of_lt_of_le hbB (Nat.le_trans hB hq.size)
      have n0 : (0 : Int) ≤ (i : Int) := by omega
      have n1 : (i : Int) < (xs.length : Int) := by omega
      have hcall := HCB.out i hlt (wr.alloc (.cells #[.string (xs.getD i default).name, .slice A3 (xs.getD i default).made.length c3, .int .i64 (xs.getD i default).mlo, .int .i64 (xs.getD i default).mhi, .int .i64 (xs.getD i default).llo, .int .i64 (xs.getD i default).lhi] 58)) (pa hq) A3 c3
      have hstep := namesV_succ p xs i hlt
      have hlen := namesV_len p xs i
      have hlen' : (namesV p (xs.take i)).length ≤ 1000 := by omega
      generalize namesV p (xs.take i) = ys at *
      generalize xs.getD i default = x at *
      have HOwn := Lib.hid hown
      clear hown hct
      cases hp : p x with
      | false =>
        rw [hp] at hcall hstep
        have HCall := Lib.hid hcall
        have HStep := Lib.hid (show namesV p (xs.take (i + 1)) = ys by rw [hstep]; simp)
        clear hcall hstep hp
        go_wp2_with (go_at_call 69; go_must (refine HCall.out.mono ?_); rintro e w1 ⟨rfl, hb1⟩)
        go_roundw
        case rel => exact ⟨i + 1, A', c', by rw [HStep.out], by go_num, by omega, by rw [HStep.out]; exact ownsRow_past (pt (pa pr) hb1) HOwn.out, pt (pa hq) hb1⟩
        case measure => simp [intOf]; omega
      | true =>
        rw [hp] at hcall hstep
        have HCall := Lib.hid hcall
        have HStep := Lib.hid (show namesV p (xs.take (i + 1)) = ys ++ [x.name] by rw [hstep]; simp)
        clear hcall hstep hp
        have hq1 := Lib.hid (pa (o := .cells #[.string x.name, .slice A3 x.made.length c3, .int .i64 x.mlo, .int .i64 x.mhi, .int .i64 x.llo, .int .i64 x.lhi] 58) hq)
        go_wp2_with (first
          | (go_at_call 69; go_must (refine HCall.out.mono ?_); rintro e w1 ⟨rfl, hb1⟩; have bT := (Blk.new wr 58 #[.string x.name, .slice A3 x.made.length c3, .int .i64 x.mlo, .int .i64 x.mhi, .int .i64 x.llo, .int .i64 x.lhi]).past hb1; have b0 := bT.cellAt 0 rfl; have bx := bT.lt; have hq2 := pt hq1.out hb1; have hsz := hq2.size; have HO := Lib.hid ((ownsRow_past (pt (pa pr) hb1) HOwn.out).alloc (.cells #[.string x.name] 9)); have HC := Lib.hid (cellsIn_new w1 9 (.string x.name)))
          | (at_builtin; go_must (refine wpList_append_cells _ rfl (.tmp 18) (.tmp 21) _ rfl w.heap.size 9 i0 _ 1 16 Tryz.underlying56 hi0 hz0 hz1 hz2 rfl (by omega) _ ys.length _ rfl HO.out (w1.heap.size + 1) (some ⟨w1.heap.size, 0, none⟩) 1 1 _ rfl HC.out rfl (by simp [Value.oneCell']) (by simp only [maxLen]; omega) (by omega) (by simp; omega) ?_); intro v3 w3 hown3 hg3 hat3; obtain ⟨A3', c3', rfl, hc3', hm3⟩ := own_form hown3))
        have hb3 : Below w.heap.size w w3 := pg (pa hq2) HO.out (Nat.le_refl _) hg3
        have HOwn3 := Lib.hid hown3
        clear hown3 hg3 hat3 bT b0
        go_roundw
        case rel => exact ⟨i + 1, A3', c3', by rw [HStep.out]; simp, by go_num, by omega, by rw [HStep.out]; simpa using HOwn3.out, hb3⟩
        case measure => simp [intOf]; omega
    · have hie : i = xs.length := by omega
      subst hie
      rw [List.take_length] at hown ⊢
      have hrow := rowS_of_own hown
      obtain ⟨A2, c2, hv, hcap, _⟩ := own_form hown
      have HRow := Lib.hid hrow
      have HCap := Lib.hid (show (namesV p xs).length ≤ c' by injection hv with _ _ h; omega)
      clear hown hrow hv
      go_wp2
      go_ret
      exact ⟨A', c', rfl, HRow.out, HCap.out, hq⟩
set_option maxHeartbeats 1000000 in
set_option maxRecDepth 100000 in
theorem names_suspect (B : Nat) (xs : List Lot) (A : Option Addr) (c fm : Nat) (p : Lot → Bool) (q1 q2 : Value) (w : World) (hr : LotsIn B w A xs) (hB : B ≤ w.heap.size) (hm : xs.length ≤ 1000)
    (hcb : ∀ i, i < xs.length → ∀ W, Below w.heap.size w W → ∀ A1 c1, Calls Tryz.prog 71 #[.agg #[.string (xs.getD i default).name, .slice A1 (xs.getD i default).made.length c1, .int .i64 (xs.getD i default).mlo, .int .i64 (xs.getD i default).mhi, .int .i64 (xs.getD i default).llo, .int .i64 (xs.getD i default).lhi], q1, q2] W fun e W' => e = .returned (.bool (p (xs.getD i default))) ∧ Below W.heap.size W W') :
    Calls Tryz.prog 68 #[.agg #[.slice A xs.length c, .map (some fm)], .func (.func 71) #[] #[q1, q2]] w (NamesPost p xs w) := by
  obtain ⟨i0, hi0, hz0, hz1, hz2⟩ := info_parts string_info
  have HR := Lib.hid hr
  have HCB := Lib.hid hcb
  clear hr hcb
  go_enter Tryz.func68, Tryz.ntmps68
  go_wp2
  go_loopw [5, 11] (fun ov ix wr => ∃ (i : Nat) (A' : Option Addr) (c' : Nat), ov = .slice A' (namesV p (xs.take i)).length c' ∧ ix = .int .i64 (i : Int) ∧ i ≤ xs.length ∧ wr.ownsRow w.heap.size 9 1 (.slice A' (namesV p (xs.take i)).length c') (namesV p (xs.take i)).length ((namesV p (xs.take i)).map Value.string) ∧ Below w.heap.size w wr) (fun _ ix _ => xs.length - (intOf ix).toNat)
  case atStart => exact ⟨0, none, 0, rfl, rfl, Nat.zero_le _, ⟨by simp [namesV], .inl ⟨by simp [namesV], by simp [namesV]⟩⟩, pa pr⟩
  case round =>
    obtain ⟨i, A', c', rfl, rfl, hi, hown, hq⟩ := hrel
    by_cases hlt : i < xs.length
    · obtain ⟨b, off, hA, hbB, hct⟩ := (HR.out.below (hq.mono hB)).at_ hlt
      subst hA
      obtain ⟨t0, A3, c3, t1, _, _, t2, t3, t4, t5⟩ := hct i hlt
      have hbw := Nat.lt_of_lt_of_le hbB (Nat.le_trans hB hq.size)
      have n0 : (0 : Int) ≤ (i : Int) := by omega
      have n1 : (i : Int) < (xs.length : Int) := by omega
      have hcall := HCB.out i hlt (wr.alloc (.cells #[.string (xs.getD i default).name, .slice A3 (xs.getD i default).made.length c3, .int .i64 (xs.getD i default).mlo, .int .i64 (xs.getD i default).mhi, .int .i64 (xs.getD i default).llo, .int .i64 (xs.getD i default).lhi] 58)) (pa hq) A3 c3
      have hstep := namesV_succ p xs i hlt
      have hlen := namesV_len p xs i
      have hlen' : (namesV p (xs.take i)).length ≤ 1000 := by omega
      generalize namesV p (xs.take i) = ys at *
      generalize xs.getD i default = x at *
      have HOwn := Lib.hid hown
      clear hown hct
      cases hp : p x with
      | false =>
        rw [hp] at hcall hstep
        have HCall := Lib.hid hcall
        have HStep := Lib.hid (show namesV p (xs.take (i + 1)) = ys by rw [hstep]; simp)
        clear hcall hstep hp
        go_wp2_with (go_at_call 71; go_must (refine HCall.out.mono ?_); rintro e w1 ⟨rfl, hb1⟩)
        go_roundw
        case rel => exact ⟨i + 1, A', c', by rw [HStep.out], by go_num, by omega, by rw [HStep.out]; exact ownsRow_past (pt (pa pr) hb1) HOwn.out, pt (pa hq) hb1⟩
        case measure => simp [intOf]; omega
      | true =>
        rw [hp] at hcall hstep
        have HCall := Lib.hid hcall
        have HStep := Lib.hid (show namesV p (xs.take (i + 1)) = ys ++ [x.name] by rw [hstep]; simp)
        clear hcall hstep hp
        have hq1 := Lib.hid (pa (o := .cells #[.string x.name, .slice A3 x.made.length c3, .int .i64 x.mlo, .int .i64 x.mhi, .int .i64 x.llo, .int .i64 x.lhi] 58) hq)
        go_wp2_with (first
          | (go_at_call 71; go_must (refine HCall.out.mono ?_); rintro e w1 ⟨rfl, hb1⟩; have bT := (Blk.new wr 58 #[.string x.name, .slice A3 x.made.length c3, .int .i64 x.mlo, .int .i64 x.mhi, .int .i64 x.llo, .int .i64 x.lhi]).past hb1; have b0 := bT.cellAt 0 rfl; have bx := bT.lt; have hq2 := pt hq1.out hb1; have hsz := hq2.size; have HO := Lib.hid ((ownsRow_past (pt (pa pr) hb1) HOwn.out).alloc (.cells #[.string x.name] 9)); have HC := Lib.hid (cellsIn_new w1 9 (.string x.name)))
          | (at_builtin; go_must (refine wpList_append_cells _ rfl (.tmp 18) (.tmp 21) _ rfl w.heap.size 9 i0 _ 1 16 Tryz.underlying56 hi0 hz0 hz1 hz2 rfl (by omega) _ ys.length _ rfl HO.out (w1.heap.size + 1) (some ⟨w1.heap.size, 0, none⟩) 1 1 _ rfl HC.out rfl (by simp [Value.oneCell']) (by simp only [maxLen]; omega) (by omega) (by simp; omega) ?_); intro v3 w3 hown3 hg3 hat3; obtain ⟨A3', c3', rfl, hc3', hm3⟩ := own_form hown3))
        have hb3 : Below w.heap.size w w3 := pg (pa hq2) HO.out (Nat.le_refl _) hg3
        have HOwn3 := Lib.hid hown3
        clear hown3 hg3 hat3 bT b0
        go_roundw
        case rel => exact ⟨i + 1, A3', c3', by rw [HStep.out]; simp, by go_num, by omega, by rw [HStep.out]; simpa using HOwn3.out, hb3⟩
        case measure => simp [intOf]; omega
    · have hie : i = xs.length := by omega
      subst hie
      rw [List.take_length] at hown ⊢
      have hrow := rowS_of_own hown
      obtain ⟨A2, c2, hv, hcap, _⟩ := own_form hown
      have HRow := Lib.hid hrow
      have HCap := Lib.hid (show (namesV p xs).length ≤ c' by injection hv with _ _ h; omega)
      clear hown hrow hv
      go_wp2
      go_ret
      exact ⟨A', c', rfl, HRow.out, HCap.out, hq⟩
set_option maxHeartbeats 1000000 in
set_option maxRecDepth 100000 in
theorem names_to (B : Nat) (xs : List Lot) (A : Option Addr) (c fm : Nat) (p : Lot → Bool) (q1 q2 : Value) (w : World) (hr : LotsIn B w A xs) (hB : B ≤ w.heap.size) (hm : xs.length ≤ 1000)
    (hcb : ∀ i, i < xs.length → ∀ W, Below w.heap.size w W → ∀ A1 c1, Calls Tryz.prog 75 #[.agg #[.string (xs.getD i default).name, .slice A1 (xs.getD i default).made.length c1, .int .i64 (xs.getD i default).mlo, .int .i64 (xs.getD i default).mhi, .int .i64 (xs.getD i default).llo, .int .i64 (xs.getD i default).lhi], q1, q2] W fun e W' => e = .returned (.bool (p (xs.getD i default))) ∧ Below W.heap.size W W') :
    Calls Tryz.prog 68 #[.agg #[.slice A xs.length c, .map (some fm)], .func (.func 75) #[] #[q1, q2]] w (NamesPost p xs w) := by
  obtain ⟨i0, hi0, hz0, hz1, hz2⟩ := info_parts string_info
  have HR := Lib.hid hr
  have HCB := Lib.hid hcb
  clear hr hcb
  go_enter Tryz.func68, Tryz.ntmps68
  go_wp2
  go_loopw [5, 11] (fun ov ix wr => ∃ (i : Nat) (A' : Option Addr) (c' : Nat), ov = .slice A' (namesV p (xs.take i)).length c' ∧ ix = .int .i64 (i : Int) ∧ i ≤ xs.length ∧ wr.ownsRow w.heap.size 9 1 (.slice A' (namesV p (xs.take i)).length c') (namesV p (xs.take i)).length ((namesV p (xs.take i)).map Value.string) ∧ Below w.heap.size w wr) (fun _ ix _ => xs.length - (intOf ix).toNat)
  case atStart => exact ⟨0, none, 0, rfl, rfl, Nat.zero_le _, ⟨by simp [namesV], .inl ⟨by simp [namesV], by simp [namesV]⟩⟩, pa pr⟩
  case round =>
    obtain ⟨i, A', c', rfl, rfl, hi, hown, hq⟩ := hrel
    by_cases hlt : i < xs.length
    · obtain ⟨b, off, hA, hbB, hct⟩ := (HR.out.below (hq.mono hB)).at_ hlt
      subst hA
      obtain ⟨t0, A3, c3, t1, _, _, t2, t3, t4, t5⟩ := hct i hlt
      have hbw := Nat.lt_of_lt_of_le hbB (Nat.le_trans hB hq.size)
      have n0 : (0 : Int) ≤ (i : Int) := by omega
      have n1 : (i : Int) < (xs.length : Int) := by omega
      have hcall := HCB.out i hlt (wr.alloc (.cells #[.string (xs.getD i default).name, .slice A3 (xs.getD i default).made.length c3, .int .i64 (xs.getD i default).mlo, .int .i64 (xs.getD i default).mhi, .int .i64 (xs.getD i default).llo, .int .i64 (xs.getD i default).lhi] 58)) (pa hq) A3 c3
      have hstep := namesV_succ p xs i hlt
      have hlen := namesV_len p xs i
      have hlen' : (namesV p (xs.take i)).length ≤ 1000 := by omega
      generalize namesV p (xs.take i) = ys at *
      generalize xs.getD i default = x at *
      have HOwn := Lib.hid hown
      clear hown hct
      cases hp : p x with
      | false =>
        rw [hp] at hcall hstep
        have HCall := Lib.hid hcall
        have HStep := Lib.hid (show namesV p (xs.take (i + 1)) = ys by rw [hstep]; simp)
        clear hcall hstep hp
        go_wp2_with (go_at_call 75; go_must (refine HCall.out.mono ?_); rintro e w1 ⟨rfl, hb1⟩)
        go_roundw
        case rel => exact ⟨i + 1, A', c', by rw [HStep.out], by go_num, by omega, by rw [HStep.out]; exact ownsRow_past (pt (pa pr) hb1) HOwn.out, pt (pa hq) hb1⟩
        case measure => simp [intOf]; omega
      | true =>
        rw [hp] at hcall hstep
        have HCall := Lib.hid hcall
        have HStep := Lib.hid (show namesV p (xs.take (i + 1)) = ys ++ [x.name] by rw [hstep]; simp)
        clear hcall hstep hp
        have hq1 := Lib.hid (pa (o := .cells #[.string x.name, .slice A3 x.made.length c3, .int .i64 x.mlo, .int .i64 x.mhi, .int .i64 x.llo, .int .i64 x.lhi] 58) hq)
        go_wp2_with (first
          | (go_at_call 75; go_must (refine HCall.out.mono ?_); rintro e w1 ⟨rfl, hb1⟩; have bT := (Blk.new wr 58 #[.string x.name, .slice A3 x.made.length c3, .int .i64 x.mlo, .int .i64 x.mhi, .int .i64 x.llo, .int .i64 x.lhi]).past hb1; have b0 := bT.cellAt 0 rfl; have bx := bT.lt; have hq2 := pt hq1.out hb1; have hsz := hq2.size; have HO := Lib.hid ((ownsRow_past (pt (pa pr) hb1) HOwn.out).alloc (.cells #[.string x.name] 9)); have HC := Lib.hid (cellsIn_new w1 9 (.string x.name)))
          | (at_builtin; go_must (refine wpList_append_cells _ rfl (.tmp 18) (.tmp 21) _ rfl w.heap.size 9 i0 _ 1 16 Tryz.underlying56 hi0 hz0 hz1 hz2 rfl (by omega) _ ys.length _ rfl HO.out (w1.heap.size + 1) (some ⟨w1.heap.size, 0, none⟩) 1 1 _ rfl HC.out rfl (by simp [Value.oneCell']) (by simp only [maxLen]; omega) (by omega) (by simp; omega) ?_); intro v3 w3 hown3 hg3 hat3; obtain ⟨A3', c3', rfl, hc3', hm3⟩ := own_form hown3))
        have hb3 : Below w.heap.size w w3 := pg (pa hq2) HO.out (Nat.le_refl _) hg3
        have HOwn3 := Lib.hid hown3
        clear hown3 hg3 hat3 bT b0
        go_roundw
        case rel => exact ⟨i + 1, A3', c3', by rw [HStep.out]; simp, by go_num, by omega, by rw [HStep.out]; simpa using HOwn3.out, hb3⟩
        case measure => simp [intOf]; omega
    · have hie : i = xs.length := by omega
      subst hie
      rw [List.take_length] at hown ⊢
      have hrow := rowS_of_own hown
      obtain ⟨A2, c2, hv, hcap, _⟩ := own_form hown
      have HRow := Lib.hid hrow
      have HCap := Lib.hid (show (namesV p xs).length ≤ c' by injection hv with _ _ h; omega)
      clear hown hrow hv
      go_wp2
      go_ret
      exact ⟨A', c', rfl, HRow.out, HCap.out, hq⟩

end Go.Proofs.YtbojmcopagbheaaGreatDoor
