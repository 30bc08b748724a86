/- Contracts: the names of the lots for which a condition holds; the conditions. Lengths at most 1000.
Contracts: the conditions on strings that are handed to slices.ContainsFunc, and ContainsFunc at them; words of the specification of lots.
Contract: lots are checked: the families, the index of a lot, and the error.
Contracts: the suspect lots; the index and the error of lots; whether a lot is accepted, or its error. -/
import Derived.Test.YtlgioldmjohhlaaM7
import Derived.Deep.RegionHeld3

section
namespace Go.Proofs.Ytlgioldmjohhlaa
open Go.RowKit

/-- A lot lies in block b from offset o on. -/
def LotAt (B : Nat) (w : World) (b o : Nat) (x : Lot) : Prop :=
  w.cell? ⟨b, o, none⟩ = some (.string x.name) ∧ ∃ A c, w.cell? ⟨b, o + 1, none⟩ = some (.slice A x.made.length c) ∧ RowIn Value.string B w A x.made ∧ x.made.length ≤ c ∧
    w.cell? ⟨b, o + 2, none⟩ = some (.int .i64 x.mlo) ∧ w.cell? ⟨b, o + 3, none⟩ = some (.int .i64 x.mhi) ∧ w.cell? ⟨b, o + 4, none⟩ = some (.int .i64 x.llo) ∧ w.cell? ⟨b, o + 5, none⟩ = some (.int .i64 x.lhi)
def LotsIn (B : Nat) (w : World) (A : Option Addr) (xs : List Lot) : Prop :=
  xs = [] ∨ ∃ b off, A = some ⟨b, off, none⟩ ∧ b < B ∧ ∀ i, i < xs.length → LotAt B w b (off + i * 6) (xs.getD i default)

theorem LotAt.keep {B : Nat} {w w' : World} {b o : Nat} {x : Lot} (h : LotAt B w b o x) (hb : b < B) (hk : ∀ b o, b < B → w'.cell? ⟨b, o, none⟩ = w.cell? ⟨b, o, none⟩) : LotAt B w' b o x := by
  obtain ⟨h0, A, c, h1, h2, h3, h4, h5, h6, h7⟩ := h
  exact ⟨(hk _ _ hb).trans h0, A, c, (hk _ _ hb).trans h1, h2.keep hk, h3, (hk _ _ hb).trans h4, (hk _ _ hb).trans h5, (hk _ _ hb).trans h6, (hk _ _ hb).trans h7⟩
theorem LotsIn.keep {B : Nat} {w w' : World} {A : Option Addr} {xs : List Lot} (h : LotsIn B w A xs) (hk : ∀ b o, b < B → w'.cell? ⟨b, o, none⟩ = w.cell? ⟨b, o, none⟩) : LotsIn B w' A xs := by
  rcases h with h | ⟨b, off, hA, hb, hc⟩
  · exact .inl h
  · exact .inr ⟨b, off, hA, hb, fun i hi => (hc i hi).keep hb hk⟩
theorem LotsIn.below {B : Nat} {w w' : World} {A : Option Addr} {xs : List Lot} (h : LotsIn B w A xs) (hb : Below B w w') : LotsIn B w' A xs := h.keep (bcell hb).1
theorem LotAt.more {B B' : Nat} {w : World} {b o : Nat} {x : Lot} (h : LotAt B w b o x) (hB : B ≤ B') : LotAt B' w b o x := by
  obtain ⟨h0, A, c, h1, h2, h3, h4, h5, h6, h7⟩ := h
  exact ⟨h0, A, c, h1, h2.more hB, h3, h4, h5, h6, h7⟩
theorem LotsIn.more {B B' : Nat} {w : World} {A : Option Addr} {xs : List Lot} (h : LotsIn B w A xs) (hB : B ≤ B') : LotsIn B' w A xs := by
  rcases h with h | ⟨b, off, hA, hb, hc⟩
  · exact .inl h
  · exact .inr ⟨b, off, hA, by omega, fun i hi => (hc i hi).more hB⟩
theorem LotsIn.at_ {B : Nat} {w : World} {A : Option Addr} {xs : List Lot} {k : Nat} (h : LotsIn B w A xs) (hk : k < xs.length) : ∃ b off, A = some ⟨b, off, none⟩ ∧ b < B ∧ ∀ i, i < xs.length → LotAt B w b (off + i * 6) (xs.getD i default) := by
  rcases h with h | h
  · subst h; simp at hk
  · exact h

/-- The names of the lots for which p holds. -/
def namesV (p : Lot → Bool) (xs : List Lot) : List ByteArray := (xs.filter p).map (·.name)
theorem namesV_succ (p : Lot → Bool) (xs : List Lot) (i : Nat) (h : i < xs.length) : namesV p (xs.take (i + 1)) = namesV p (xs.take i) ++ if p (xs.getD i default) then [(xs.getD i default).name] else [] := by
  unfold namesV
  have e : xs.getD i default = xs[i] := by simp [List.getD, h]
  rw [List.take_succ_eq_append_getElem h, List.filter_append, List.map_append, e]
  cases hp : p xs[i] <;> simp [hp]
theorem namesV_len (p : Lot → Bool) (xs : List Lot) (i : Nat) : (namesV p (xs.take i)).length ≤ i := by
  unfold namesV
  rw [List.length_map]
  have h1 := List.length_filter_le p (xs.take i)
  have h2 := List.length_take_le i xs
  omega

def NamesPost (p : Lot → Bool) (xs : List Lot) (w : World) (e : Ending) (w' : World) : Prop :=
  ∃ A c, e = .returned (.slice A (namesV p xs).length c) ∧ RowIn Value.string w'.heap.size w' A (namesV p xs) ∧ (namesV p xs).length ≤ c ∧ Below w.heap.size w w'

theorem rowS_of_own {w : World} {base : Nat} {e : TypeId} {n c : Nat} {A : Option Addr} {xs : List ByteArray} (h : w.ownsRow base e 1 (.slice A n c) n (xs.map Value.string)) : RowIn Value.string w.heap.size w A xs := by
  rcases cellsIn_of_own h with h | ⟨b, off, hA, hb, hc⟩
  · exact .inl (by simpa using h)
  · exact .inr ⟨b, off, hA, hb, fun j hj => by
      rw [hc j (by simpa using hj)]
      simp [List.getD, hj]⟩

theorem grown_of_below {a w : World} (h : Below a.heap.size a w) (row : Option Nat) : a.grownBy w row := ⟨h.os, h.tape, h.output, h.size, fun i hi _ => h.block i hi⟩
theorem ownsRow_past {w w' : World} {base : Nat} {e : TypeId} {size n : Nat} {v : Value} {xs : List Value} (hb : Below w.heap.size w w') (h : w.ownsRow base e size v n xs) : w'.ownsRow base e size v n xs :=
  h.kept (grown_of_below hb none) (by cases v.ownBlock <;> simp)
theorem cellsIn_new (w : World) (t : TypeId) (v : Value) : CellsIn (w.heap.size + 1) (w.alloc (.cells #[v] t)) (some ⟨w.heap.size, 0, none⟩) [v] := .inr ⟨w.heap.size, 0, rfl, by omega, fun q hq => by
  obtain rfl : q = 0 := by simp at hq; omega
  exact (Blk.new w t #[v]).cellAt 0 rfl⟩

theorem string_info : (Try.prog.info? 9).map (fun i => (i.zero, i.size, i.bytes)) = some (some (.string ByteArray.empty), 1, 16) := by kernel_rfl

set_option maxHeartbeats 1000000 in
set_option maxRecDepth 100000 in
theorem names_bad (B : Nat) (xs : List Lot) (A : Option Addr) (c fm : Nat) (p : Lot → Bool)  (w : World) (hr : LotsIn B w A xs) (hB : B ≤ w.heap.size) (hm : xs.length ≤ 1000)
    (hcb : ∀ i, i < xs.length → ∀ W, Below w.heap.size w W → ∀ A1 c1, Calls Try.prog 97 #[.agg #[.string (xs.getD i default).name, .slice A1 (xs.getD i default).made.length c1, .int .i64 (xs.getD i default).mlo, .int .i64 (xs.getD i default).mhi, .int .i64 (xs.getD i default).llo, .int .i64 (xs.getD i default).lhi]] W fun e W' => e = .returned (.bool (p (xs.getD i default))) ∧ Below W.heap.size W W') :
    Calls Try.prog 96 #[.agg #[.slice A xs.length c, .map (some fm)], .func (.func 97) #[] #[]] w (NamesPost p xs w) := by
  obtain ⟨i0, hi0, hz0, hz1, hz2⟩ := info_parts string_info
  have HR := Lib.hid hr
  have HCB := Lib.hid hcb
  clear hr hcb
  go_enter Try.func96, Try.ntmps96
  go_wp2
  go_loopw [5, 11] (fun ov ix wr => ∃ (i : Nat) (A' : Option Addr) (c' : Nat), ov = .slice A' (namesV p (xs.take i)).length c' ∧ ix = .int .i64 (i : Int) ∧ i ≤ xs.length ∧ wr.ownsRow w.heap.size 9 1 (.slice A' (namesV p (xs.take i)).length c') (namesV p (xs.take i)).length ((namesV p (xs.take i)).map Value.string) ∧ Below w.heap.size w wr) (fun _ ix _ => xs.length - (intOf ix).toNat)
  case atStart => exact ⟨0, none, 0, rfl, rfl, Nat.zero_le _, ⟨by simp [namesV], .inl ⟨by simp [namesV], by simp [namesV]⟩⟩, pa pr⟩
  case round =>
    obtain ⟨i, A', c', rfl, rfl, hi, hown, hq⟩ := hrel
    by_cases hlt : i < xs.length
    · obtain ⟨b, off, hA, hbB, hct⟩ := (HR.out.below (hq.mono hB)).at_ hlt
      subst hA
      obtain ⟨t0, A3, c3, t1, _, _, t2, t3, t4, t5⟩ := hct i hlt
      have hbw := Nat.lt_of_lt_of_le hbB (Nat.le_trans hB hq.size)
      have n0 : (0 : Int) ≤ (i : Int) := by omega
      have n1 : (i : Int) < (xs.length : Int) := by omega
      have hcall := HCB.out i hlt (wr.alloc (.cells #[.string (xs.getD i default).name, .slice A3 (xs.getD i default).made.length c3, .int .i64 (xs.getD i default).mlo, .int .i64 (xs.getD i default).mhi, .int .i64 (xs.getD i default).llo, .int .i64 (xs.getD i default).lhi] 61)) (pa hq) A3 c3
      have hstep := namesV_succ p xs i hlt
      have hlen := namesV_len p xs i
      have hlen' : (namesV p (xs.take i)).length ≤ 1000 := by omega
      generalize namesV p (xs.take i) = ys at *
      generalize xs.getD i default = x at *
      have HOwn := Lib.hid hown
      clear hown hct
      cases hp : p x with
      | false =>
        rw [hp] at hcall hstep
        have HCall := Lib.hid hcall
        have HStep := Lib.hid (show namesV p (xs.take (i + 1)) = ys by rw [hstep]; simp)
        clear hcall hstep hp
        go_wp2_with (go_at_call 97; go_must (refine HCall.out.mono ?_); rintro e w1 ⟨rfl, hb1⟩)
        go_roundw
        case rel => exact ⟨i + 1, A', c', by rw [HStep.out], by go_num, by omega, by rw [HStep.out]; exact ownsRow_past (pt (pa pr) hb1) HOwn.out, pt (pa hq) hb1⟩
        case measure => simp [intOf]; omega
      | true =>
        rw [hp] at hcall hstep
        have HCall := Lib.hid hcall
        have HStep := Lib.hid (show namesV p (xs.take (i + 1)) = ys ++ [x.name] by rw [hstep]; simp)
        clear hcall hstep hp
        have hq1 := Lib.hid (pa (o := .cells #[.string x.name, .slice A3 x.made.length c3, .int .i64 x.mlo, .int .i64 x.mhi, .int .i64 x.llo, .int .i64 x.lhi] 61) hq)
        go_wp2_with (first
          | (go_at_call 97; go_must (refine HCall.out.mono ?_); rintro e w1 ⟨rfl, hb1⟩; have bT := (Blk.new wr 61 #[.string x.name, .slice A3 x.made.length c3, .int .i64 x.mlo, .int .i64 x.mhi, .int .i64 x.llo, .int .i64 x.lhi]).past hb1; have b0 := bT.cellAt 0 rfl; have bx := bT.lt; have hq2 := pt hq1.out hb1; have hsz := hq2.size; have HO := Lib.hid ((ownsRow_past (pt (pa pr) hb1) HOwn.out).alloc (.cells #[.string x.name] 9)); have HC := Lib.hid (cellsIn_new w1 9 (.string x.name)))
          | (at_builtin; go_must (refine wpList_append_cells _ rfl (.tmp 18) (.tmp 21) _ rfl w.heap.size 9 i0 _ 1 16 Try.underlying53 hi0 hz0 hz1 hz2 rfl (by omega) _ ys.length _ rfl HO.out (w1.heap.size + 1) (some ⟨w1.heap.size, 0, none⟩) 1 1 _ rfl HC.out rfl (by simp [Value.oneCell']) (by simp only [maxLen]; omega) (by omega) (by simp; omega) ?_); intro v3 w3 hown3 hg3 hat3; obtain ⟨A3', c3', rfl, hc3', hm3⟩ := own_form hown3))
        have hb3 : Below w.heap.size w w3 := pg (pa hq2) HO.out (Nat.le_refl _) hg3
        have HOwn3 := Lib.hid hown3
        clear hown3 hg3 hat3 bT b0
        go_roundw
        case rel => exact ⟨i + 1, A3', c3', by rw [HStep.out]; simp, by go_num, by omega, by rw [HStep.out]; simpa using HOwn3.out, hb3⟩
        case measure => simp [intOf]; omega
    · have hie : i = xs.length := by omega
      subst hie
      rw [List.take_length] at hown ⊢
      have hrow := rowS_of_own hown
      obtain ⟨A2, c2, hv, hcap, _⟩ := own_form hown
      have HRow := Lib.hid hrow
      have HCap := Lib.hid (show (namesV p xs).length ≤ c' by injection hv with _ _ h; omega)
      clear hown hrow hv
      go_wp2
      go_ret
      exact ⟨A', c', rfl, HRow.out, HCap.out, hq⟩
set_option maxHeartbeats 1000000 in
set_option maxRecDepth 100000 in
theorem names_suspect (B : Nat) (xs : List Lot) (A : Option Addr) (c fm : Nat) (p : Lot → Bool) (q1 q2 : Value) (w : World) (hr : LotsIn B w A xs) (hB : B ≤ w.heap.size) (hm : xs.length ≤ 1000)
    (hcb : ∀ i, i < xs.length → ∀ W, Below w.heap.size w W → ∀ A1 c1, Calls Try.prog 99 #[.agg #[.string (xs.getD i default).name, .slice A1 (xs.getD i default).made.length c1, .int .i64 (xs.getD i default).mlo, .int .i64 (xs.getD i default).mhi, .int .i64 (xs.getD i default).llo, .int .i64 (xs.getD i default).lhi], q1, q2] W fun e W' => e = .returned (.bool (p (xs.getD i default))) ∧ Below W.heap.size W W') :
    Calls Try.prog 96 #[.agg #[.slice A xs.length c, .map (some fm)], .func (.func 99) #[] #[q1, q2]] w (NamesPost p xs w) := by
  obtain ⟨i0, hi0, hz0, hz1, hz2⟩ := info_parts string_info
  have HR := Lib.hid hr
  have HCB := Lib.hid hcb
  clear hr hcb
  go_enter Try.func96, Try.ntmps96
  go_wp2
  go_loopw [5, 11] (fun ov ix wr => ∃ (i : Nat) (A' : Option Addr) (c' : Nat), ov = .slice A' (namesV p (xs.take i)).length c' ∧ ix = .int .i64 (i : Int) ∧ i ≤ xs.length ∧ wr.ownsRow w.heap.size 9 1 (.slice A' (namesV p (xs.take i)).length c') (namesV p (xs.take i)).length ((namesV p (xs.take i)).map Value.string) ∧ Below w.heap.size w wr) (fun _ ix _ => xs.length - (intOf ix).toNat)
  case atStart => exact ⟨0, none, 0, rfl, rfl, Nat.zero_le _, ⟨by simp [namesV], .inl ⟨by simp [namesV], by simp [namesV]⟩⟩, pa pr⟩
  case round =>
    obtain ⟨i, A', c', rfl, rfl, hi, hown, hq⟩ := hrel
    by_cases hlt : i < xs.length
    · obtain ⟨b, off, hA, hbB, hct⟩ := (HR.out.below (hq.mono hB)).at_ hlt
      subst hA
      obtain ⟨t0, A3, c3, t1, _, _, t2, t3, t4, t5⟩ := hct i hlt
      have hbw := Nat.lt_of_lt_of_le hbB (Nat.le_trans hB hq.size)
      have n0 : (0 : Int) ≤ (i : Int) := by omega
      have n1 : (i : Int) < (xs.length : Int) := by omega
      have hcall := HCB.out i hlt (wr.alloc (.cells #[.string (xs.getD i default).name, .slice A3 (xs.getD i default).made.length c3, .int .i64 (xs.getD i default).mlo, .int .i64 (xs.getD i default).mhi, .int .i64 (xs.getD i default).llo, .int .i64 (xs.getD i default).lhi] 61)) (pa hq) A3 c3
      have hstep := namesV_succ p xs i hlt
      have hlen := namesV_len p xs i
      have hlen' : (namesV p (xs.take i)).length ≤ 1000 := by omega
      generalize namesV p (xs.take i) = ys at *
      generalize xs.getD i default = x at *
      have HOwn := Lib.hid hown
      clear hown hct
      cases hp : p x with
      | false =>
        rw [hp] at hcall hstep
        have HCall := Lib.hid hcall
        have HStep := Lib.hid (show namesV p (xs.take (i + 1)) = ys by rw [hstep]; simp)
        clear hcall hstep hp
        go_wp2_with (go_at_call 99; go_must (refine HCall.out.mono ?_); rintro e w1 ⟨rfl, hb1⟩)
        go_roundw
        case rel => exact ⟨i + 1, A', c', by rw [HStep.out], by go_num, by omega, by rw [HStep.out]; exact ownsRow_past (pt (pa pr) hb1) HOwn.out, pt (pa hq) hb1⟩
        case measure => simp [intOf]; omega
      | true =>
        rw [hp] at hcall hstep
        have HCall := Lib.hid hcall
        have HStep := Lib.hid (show namesV p (xs.take (i + 1)) = ys ++ [x.name] by rw [hstep]; simp)
        clear hcall hstep hp
        have hq1 := Lib.hid (pa (o := .cells #[.string x.name, .slice A3 x.made.length c3, .int .i64 x.mlo, .int .i64 x.mhi, .int .i64 x.llo, .int .i64 x.lhi] 61) hq)
        go_wp2_with (first
          | (go_at_call 99; go_must (refine HCall.out.mono ?_); rintro e w1 ⟨rfl, hb1⟩; have bT := (Blk.new wr 61 #[.string x.name, .slice A3 x.made.length c3, .int .i64 x.mlo, .int .i64 x.mhi, .int .i64 x.llo, .int .i64 x.lhi]).past hb1; have b0 := bT.cellAt 0 rfl; have bx := bT.lt; have hq2 := pt hq1.out hb1; have hsz := hq2.size; have HO := Lib.hid ((ownsRow_past (pt (pa pr) hb1) HOwn.out).alloc (.cells #[.string x.name] 9)); have HC := Lib.hid (cellsIn_new w1 9 (.string x.name)))
          | (at_builtin; go_must (refine wpList_append_cells _ rfl (.tmp 18) (.tmp 21) _ rfl w.heap.size 9 i0 _ 1 16 Try.underlying53 hi0 hz0 hz1 hz2 rfl (by omega) _ ys.length _ rfl HO.out (w1.heap.size + 1) (some ⟨w1.heap.size, 0, none⟩) 1 1 _ rfl HC.out rfl (by simp [Value.oneCell']) (by simp only [maxLen]; omega) (by omega) (by simp; omega) ?_); intro v3 w3 hown3 hg3 hat3; obtain ⟨A3', c3', rfl, hc3', hm3⟩ := own_form hown3))
        have hb3 : Below w.heap.size w w3 := pg (pa hq2) HO.out (Nat.le_refl _) hg3
        have HOwn3 := Lib.hid hown3
        clear hown3 hg3 hat3 bT b0
        go_roundw
        case rel => exact ⟨i + 1, A3', c3', by rw [HStep.out]; simp, by go_num, by omega, by rw [HStep.out]; simpa using HOwn3.out, hb3⟩
        case measure => simp [intOf]; omega
    · have hie : i = xs.length := by omega
      subst hie
      rw [List.take_length] at hown ⊢
      have hrow := rowS_of_own hown
      obtain ⟨A2, c2, hv, hcap, _⟩ := own_form hown
      have HRow := Lib.hid hrow
      have HCap := Lib.hid (show (namesV p xs).length ≤ c' by injection hv with _ _ h; omega)
      clear hown hrow hv
      go_wp2
      go_ret
      exact ⟨A', c', rfl, HRow.out, HCap.out, hq⟩
set_option maxHeartbeats 1000000 in
set_option maxRecDepth 100000 in
theorem names_from (B : Nat) (xs : List Lot) (A : Option Addr) (c fm : Nat) (p : Lot → Bool) (q1 q2 : Value) (w : World) (hr : LotsIn B w A xs) (hB : B ≤ w.heap.size) (hm : xs.length ≤ 1000)
    (hcb : ∀ i, i < xs.length → ∀ W, Below w.heap.size w W → ∀ A1 c1, Calls Try.prog 113 #[.agg #[.string (xs.getD i default).name, .slice A1 (xs.getD i default).made.length c1, .int .i64 (xs.getD i default).mlo, .int .i64 (xs.getD i default).mhi, .int .i64 (xs.getD i default).llo, .int .i64 (xs.getD i default).lhi], q1, q2] W fun e W' => e = .returned (.bool (p (xs.getD i default))) ∧ Below W.heap.size W W') :
    Calls Try.prog 96 #[.agg #[.slice A xs.length c, .map (some fm)], .func (.func 113) #[] #[q1, q2]] w (NamesPost p xs w) := by
  obtain ⟨i0, hi0, hz0, hz1, hz2⟩ := info_parts string_info
  have HR := Lib.hid hr
  have HCB := Lib.hid hcb
  clear hr hcb
  go_enter Try.func96, Try.ntmps96
  go_wp2
  go_loopw [5, 11] (fun ov ix wr => ∃ (i : Nat) (A' : Option Addr) (c' : Nat), ov = .slice A' (namesV p (xs.take i)).length c' ∧ ix = .int .i64 (i : Int) ∧ i ≤ xs.length ∧ wr.ownsRow w.heap.size 9 1 (.slice A' (namesV p (xs.take i)).length c') (namesV p (xs.take i)).length ((namesV p (xs.take i)).map Value.string) ∧ Below w.heap.size w wr) (fun _ ix _ => xs.length - (intOf ix).toNat)
  case atStart => exact ⟨0, none, 0, rfl, rfl, Nat.zero_le _, ⟨by simp [namesV], .inl ⟨by simp [namesV], by simp [namesV]⟩⟩, pa pr⟩
  case round =>
    obtain ⟨i, A', c', rfl, rfl, hi, hown, hq⟩ := hrel
    by_cases hlt : i < xs.length
    · obtain ⟨b, off, hA, hbB, hct⟩ := (HR.out.below (hq.mono hB)).at_ hlt
      subst hA
      obtain ⟨t0, A3, c3, t1, _, _, t2, t3, t4, t5⟩ := hct i hlt
      have hbw := Nat.lt_of_lt_of_le hbB (Nat.le_trans hB hq.size)
      have n0 : (0 : Int) ≤ (i : Int) := by omega
      have n1 : (i : Int) < (xs.length : Int) := by omega
      have hcall := HCB.out i hlt (wr.alloc (.cells #[.string (xs.getD i default).name, .slice A3 (xs.getD i default).made.length c3, .int .i64 (xs.getD i default).mlo, .int .i64 (xs.getD i default).mhi, .int .i64 (xs.getD i default).llo, .int .i64 (xs.getD i default).lhi] 61)) (pa hq) A3 c3
      have hstep := namesV_succ p xs i hlt
      have hlen := namesV_len p xs i
      have hlen' : (namesV p (xs.take i)).length ≤ 1000 := by omega
      generalize namesV p (xs.take i) = ys at *
      generalize xs.getD i default = x at *
      have HOwn := Lib.hid hown
      clear hown hct
      cases hp : p x with
      | false =>
        rw [hp] at hcall hstep
        have HCall := Lib.hid hcall
        have HStep := Lib.hid (show namesV p (xs.take (i + 1)) = ys by rw [hstep]; simp)
        clear hcall hstep hp
        go_wp2_with (go_at_call 113; go_must (refine HCall.out.mono ?_); rintro e w1 ⟨rfl, hb1⟩)
        go_roundw
        case rel => exact ⟨i + 1, A', c', by rw [HStep.out], by go_num, by omega, by rw [HStep.out]; exact ownsRow_past (pt (pa pr) hb1) HOwn.out, pt (pa hq) hb1⟩
        case measure => simp [intOf]; omega
      | true =>
        rw [hp] at hcall hstep
        have HCall := Lib.hid hcall
        have HStep := Lib.hid (show namesV p (xs.take (i + 1)) = ys ++ [x.name] by rw [hstep]; simp)
        clear hcall hstep hp
        have hq1 := Lib.hid (pa (o := .cells #[.string x.name, .slice A3 x.made.length c3, .int .i64 x.mlo, .int .i64 x.mhi, .int .i64 x.llo, .int .i64 x.lhi] 61) hq)
        go_wp2_with (first
          | (go_at_call 113; go_must (refine HCall.out.mono ?_); rintro e w1 ⟨rfl, hb1⟩; have bT := (Blk.new wr 61 #[.string x.name, .slice A3 x.made.length c3, .int .i64 x.mlo, .int .i64 x.mhi, .int .i64 x.llo, .int .i64 x.lhi]).past hb1; have b0 := bT.cellAt 0 rfl; have bx := bT.lt; have hq2 := pt hq1.out hb1; have hsz := hq2.size; have HO := Lib.hid ((ownsRow_past (pt (pa pr) hb1) HOwn.out).alloc (.cells #[.string x.name] 9)); have HC := Lib.hid (cellsIn_new w1 9 (.string x.name)))
          | (at_builtin; go_must (refine wpList_append_cells _ rfl (.tmp 18) (.tmp 21) _ rfl w.heap.size 9 i0 _ 1 16 Try.underlying53 hi0 hz0 hz1 hz2 rfl (by omega) _ ys.length _ rfl HO.out (w1.heap.size + 1) (some ⟨w1.heap.size, 0, none⟩) 1 1 _ rfl HC.out rfl (by simp [Value.oneCell']) (by simp only [maxLen]; omega) (by omega) (by simp; omega) ?_); intro v3 w3 hown3 hg3 hat3; obtain ⟨A3', c3', rfl, hc3', hm3⟩ := own_form hown3))
        have hb3 : Below w.heap.size w w3 := pg (pa hq2) HO.out (Nat.le_refl _) hg3
        have HOwn3 := Lib.hid hown3
        clear hown3 hg3 hat3 bT b0
        go_roundw
        case rel => exact ⟨i + 1, A3', c3', by rw [HStep.out]; simp, by go_num, by omega, by rw [HStep.out]; simpa using HOwn3.out, hb3⟩
        case measure => simp [intOf]; omega
    · have hie : i = xs.length := by omega
      subst hie
      rw [List.take_length] at hown ⊢
      have hrow := rowS_of_own hown
      obtain ⟨A2, c2, hv, hcap, _⟩ := own_form hown
      have HRow := Lib.hid hrow
      have HCap := Lib.hid (show (namesV p xs).length ≤ c' by injection hv with _ _ h; omega)
      clear hown hrow hv
      go_wp2
      go_ret
      exact ⟨A', c', rfl, HRow.out, HCap.out, hq⟩
set_option maxHeartbeats 1000000 in
set_option maxRecDepth 100000 in
theorem names_to (B : Nat) (xs : List Lot) (A : Option Addr) (c fm : Nat) (p : Lot → Bool) (q1 q2 : Value) (w : World) (hr : LotsIn B w A xs) (hB : B ≤ w.heap.size) (hm : xs.length ≤ 1000)
    (hcb : ∀ i, i < xs.length → ∀ W, Below w.heap.size w W → ∀ A1 c1, Calls Try.prog 114 #[.agg #[.string (xs.getD i default).name, .slice A1 (xs.getD i default).made.length c1, .int .i64 (xs.getD i default).mlo, .int .i64 (xs.getD i default).mhi, .int .i64 (xs.getD i default).llo, .int .i64 (xs.getD i default).lhi], q1, q2] W fun e W' => e = .returned (.bool (p (xs.getD i default))) ∧ Below W.heap.size W W') :
    Calls Try.prog 96 #[.agg #[.slice A xs.length c, .map (some fm)], .func (.func 114) #[] #[q1, q2]] w (NamesPost p xs w) := by
  obtain ⟨i0, hi0, hz0, hz1, hz2⟩ := info_parts string_info
  have HR := Lib.hid hr
  have HCB := Lib.hid hcb
  clear hr hcb
  go_enter Try.func96, Try.ntmps96
  go_wp2
  go_loopw [5, 11] (fun ov ix wr => ∃ (i : Nat) (A' : Option Addr) (c' : Nat), ov = .slice A' (namesV p (xs.take i)).length c' ∧ ix = .int .i64 (i : Int) ∧ i ≤ xs.length ∧ wr.ownsRow w.heap.size 9 1 (.slice A' (namesV p (xs.take i)).length c') (namesV p (xs.take i)).length ((namesV p (xs.take i)).map Value.string) ∧ Below w.heap.size w wr) (fun _ ix _ => xs.length - (intOf ix).toNat)
  case atStart => exact ⟨0, none, 0, rfl, rfl, Nat.zero_le _, ⟨by simp [namesV], .inl ⟨by simp [namesV], by simp [namesV]⟩⟩, pa pr⟩
  case round =>
    obtain ⟨i, A', c', rfl, rfl, hi, hown, hq⟩ := hrel
    by_cases hlt : i < xs.length
    · obtain ⟨b, off, hA, hbB, hct⟩ := (HR.out.below (hq.mono hB)).at_ hlt
      subst hA
      obtain ⟨t0, A3, c3, t1, _, _, t2, t3, t4, t5⟩ := hct i hlt
      have hbw := Nat.lt_of_lt_of_le hbB (Nat.le_trans hB hq.size)
      have n0 : (0 : Int) ≤ (i : Int) := by omega
      have n1 : (i : Int) < (xs.length : Int) := by omega
      have hcall := HCB.out i hlt (wr.alloc (.cells #[.string (xs.getD i default).name, .slice A3 (xs.getD i default).made.length c3, .int .i64 (xs.getD i default).mlo, .int .i64 (xs.getD i default).mhi, .int .i64 (xs.getD i default).llo, .int .i64 (xs.getD i default).lhi] 61)) (pa hq) A3 c3
      have hstep := namesV_succ p xs i hlt
      have hlen := namesV_len p xs i
      have hlen' : (namesV p (xs.take i)).length ≤ 1000 := by omega
      generalize namesV p (xs.take i) = ys at *
      generalize xs.getD i default = x at *
      have HOwn := Lib.hid hown
      clear hown hct
      cases hp : p x with
      | false =>
        rw [hp] at hcall hstep
        have HCall := Lib.hid hcall
        have HStep := Lib.hid (show namesV p (xs.take (i + 1)) = ys by rw [hstep]; simp)
        clear hcall hstep hp
        go_wp2_with (go_at_call 114; go_must (refine HCall.out.mono ?_); rintro e w1 ⟨rfl, hb1⟩)
        go_roundw
        case rel => exact ⟨i + 1, A', c', by rw [HStep.out], by go_num, by omega, by rw [HStep.out]; exact ownsRow_past (pt (pa pr) hb1) HOwn.out, pt (pa hq) hb1⟩
        case measure => simp [intOf]; omega
      | true =>
        rw [hp] at hcall hstep
        have HCall := Lib.hid hcall
        have HStep := Lib.hid (show namesV p (xs.take (i + 1)) = ys ++ [x.name] by rw [hstep]; simp)
        clear hcall hstep hp
        have hq1 := Lib.hid (pa (o := .cells #[.string x.name, .slice A3 x.made.length c3, .int .i64 x.mlo, .int .i64 x.mhi, .int .i64 x.llo, .int .i64 x.lhi] 61) hq)
        go_wp2_with (first
          | (go_at_call 114; go_must (refine HCall.out.mono ?_); rintro e w1 ⟨rfl, hb1⟩; have bT := (Blk.new wr 61 #[.string x.name, .slice A3 x.made.length c3, .int .i64 x.mlo, .int .i64 x.mhi, .int .i64 x.llo, .int .i64 x.lhi]).past hb1; have b0 := bT.cellAt 0 rfl; have bx := bT.lt; have hq2 := pt hq1.out hb1; have hsz := hq2.size; have HO := Lib.hid ((ownsRow_past (pt (pa pr) hb1) HOwn.out).alloc (.cells #[.string x.name] 9)); have HC := Lib.hid (cellsIn_new w1 9 (.string x.name)))
          | (at_builtin; go_must (refine wpList_append_cells _ rfl (.tmp 18) (.tmp 21) _ rfl w.heap.size 9 i0 _ 1 16 Try.underlying53 hi0 hz0 hz1 hz2 rfl (by omega) _ ys.length _ rfl HO.out (w1.heap.size + 1) (some ⟨w1.heap.size, 0, none⟩) 1 1 _ rfl HC.out rfl (by simp [Value.oneCell']) (by simp only [maxLen]; omega) (by omega) (by simp; omega) ?_); intro v3 w3 hown3 hg3 hat3; obtain ⟨A3', c3', rfl, hc3', hm3⟩ := own_form hown3))
        have hb3 : Below w.heap.size w w3 := pg (pa hq2) HO.out (Nat.le_refl _) hg3
        have HOwn3 := Lib.hid hown3
        clear hown3 hg3 hat3 bT b0
        go_roundw
        case rel => exact ⟨i + 1, A3', c3', by rw [HStep.out]; simp, by go_num, by omega, by rw [HStep.out]; simpa using HOwn3.out, hb3⟩
        case measure => simp [intOf]; omega
    · have hie : i = xs.length := by omega
      subst hie
      rw [List.take_length] at hown ⊢
      have hrow := rowS_of_own hown
      obtain ⟨A2, c2, hv, hcap, _⟩ := own_form hown
      have HRow := Lib.hid hrow
      have HCap := Lib.hid (show (namesV p xs).length ≤ c' by injection hv with _ _ h; omega)
      clear hown hrow hv
      go_wp2
      go_ret
      exact ⟨A', c', rfl, HRow.out, HCap.out, hq⟩

end Go.Proofs.Ytlgioldmjohhlaa
end

section
namespace Go.Proofs.Ytlgioldmjohhlaa
open Go.RowKit

/-- All that was there is as it was. -/
def Kept (W W' : World) : Prop := Below W.heap.size W W'

theorem first3' (b c : Nat) (x y z : Int) (w : World) (h0 : w.cell? ⟨b, 0, none⟩ = some (.int .i64 x)) (h1 : w.cell? ⟨b, 1, none⟩ = some (.int .i64 y)) (h2 : w.cell? ⟨b, 2, none⟩ = some (.int .i64 z)) (v : Int) (hv : firstV [x, y, z] = v) :
    Calls Try.prog 86 #[.slice (some ⟨b, 0, none⟩) 3 c] w fun e w' => e = .returned (.int .i64 v) ∧ w = w' :=
  hv ▸ first_any (b + 1) _ c [x, y, z] w (.inr ⟨b, 0, rfl, by omega, fun j hj => by
    have : j = 0 ∨ j = 1 ∨ j = 2 := by simp at hj; omega
    rcases this with rfl | rfl | rfl
    · simpa using h0
    · simpa using h1
    · simpa using h2⟩) (by simp)

set_option maxHeartbeats 400000 in
theorem indexFuncS_open (B : Nat) (A : Option Addr) (n c : Nat) (xs : List ByteArray) (p : ByteArray → Bool) (q1 : Value) (w : World) (hr : RowIn Value.string B w A xs) (hn : xs.length = n) (hm : n ≤ 1000)
    (hcb : ∀ j, j < xs.length → Calls Try.prog 136 #[.string (xs.getD j default), q1] w fun e w' => e = .returned (.bool (p (xs.getD j default))) ∧ w = w') :
    Calls Try.prog 137 #[.slice A n c, .func (.func 136) #[] #[q1]] w fun e w' => e = .returned (.int .i64 (findG p xs 0)) ∧ w = w' := by
  subst hn
  have HC := Lib.hid hcb
  clear hcb
  go_enter Try.func137, Try.ntmps137
  go_wp2
  go_loop [8] (fun i => ∃ k : Nat, k ≤ xs.length ∧ i = .int .i64 k ∧ findG p xs 0 = findG p xs k) (fun i => xs.length - (intOf i).toNat)
  case atStart => exact ⟨0, Nat.zero_le _, rfl, rfl⟩
  case round =>
    obtain ⟨k, hk, rfl, hf⟩ := hrel
    by_cases hlt : k < xs.length
    · obtain ⟨b, off, rfl, hb, hc⟩ := hr.at_ hlt
      have hcell := hc k hlt
      have HF := Lib.hid (hf.trans (findG_step p xs k default hlt))
      have HCall := Lib.hid (HC.out k hlt)
      clear hc hf hr
      generalize xs.getD k default = y at *
      cases hxy : p y
      · have HX := Lib.hid hxy
        go_wp2_with (go_at_call 136; refine HCall.out.mono ?_; rintro e w' ⟨rfl, rfl⟩)
        go_round
        case rel => exact ⟨k + 1, by omega, by go_num, by rw [HF.out, HX.out]; simp⟩
        case measure => simp [intOf]; omega
      · have HX := Lib.hid hxy
        go_wp2_with (go_at_call 136; refine HCall.out.mono ?_; rintro e w' ⟨rfl, rfl⟩)
        go_ret
        exact ⟨ret_int (by rw [HF.out, HX.out]; simp), rfl⟩
    · have HF := Lib.hid (show findG p xs 0 = -1 by rw [hf]; exact findG_end _ _ _ (by omega))
      clear hf
      go_wp2
      go_ret
      exact ⟨ret_int HF.out.symm, rfl⟩

theorem containsFuncS_open (B : Nat) (A : Option Addr) (n c : Nat) (xs : List ByteArray) (p : ByteArray → Bool) (q1 : Value) (w : World) (hr : RowIn Value.string B w A xs) (hn : xs.length = n) (hm : n ≤ 1000)
    (hcb : ∀ j, j < xs.length → Calls Try.prog 136 #[.string (xs.getD j default), q1] w fun e w' => e = .returned (.bool (p (xs.getD j default))) ∧ w = w') :
    Calls Try.prog 100 #[.slice A n c, .func (.func 136) #[] #[q1]] w fun e w' => e = .returned (.bool (anyG p xs)) ∧ w = w' := by
  have H := Lib.hid (findG_any p xs)
  have HI := Lib.hid (indexFuncS_open B A n c xs p q1 w hr hn hm hcb)
  clear hcb hr hn
  go_enter Try.func100, Try.ntmps100
  go_wp2_with (go_at_call 137; refine HI.out.mono ?_; rintro e w' ⟨rfl, rfl⟩)
  go_ret
  exact ⟨ret_bool H.out, rfl⟩
set_option maxHeartbeats 400000 in
theorem indexFuncS_suspect (B : Nat) (A : Option Addr) (n c : Nat) (xs : List ByteArray) (p : ByteArray → Bool) (q1 q2 : Value) (w : World) (hr : RowIn Value.string B w A xs) (hn : xs.length = n) (hm : n ≤ 1000)
    (hcb : ∀ j, j < xs.length → Calls Try.prog 101 #[.string (xs.getD j default), q1, q2] w fun e w' => e = .returned (.bool (p (xs.getD j default))) ∧ w = w') :
    Calls Try.prog 137 #[.slice A n c, .func (.func 101) #[] #[q1, q2]] w fun e w' => e = .returned (.int .i64 (findG p xs 0)) ∧ w = w' := by
  subst hn
  have HC := Lib.hid hcb
  clear hcb
  go_enter Try.func137, Try.ntmps137
  go_wp2
  go_loop [8] (fun i => ∃ k : Nat, k ≤ xs.length ∧ i = .int .i64 k ∧ findG p xs 0 = findG p xs k) (fun i => xs.length - (intOf i).toNat)
  case atStart => exact ⟨0, Nat.zero_le _, rfl, rfl⟩
  case round =>
    obtain ⟨k, hk, rfl, hf⟩ := hrel
    by_cases hlt : k < xs.length
    · obtain ⟨b, off, rfl, hb, hc⟩ := hr.at_ hlt
      have hcell := hc k hlt
      have HF := Lib.hid (hf.trans (findG_step p xs k default hlt))
      have HCall := Lib.hid (HC.out k hlt)
      clear hc hf hr
      generalize xs.getD k default = y at *
      cases hxy : p y
      · have HX := Lib.hid hxy
        go_wp2_with (go_at_call 101; refine HCall.out.mono ?_; rintro e w' ⟨rfl, rfl⟩)
        go_round
        case rel => exact ⟨k + 1, by omega, by go_num, by rw [HF.out, HX.out]; simp⟩
        case measure => simp [intOf]; omega
      · have HX := Lib.hid hxy
        go_wp2_with (go_at_call 101; refine HCall.out.mono ?_; rintro e w' ⟨rfl, rfl⟩)
        go_ret
        exact ⟨ret_int (by rw [HF.out, HX.out]; simp), rfl⟩
    · have HF := Lib.hid (show findG p xs 0 = -1 by rw [hf]; exact findG_end _ _ _ (by omega))
      clear hf
      go_wp2
      go_ret
      exact ⟨ret_int HF.out.symm, rfl⟩

theorem containsFuncS_suspect (B : Nat) (A : Option Addr) (n c : Nat) (xs : List ByteArray) (p : ByteArray → Bool) (q1 q2 : Value) (w : World) (hr : RowIn Value.string B w A xs) (hn : xs.length = n) (hm : n ≤ 1000)
    (hcb : ∀ j, j < xs.length → Calls Try.prog 101 #[.string (xs.getD j default), q1, q2] w fun e w' => e = .returned (.bool (p (xs.getD j default))) ∧ w = w') :
    Calls Try.prog 100 #[.slice A n c, .func (.func 101) #[] #[q1, q2]] w fun e w' => e = .returned (.bool (anyG p xs)) ∧ w = w' := by
  have H := Lib.hid (findG_any p xs)
  have HI := Lib.hid (indexFuncS_suspect B A n c xs p q1 q2 w hr hn hm hcb)
  clear hcb hr hn
  go_enter Try.func100, Try.ntmps100
  go_wp2_with (go_at_call 137; refine HI.out.mono ?_; rintro e w' ⟨rfl, rfl⟩)
  go_ret
  exact ⟨ret_bool H.out, rfl⟩

/-- Whether a name is missing. -/
def goneB (F : Fam) (z : ByteArray) : Bool := (F z).isNone
/-- The ingredients of a name. -/
def innerOf (F : Fam) (z : ByteArray) : ByteArray → Bool := (F z).getD fun _ => false

theorem openLots1_any (b fm B k cap : Nat) (F : Fam) (z : ByteArray) (w : World) (h1 : w.cell? ⟨b, 1, none⟩ = some (.map (some fm))) (hF : FromIs B w fm F k cap) (hz : z.size ≤ 1000) :
    Calls Try.prog 136 #[.string z, .pointer (some ⟨b, 0, none⟩)] w fun e w' => e = .returned (.bool (goneB F z)) ∧ w = w' := by
  have hnil := fun (W : World) (r : Option Nat) => run_eql_map_nil (P := Try.prog) W 134 9 4 r Try.underlying134
  cases h : F z with
  | none =>
    have hl := hF.look_none hz h
    have HR := Lib.hid (show goneB F z = true by unfold goneB; rw [h]; rfl)
    clear hF h
    go_enter Try.func136, Try.ntmps136
    go_wp2
    go_ret
    exact ⟨ret_bool HR.out.symm, rfl⟩
  | some own =>
    obtain ⟨ib, hl0, _⟩ := hF.look_some hz h
    have hl := hl0 w (Below.refl _ _)
    have HR := Lib.hid (show goneB F z = false by unfold goneB; rw [h]; rfl)
    clear hF h hl0
    go_enter Try.func136, Try.ntmps136
    go_wp2
    go_ret
    exact ⟨ret_bool HR.out.symm, rfl⟩

/-- Whether z is the lot itself, or an ingredient. -/
def touchB (F : Fam) (n z : ByteArray) : Bool := sameS z n || innerOf F n z

theorem suspect1_any (xb fb fm B k cap : Nat) (F : Fam) (n z : ByteArray) (w : World) (h0 : w.cell? ⟨xb, 0, none⟩ = some (.string n)) (h1 : w.cell? ⟨fb, 1, none⟩ = some (.map (some fm))) (hF : FromIs B w fm F k cap) (hn : n.size ≤ 1000) (hz : z.size ≤ 1000) (hin : goneB F n = false) :
    Calls Try.prog 101 #[.string z, .pointer (some ⟨xb, 0, none⟩), .pointer (some ⟨fb, 0, none⟩)] w fun e w' => e = .returned (.bool (touchB F n z)) ∧ w = w' := by
  cases h : F n with
  | none => unfold goneB at hin; rw [h] at hin; cases hin
  | some own =>
    obtain ⟨ib, hl0, hs, _⟩ := hF.look_some hn h
    have hl := hl0 w (Below.refl _ _)
    have hl2 := hs.look hz
    have hR : touchB F n z = (sameS z n || own z) := by unfold touchB innerOf; rw [h]; rfl
    cases hsame : sameS z n with
    | true =>
      have hb : (z.toList == n.toList) = true := by rw [← sameS_list]; exact hsame
      rw [hsame] at hR
      have HR := Lib.hid hR
      clear hF h hl0 hR hsame
      go_enter Try.func101, Try.ntmps101
      go_wp2
      go_ret
      exact ⟨ret_bool (by rw [HR.out]; rfl), rfl⟩
    | false =>
      have hb : (z.toList == n.toList) = false := by rw [← sameS_list]; exact hsame
      rw [hsame] at hR
      have HR := Lib.hid hR
      clear hF h hl0 hR hsame
      go_enter Try.func101, Try.ntmps101
      go_wp2
      go_ret
      exact ⟨ret_bool (by rw [HR.out]; rfl), rfl⟩

/-- What has been made from some, with what these were made from. -/
def ownV (F : Fam) (made : List ByteArray) : ByteArray → Bool := made.foldl (fun own y z => own z || sameS z y || innerOf F y z) fun _ => false
theorem ownV_succ (F : Fam) (made : List ByteArray) (j : Nat) (h : j < made.length) : ownV F (made.take (j + 1)) = fun z => ownV F (made.take j) z || sameS z (made.getD j default) || innerOf F (made.getD j default) z := by
  unfold ownV
  have e : made.getD j default = made[j] := by simp [List.getD, h]
  rw [List.take_succ_eq_append_getElem h, List.foldl_append, e]
  rfl
/-- The families of the first lots. -/
def fromV (xs : List Lot) : Nat → Fam
  | 0 => fun _ => none
  | i + 1 => fun z => if sameS z (xs.getD i default).name then some (ownV (fromV xs i) (xs.getD i default).made) else fromV xs i z
def lotsE1 (xs : List Lot) (i : Nat) : Int := firstV [lotE (xs.getD i default), unlessV (goneB (fromV xs i) (xs.getD i default).name) 5, unlessV (!anyG (goneB (fromV xs i)) (xs.getD i default).made) 6]
def openLotsV (xs : List Lot) : Nat × Int := if 20 < xs.length then (0, 8) else scan (lotsE1 xs) xs.length 0

/-- How many entries a set has at most. -/
def capV (i : Nat) : Nat := 6 * 7 ^ i
theorem capV_succ (i : Nat) : capV (i + 1) = 7 * capV i := by unfold capV; rw [Nat.pow_succ]; omega
theorem capV_six (i : Nat) : 6 ≤ capV i := by unfold capV; have := Nat.pow_pos (n := i) (show 0 < 7 by decide); omega
theorem roomy {i k : Nat} (hi : i ≤ 19) (hk : k ≤ 7 * capV i + 7) : k < 1000000000000000000 := by
  have h : (7 : Nat) ^ i ≤ 7 ^ 19 := Nat.pow_le_pow_right (by decide) hi
  have h2 : (7 : Nat) ^ 19 = 11398895185373143 := by decide
  unfold capV at hk
  omega

theorem lotE_made {x : Lot} (h : lotE x = 0) : x.made.length ≤ 6 ∧ nameB x.name = true := by
  unfold lotE at h
  by_cases h1 : lotE1 x = 0
  · obtain ⟨h2, h3⟩ := firstV_zero.1 h1
    have h4 := (unless_ne (by decide)).1 (firstV_zero.1 h3).1
    have h5 := (unless_ne (by decide)).1 h2
    exact ⟨by have := of_decide_eq_true h4; omega, h5⟩
  · rw [if_pos h1] at h
    exact absurd h h1

end Go.Proofs.Ytlgioldmjohhlaa
end

section
namespace Go.Proofs.Ytlgioldmjohhlaa
open Go.RowKit Go.Maps

def SmallLots (xs : List Lot) : Prop := xs.length ≤ 1000 ∧ ∀ i, i < xs.length → SmallLot (xs.getD i default)

def LotsPost (xs : List Lot) (A : Option Addr) (c : Nat) (w : World) (e : Ending) (w' : World) : Prop :=
  ∃ fm, e = .returned (.tuple #[.agg #[.slice A xs.length c, .map (some fm)], .int .i64 ((openLotsV xs).1 : Int), .int .i64 (openLotsV xs).2]) ∧
    ((openLotsV xs).2 = 0 → FromIs w'.heap.size w' fm (fromV xs xs.length) xs.length (capV xs.length)) ∧ Below w.heap.size w w'

/-- As LotsPost; the families of the lots before an error are known too. -/
def LotsPost2 (xs : List Lot) (A : Option Addr) (c : Nat) (w : World) (e : Ending) (w' : World) : Prop :=
  ∃ fm F k cap, e = .returned (.tuple #[.agg #[.slice A xs.length c, .map (some fm)], .int .i64 ((openLotsV xs).1 : Int), .int .i64 (openLotsV xs).2]) ∧
    FromIs w'.heap.size w' fm F k cap ∧ ((openLotsV xs).2 = 0 → F = fromV xs xs.length ∧ k = xs.length ∧ cap = capV xs.length) ∧ Below w.heap.size w w'

theorem ownsMap_cell {w : World} {k : TypeId} {R : Value → Option (DataW Unit × List MemPlace)} {b n g : Nat} {t : TypeId} {cs : Array Value} {D : DataW Unit} (h : w.ownsMap Try.prog k R b n D) (hb : Blk w g t cs) {p : Addr} (hp : p.block = g) (u : Value) : (w.setCell p u).ownsMap Try.prog k R b n D := by
  refine h.setCell (fun e => ?_) u
  obtain ⟨es, clock, h1, _⟩ := h
  unfold Blk at hb
  rw [e, hp, hb] at h1
  cases h1
theorem FromIs.cell {B fm k cap g : Nat} {F : Fam} {w : World} {t : TypeId} {cs : Array Value} (h : FromIs B w fm F k cap) (hb : Blk w g t cs) {p : Addr} (hp : p.block = g) (u : Value) : FromIs B (w.setCell p u) fm F k cap := by
  obtain ⟨D, h1, h2, h3⟩ := h
  refine ⟨D, ownsMap_cell h1 hb hp u, h2, fun z => ⟨(h3 z).1, fun own ho => ?_⟩⟩
  obtain ⟨b, g1, ⟨D2, g2, g3⟩, g4, g5⟩ := (h3 z).2 own ho
  exact ⟨b, g1, ⟨D2, ownsMap_cell g2 hb hp u, g3⟩, g4, g5⟩

/-- What holds of memory at the head of a round over the lots. -/
def FamRel (w : World) (xs : List Lot) (A : Option Addr) (c i : Nat) (wr : World) : Prop :=
  Blk wr w.heap.size 129 #[.slice none 0 0, .map none] ∧ Blk wr (w.heap.size + 1 + 1) 129 #[.slice A xs.length c, .map (some (w.heap.size + 1))] ∧
    FromIs wr.heap.size wr (w.heap.size + 1) (fromV xs i) i (capV i) ∧ Below w.heap.size w wr

/-- What holds of memory while the ingredients of a lot are gathered. -/
def OwnBase (B : Nat) (w : World) (n : Nat) (A : Option Addr) (c i : Nat) (x : Lot) (A3 : Option Addr) (c3 tb ob : Nat) (F : Fam) (W : World) : Prop :=
  Blk W w.heap.size 129 #[.slice none 0 0, .map none] ∧ Blk W (w.heap.size + 1 + 1) 129 #[.slice A n c, .map (some (w.heap.size + 1))] ∧
    Blk W tb 61 #[.string x.name, .slice A3 x.made.length c3, .int .i64 x.mlo, .int .i64 x.mhi, .int .i64 x.llo, .int .i64 x.lhi] ∧ FromIs ob W (w.heap.size + 1) F i (capV i) ∧ RowIn Value.string B W A3 x.made ∧ Below w.heap.size w W
theorem OwnBase.grown {B : Nat} {w : World} {n : Nat} {A : Option Addr} {c i : Nat} {x : Lot} {A3 : Option Addr} {c3 tb ob : Nat} {F : Fam} {W W' : World} {row : Option Nat} (h : OwnBase B w n A c i x A3 c3 tb ob F W) (hg : W.grownBy W' row)
    (hr : ∀ j, row = some j → ob ≤ j) (hob : w.heap.size + 1 + 1 < ob) (htb : tb < ob) (hB : B ≤ w.heap.size) : OwnBase B w n A c i x A3 c3 tb ob F W' := by
  obtain ⟨h1, h2, h3, h4, h5, h6⟩ := h
  have hne : ∀ b, b < ob → some b ≠ row := fun b hb e => by have := hr b e.symm; omega
  have h7 : Below w.heap.size w W' := h6.grown hg h6.size fun k hk => by have := hr k hk; omega
  have h8 : Below B W W' := ⟨hg.os, hg.tape, hg.output, hg.size, fun k hk => hg.block k (by have := h6.size; omega) (hne k (by omega))⟩
  exact ⟨h1.grown hg (hne _ (by omega)), h2.grown hg (hne _ (by omega)), h3.grown hg (hne _ htb), h4.grown hg hr, h5.below h8, h7⟩

theorem getD_in {α : Type} {l : List α} {j : Nat} {d : α} (h : j < l.length) : l.getD j d ∈ l := by
  have e : l.getD j d = l[j] := by simp [List.getD, h]
  rw [e]
  exact List.getElem_mem h

theorem lookAll_none {B fm k cap : Nat} {F : Fam} {w : World} {z : ByteArray} (h : FromIs B w fm F k cap) (hB : B ≤ w.heap.size) (hz : z.size ≤ 1000) (hF : F z = none) :
    ∀ W, Below w.heap.size w W → (Instr.lookup 127 (.map (some fm)) (.string z) false).run Try.prog W = .ok (.map none) W := fun _ hW => (h.past hB hW).look_none hz hF

set_option maxHeartbeats 4000000 in
set_option maxRecDepth 100000 in
theorem openLots_any2 (B : Nat) (xs : List Lot) (A : Option Addr) (c : Nat) (w : World) (hr : LotsIn B w A xs) (hB : B ≤ w.heap.size) (hs : SmallLots xs) :
    Calls Try.prog 95 #[.slice A xs.length c] w (LotsPost2 xs A c w) := by
  obtain ⟨hs1, hs2⟩ := hs
  have HS2 := Lib.hid hs2
  have HR := Lib.hid hr
  have hmm := @run_makeMap Try.prog
  have hnil := fun (W : World) (r : Option Nat) => run_eql_map_nil (P := Try.prog) W 134 9 4 r Try.underlying134
  clear hs2 hr
  by_cases hlen : 20 < xs.length
  · have HV := Lib.hid (show openLotsV xs = (0, 8) by unfold openLotsV; rw [if_pos hlen])
    go_enter Try.func95, Try.ntmps95
    go_wp2
    refine bodyPost_ret (v := .tuple #[.agg #[.slice A xs.length c, .map (some (w.heap.size + 1))], .int .i64 0, .int .i64 8]) (by simp [results, Try.results95, go_sem]) rfl ?_
    have hF0 := FromIs.made (cap := capV 0) (w.alloc (.cells #[.slice A xs.length c, .map (some (w.heap.size + 1))] 129))
    simp only [World.size_alloc] at hF0
    refine ⟨w.heap.size + 1, fun _ => none, 0, capV 0, by rw [HV.out]; rfl, ?_, (by rw [HV.out]; exact fun h => nomatch h), pa (pa (pa pr))⟩
    exact (hF0.below ((pa (Below.refl _ _)).mono (by simp))).more (by simp)
  · have HV := Lib.hid (show openLotsV xs = scan (lotsE1 xs) xs.length 0 by unfold openLotsV; rw [if_neg hlen])
    have hle : xs.length ≤ 20 := by omega
    clear hlen
    go_enter Try.func95, Try.ntmps95
    go_wp2
    go_loopw [23] (fun ix wr => ∃ i : Nat, ix = .int .i64 (i : Int) ∧ i ≤ xs.length ∧ scan (lotsE1 xs) xs.length 0 = scan (lotsE1 xs) xs.length i ∧ FamRel w xs A c i wr) (fun ix _ => xs.length - (intOf ix).toNat)
    case atStart =>
      refine ⟨0, rfl, Nat.zero_le _, rfl, ((Blk.newAt rfl).alloc).alloc, Blk.newAt (by simp), ?_, pa (pa (pa pr))⟩
      have h := FromIs.made (cap := capV 0) (w.alloc (.cells #[.slice none 0 0, .map none] 129))
      simp only [World.size_alloc] at h
      exact (h.below (pa (Below.refl _ _) |>.mono (by simp))).more (by simp)
    case round =>
      obtain ⟨i, rfl, hi, hf, q0, q2, qF, hq⟩ := hrel
      by_cases hlt : i < xs.length
      · obtain ⟨b, off, hA, hbB, hct⟩ := (HR.out.below (hq.mono hB)).at_ hlt
        subst hA
        obtain ⟨t0, A3, c3, t1, tr, tc, t2, t3, t4, t5⟩ := hct i hlt
        have hBr : B ≤ wr.heap.size := Nat.le_trans hB hq.size
        have hbw : b < wr.heap.size := Nat.lt_of_lt_of_le hbB hBr
        have n0 : (0 : Int) ≤ (i : Int) := by omega
        have n1 : (i : Int) < (xs.length : Int) := by omega
        have hsm := HS2.out i hlt
        have HF := Lib.hid (hf.trans (scan_step hlt))
        have HE := Lib.hid (show firstV [lotE (xs.getD i default), unlessV (goneB (fromV xs i) (xs.getD i default).name) 5, unlessV (!anyG (goneB (fromV xs i)) (xs.getD i default).made) 6] = lotsE1 xs i from rfl)
        have HFS := Lib.hid (show fromV xs (i + 1) = fun z => if sameS z (xs.getD i default).name then some (ownV (fromV xs i) (xs.getD i default).made) else fromV xs i z from rfl)
        clear hct hf
        generalize xs.getD i default = x at *
        generalize fromV xs i = F at *
        have hsm2 := hsm.2.2
        have hsm1 := hsm.1
        have hsm0 := hsm.2.1
        have HSm2 := Lib.hid hsm2
        have HSm := Lib.hid hsm
        have HTr := Lib.hid tr
        have HQF := Lib.hid qF
        have g1 : wr.cell? ⟨w.heap.size + 1 + 1, 1, none⟩ = some (.map (some (w.heap.size + 1))) := q2.cellAt 1 rfl
        have g0 : wr.cell? ⟨w.heap.size + 1 + 1, 0, none⟩ = some (.slice (some ⟨b, off, none⟩) xs.length c) := q2.cellAt 0 rfl
        have gx := q2.lt
        have gx6 : w.heap.size + 1 + 1 < wr.heap.size + 1 := by omega
        have hcf := containsFuncS_open B A3 x.made.length c3 x.made (goneB F) (.pointer (some ⟨w.heap.size + 1 + 1, 0, none⟩)) (wr.alloc (.cells #[.string x.name, .slice A3 x.made.length c3, .int .i64 x.mlo, .int .i64 x.mhi, .int .i64 x.llo, .int .i64 x.lhi] 61)) (tr.below ((pa pr).mono hBr)) rfl hsm0
          (fun j hj => openLots1_any (w.heap.size + 1 + 1) (w.heap.size + 1) wr.heap.size i (capV i) F _ _ ((q2.alloc).cellAt 1 rfl) (qF.below (pa pr)) (hsm2 j))
        have HCF := Lib.hid hcf
        clear hcf hsm2 hsm tr qF
        have hlook : ∃ mv : Option Nat, (∀ W, Below wr.heap.size wr W → (Instr.lookup 127 (.map (some (w.heap.size + 1))) (.string x.name) false).run Try.prog W = .ok (.map mv) W) ∧ mv.isNone = goneB F x.name := by
          cases hF : F x.name with
          | none => exact ⟨none, fun W hW => (HQF.out.below hW).look_none hsm1 hF, by unfold goneB; rw [hF]; rfl⟩
          | some own =>
            obtain ⟨ib, h1, _⟩ := HQF.out.look_some hsm1 hF
            exact ⟨some ib, h1, by unfold goneB; rw [hF]; rfl⟩
        obtain ⟨mv, hlook, hmv⟩ := hlook
        have hlook6 : ∀ W, Kept (wr.alloc (.cells #[.string x.name, .slice A3 x.made.length c3, .int .i64 x.mlo, .int .i64 x.mhi, .int .i64 x.llo, .int .i64 x.lhi] 61)) W → (Instr.lookup 127 (.map (some (w.heap.size + 1))) (.string x.name) false).run Try.prog W = .ok (.map mv) W := fun W hW => hlook W (pt (pa pr) hW)
        clear hlook
        go_wp2_with (go_at_call 100; go_must (refine HCF.out.mono ?_); rintro e w' ⟨rfl, rfl⟩)
        generalize hmiss : anyG (goneB F) x.made = miss at *
        have HMiss := Lib.hid hmiss
        clear hmiss
        refine region_below 12 follows_mixed (by kernel_rfl) ?_
        intro C hC
        simp only [List.take_succ_cons, List.take_zero, List.drop_succ_cons, List.drop_zero]
        repeat (first
          | ((with_reducible refine quiet_plain rfl (fun K hK => ?_)); (focus (apply quiet_val; (focus (intro w' hw; have hbq : Kept _ _ := (hC.out _).1 hw; obtain ⟨hcq, hfq⟩ := bcell ((hC.out _).1 hw); go_simp; (first | done | rfl | (with_reducible exact call_below hC hw (lotErr_any B x A3 x.made.length c3 _ rfl (HTr.out.below (((pt (pa pr) ((hC.out _).1 hw)).mono hBr))) (Nat.le_trans hBr (pt (pa pr) ((hC.out _).1 hw)).size) HSm.out tc)) | (with_reducible exact call_same hw (unless_any _ _ _))))); (simp only [Act.put, List.setIfInBounds_toArray, List.set_cons_succ, List.set_cons_zero]); (with_reducible refine hK _ ?_); clear hK K)))
          | ((with_reducible refine quiet_skip ?_ ?_); (focus (simp [Region.wanted, yielded]; done)); simp only [Act.put, List.setIfInBounds_toArray, List.set_cons_succ, List.set_cons_zero])
          | ((with_reducible refine quiet_go ?_ (fun K hK => ?_)); (focus (simp [Region.wanted, yielded]; done)); (focus (apply quiet_val; (focus (intro w' hw; have hbq : Kept _ _ := (hC.out _).1 hw; obtain ⟨hcq, hfq⟩ := bcell ((hC.out _).1 hw); go_simp; (first | done | rfl | (with_reducible exact call_below hC hw (lotErr_any B x A3 x.made.length c3 _ rfl (HTr.out.below (((pt (pa pr) ((hC.out _).1 hw)).mono hBr))) (Nat.le_trans hBr (pt (pa pr) ((hC.out _).1 hw)).size) HSm.out tc)) | (with_reducible exact call_same hw (unless_any _ _ _))))); (simp only [Act.put, List.setIfInBounds_toArray, List.set_cons_succ, List.set_cons_zero]); (with_reducible refine hK _ ?_); clear hK K))))
        refine wpQuiet_nil ?_
        intro w1 hb1
        replace hb1 := (hC.out _).1 hb1
        clear hC C
        obtain ⟨hc1, hf1⟩ := bcell hb1
        have hq1 : Below w.heap.size w w1 := pt (pa hq) hb1
        have k0 := (q0.alloc).past hb1
        have k2 := (q2.alloc).past hb1
        have kT : Blk w1 wr.heap.size 61 #[.string x.name, .slice A3 x.made.length c3, .int .i64 x.mlo, .int .i64 x.mhi, .int .i64 x.llo, .int .i64 x.lhi] := (Blk.new wr _ _).past hb1
        have hQF1 := HQF.out.below (pt (pa pr) hb1)
        have hTr1 := HTr.out.below ((pt (pa pr) hb1).mono hBr)
        have hz1 := hq1.size
        have e0 : w1.cell? ⟨w.heap.size, 0, none⟩ = some (.slice none 0 0) := k0.cellAt 0 rfl
        have e1 : w1.cell? ⟨w.heap.size, 1, none⟩ = some (.map none) := k0.cellAt 1 rfl
        have f0 := k0.frozen 0
        have f1 := k0.frozen 1
        have g0 : w1.cell? ⟨w.heap.size + 1 + 1, 0, none⟩ = some (.slice (some ⟨b, off, none⟩) xs.length c) := k2.cellAt 0 rfl
        have g1 : w1.cell? ⟨w.heap.size + 1 + 1, 1, none⟩ = some (.map (some (w.heap.size + 1))) := k2.cellAt 1 rfl
        have x0 := k0.lt
        have x2 := k2.lt
        have xT := kT.lt
        have t0 : w1.cell? ⟨wr.heap.size, 0, none⟩ = some (.string x.name) := kT.cellAt 0 rfl
        have t1 : w1.cell? ⟨wr.heap.size, 1, none⟩ = some (.slice A3 x.made.length c3) := kT.cellAt 1 rfl
        have HQF1 := Lib.hid hQF1
        have HTr1 := Lib.hid hTr1
        have HMv := Lib.hid hmv
        clear hc1 hf1 hlook6 gx gx6 hmv hQF1 hTr1 q0 q2 t2 t3 t4 t5
        by_cases hz : lotsE1 xs i = 0
        · have HZ := Lib.hid hz
          have HG := Lib.hid (show scan (lotsE1 xs) xs.length 0 = scan (lotsE1 xs) xs.length (i + 1) by rw [HF.out, if_pos hz])
          have hparts : lotE x = 0 ∧ goneB F x.name = true ∧ miss = false := by
            have h := HE.out
            rw [hz] at h
            obtain ⟨h1, h2⟩ := firstV_zero.1 h
            obtain ⟨h3, h4⟩ := firstV_zero.1 h2
            have h5 := (unless_ne (by decide)).1 h3
            have h6 := (unless_ne (by decide)).1 (firstV_zero.1 h4).1
            exact ⟨h1, h5, by simpa using h6⟩
          obtain ⟨hl0, hgone, hmi⟩ := hparts
          have hmade := (lotE_made hl0).1
          have hall : ∀ j, j < x.made.length → ∃ own, F (x.made.getD j default) = some own := fun j hj => by
            have h := HMiss.out
            rw [hmi] at h
            unfold anyG at h
            rw [List.any_eq_false] at h
            have h2 := h (x.made.getD j default) (getD_in hj)
            cases hF : F (x.made.getD j default) with
            | none => unfold goneB at h2; rw [hF] at h2; simp at h2
            | some own => exact ⟨own, rfl⟩
          have HAll := Lib.hid hall
          have HHE := Lib.hid (HE.out.trans hz)
          clear hz hl0 hgone hmi hall
          go_wp2_with (go_at_call 86; go_must (refine (first3' _ _ _ _ _ _ (by first | (go_simp; done) | (go_simp; rfl)) (by first | (go_simp; done) | (go_simp; rfl)) (by first | (go_simp; done) | (go_simp; rfl)) _ HHE.out).mono ?_); rintro e w' ⟨rfl, rfl⟩)
          have hbase : OwnBase B w xs.length (some ⟨b, off, none⟩) c i x A3 c3 wr.heap.size (w1.heap.size + 1) F ((w1.alloc (.cells #[.int .i64 (lotE x), .int .i64 (unlessV (goneB F x.name) 5), .int .i64 (unlessV (!miss) 6)] 29)).alloc (.map #[] 0)) :=
            ⟨k0.alloc.alloc, k2.alloc.alloc, kT.alloc.alloc, (HQF1.out.below (Below.mono (pa (pa pr)) (by omega))).more (by omega), HTr1.out.below (Below.mono (pa (pa pr)) (by omega)), pa (pa hq1)⟩
          have hset : SetIs ((w1.alloc (.cells #[.int .i64 (lotE x), .int .i64 (unlessV (goneB F x.name) 5), .int .i64 (unlessV (!miss) 6)] 29)).alloc (.map #[] 0)) (w1.heap.size + 1) (ownV F (x.made.take 0)) 0 := by
            have h := SetIs.made (w1.alloc (.cells #[.int .i64 (lotE x), .int .i64 (unlessV (goneB F x.name) 5), .int .i64 (unlessV (!miss) 6)] 29))
            simp only [World.size_alloc] at h
            exact h
          have HBase := Lib.hid hbase
          have HSet := Lib.hid hset
          clear hbase hset
          have hob : w.heap.size + 1 + 1 < w1.heap.size + 1 := by omega
          have htb : wr.heap.size < w1.heap.size + 1 := by omega
          have HSm0 := Lib.hid (show x.made.length ≤ 1000 by omega)
          clear e0 e1 f0 f1 g0 g1 x0 x2 xT t0 t1 k0 k2 kT hb1
          obtain ⟨wo, rfl⟩ : ∃ wo : World, wo = wr := ⟨_, rfl⟩
          go_loopw [55] (fun jx wr2 => ∃ j k : Nat, jx = .int .i64 (j : Int) ∧ j ≤ x.made.length ∧ OwnBase B w xs.length (some ⟨b, off, none⟩) c i x A3 c3 wo.heap.size (w1.heap.size + 1) F wr2 ∧ k ≤ j * (1 + capV i) ∧ SetIs wr2 (w1.heap.size + 1) (ownV F (x.made.take j)) k) (fun jx _ => x.made.length - (intOf jx).toNat)
          case atStart => exact ⟨0, 0, rfl, Nat.zero_le _, HBase.out, Nat.zero_le _, HSet.out⟩
          case round =>
            obtain ⟨j, k, rfl, hj, hbase, hk, hset⟩ := hrel
            have HB2 := Lib.hid hbase
            obtain ⟨p0, p2, pT, pF, pr2, pq⟩ := hbase
            have HSet2 := Lib.hid hset
            have hpq := pq.size
            clear hset
            by_cases hlt2 : j < x.made.length
            · obtain ⟨b4, off4, hA4, hb4, hc4⟩ := pr2.at_ hlt2
              subst hA4
              have hcell := hc4 j hlt2
              have hb4w : b4 < wr.heap.size := by omega
              obtain ⟨owny, howny⟩ := HAll.out j hlt2
              have hysz := HSm2.out j
              have hownS := ownV_succ F x.made j hlt2
              have hg1 : wr.cell? ⟨w.heap.size + 1 + 1, 1, none⟩ = some (.map (some (w.heap.size + 1))) := p2.cellAt 1 rfl
              have hg2 := p2.lt
              have hkk : k < 1000000000000000000 := roomy (i := i) (by omega) (by have := capV_six i; have := Nat.mul_le_mul_right (1 + capV i) (show j ≤ 6 by omega); omega)
              have HKk := Lib.hid hkk
              generalize x.made.getD j default = y at *
              have HInner := Lib.hid (show innerOf F y = owny by unfold innerOf; rw [howny]; rfl)
              have HOwny := Lib.hid howny
              have HOwnS := Lib.hid hownS
              clear hc4 hkk hownS howny p0 p2 pT pF pr2 pq
              have m0 : (0 : Int) ≤ (j : Int) := by omega
              have m1 : (j : Int) < (x.made.length : Int) := by omega
              go_wp2_with (first
                | (at_mapUpdate; go_must (refine wpList_set_add _ rfl (.tmp 59) (.tmp 60) _ rfl (w1.heap.size + 1) k _ rfl HSet2.out HKk.out y rfl rfl (by unfold maxLen; omega) ?_); intro w4 hset4 hg4; have HB4 := Lib.hid (HB2.out.grown hg4 (fun j hj => by injection hj with hj; omega) hob htb hB); have HSet4 := Lib.hid hset4; have q4 := HB4.out.2.1; have hg41 : w4.cell? ⟨w.heap.size + 1 + 1, 1, none⟩ = some (.map (some (w.heap.size + 1))) := q4.cellAt 1 rfl; have hg42 := q4.lt; obtain ⟨ib, hl4, hs4, hib, hibne⟩ := FromIs.look_some HB4.out.2.2.2.1 hysz HOwny.out; have hl5 := hl4 w4 (Below.refl _ _); obtain ⟨D4, hD4, hDv4⟩ := hs4; have HD4 := Lib.hid hD4; have HDv4 := Lib.hid hDv4; clear hset4 hg4 hl4 hD4 hDv4 q4 hg1 hg2)
                | (at_range; go_must (refine wpList_range_own _ rfl (.tmp 64) _ rfl 9 4 strKeyed Try.underlying134 _ ib (capV i) D4 rfl HD4.out ?_); intro w5 hrg5 hg5 hs5))
              have HB5 := Lib.hid (HB4.out.grown hg5 (fun _ hj => nomatch hj) hob htb hB)
              have HSet5 := Lib.hid (HSet4.out.kept hg5 (by simp))
              have hobw := HSet4.out.lt
              have hsz4 := HD4.out.size_le
              have hmul : (j + 1) * (1 + capV i) = j * (1 + capV i) + (1 + capV i) := Nat.succ_mul _ _
              have hk5 : k + 1 + size D4 ≤ (j + 1) * (1 + capV i) := by omega
              have hroom : ∀ q, q ≤ (j + 1) * (1 + capV i) → q < 1000000000000000000 := fun q hq => roomy (i := i) (by omega) (by have := capV_six i; have := Nat.mul_le_mul_right (1 + capV i) (show j + 1 ≤ 6 by omega); omega)
              have HK5 := Lib.hid hk5
              have HRoom := Lib.hid hroom
              have HRg5 := Lib.hid hrg5
              clear hsz4 hmul hk5 hroom hrg5 hg5 hl5 hg41 hg42 hcell hk
              obtain ⟨wo2, rfl⟩ : ∃ wo2 : World, wo2 = wr := ⟨_, rfl⟩
              go_frame
              go_loopw [13] (fun _ wr3 => ∃ (left : Lit → Bool) (cnt k3 : Nat) (G : ByteArray → Bool), wr3.ranges Try.prog 9 (plainElem Try.prog 4) ib w4.heap.size (capV i) D4 left cnt ∧ SetIs wr3 (w1.heap.size + 1) G k3 ∧
                (∀ z, G z = (ownV F (x.made.take j) z || sameS z y || (owny z && !left (klit z)))) ∧ k3 + cnt ≤ (j + 1) * (1 + capV i) ∧ OwnBase B w xs.length (some ⟨b, off, none⟩) c i x (some ⟨b4, off4, none⟩) c3 wo.heap.size (w1.heap.size + 1) F wr3) (fun _ wr3 => wr3.rangeLeft ib w4.heap.size)
              case atStart => exact ⟨has D4, size D4, k + 1, _, HRg5.out, HSet5.out, fun z => by rw [(HDv4.out z).1]; cases owny z <;> simp, HK5.out, HB5.out⟩
              case round =>
                obtain ⟨left, cnt, k3, G, hrg, hsetG, hG, hk3, hb3⟩ := hrel
                have HRg := Lib.hid hrg
                have HSetG := Lib.hid hsetG
                have HG3 := Lib.hid hG
                have HB3 := Lib.hid hb3
                have HK3 := Lib.hid hk3
                clear hrg hsetG hG hb3 hk3
                go_wp2_with (first
                  | (at_next; go_must (refine wpList_next_set _ rfl (.tmp 65) rfl ib w4.heap.size _ D4 left cnt rfl HRg.out (fun hc0 hl0 => ?_) (fun z cb w6 cnt' hzs hleft hhas hrg6 hlt6 hg6 hs6 hen => ?_)))
                  | (at_mapUpdate; go_must (refine wpList_set_add _ rfl (.tmp 70) (.tmp 71) _ rfl (w1.heap.size + 1) k3 G rfl (HSetG.out.kept hg6 (by simp; omega)) (HRoom.out _ (by have := HK3.out; omega)) z rfl rfl hzs ?_); intro w7 hset7 hg7))
                · have hG0 : ∀ z, ownV F (x.made.take (j + 1)) z = G z := fun z => by
                    have h1 := congrFun HOwnS.out z
                    rw [HInner.out] at h1
                    rw [h1, HG3.out z, hl0]
                    simp
                  have HRes := Lib.hid (HSetG.out.congr hG0)
                  go_roundw
                  case rel => exact ⟨j + 1, k3, by go_num, by omega, HB3.out, by have := HK3.out; omega, HRes.out⟩
                  case measure => simp [intOf]; omega
                · have hb6 := HB3.out.grown hg6 (fun q hq => by injection hq with hq; omega) hob htb hB
                  have hb7 := hb6.grown hg7 (fun q hq => by injection hq with hq; omega) hob htb hB
                  have hr7 := hrg6.kept hg7 (by simp; omega) (by simp; omega)
                  have hG7 : ∀ z', (G z' || sameS z' z) = (ownV F (x.made.take j) z' || sameS z' y || (owny z' && !(left (klit z') && !(klit z').sameKey (klit z)))) := fun z' => by
                    rw [HG3.out z', klit_same]
                    cases hs : sameS z' z with
                    | true =>
                      have e := sameS_iff.1 hs
                      subst e
                      have ho : owny z' = true := by rw [← (HDv4.out z').1]; exact hhas
                      simp [ho]
                    | false => simp
                  have hk7 : k3 + 1 + cnt' ≤ (j + 1) * (1 + capV i) := by have := HK3.out; omega
                  have hm7 : w7.rangeLeft ib w4.heap.size < wr.rangeLeft ib w4.heap.size := by rw [hr7.left_eq, HRg.out.left_eq]; exact hlt6
                  go_roundw
                  case rel => exact ⟨_, _, _, _, _, _, _, ⟨_, cnt', k3 + 1, _, hr7, hset7, hG7, hk7, hb7⟩, rfl⟩
                  case measure => exact hm7
            · have hje : j = x.made.length := by omega
              subst hje
              rw [List.take_length] at HSet2
              have hg1 : wr.cell? ⟨w.heap.size + 1 + 1, 1, none⟩ = some (.map (some (w.heap.size + 1))) := p2.cellAt 1 rfl
              have hT0 : wr.cell? ⟨wo.heap.size, 0, none⟩ = some (.string x.name) := pT.cellAt 0 rfl
              have hg2 := p2.lt
              have hT2 := pT.lt
              have hkc : k ≤ 7 * capV i := by have := capV_six i; have := Nat.mul_le_mul_right (1 + capV i) (show x.made.length ≤ 6 by omega); omega
              have hF' := (pF.more (Nat.le_succ _)).mono (show capV i ≤ 7 * capV i by omega)
              have hS' := HSet2.out.mono hkc
              have HF' := Lib.hid hF'
              have HS' := Lib.hid hS'
              have HP0 := Lib.hid p0
              have HP2 := Lib.hid p2
              have hi19 : i < 1000000 := by omega
              clear hF' hS' p0 p2 pT pF pr2 hk hkc
              go_wp2_with (at_mapUpdate; go_must (refine wpList_from_put _ rfl (.tmp 74) (.tmp 76) (.tmp 77) rfl (w1.heap.size + 1 + 1) (w.heap.size + 1) i (7 * capV i) (w1.heap.size + 1) F _ rfl HF'.out (by omega) x.name rfl rfl hsm1 HS'.out (Nat.lt_succ_self _) (by omega) ?_); intro w7 hF7 hg7)
              have k0 := HP0.out.grown hg7 (by simp)
              have k2 := HP2.out.grown hg7 (by simp)
              have hsz7 := hg7.size
              have hq7 : Below w.heap.size w w7 := pq.grown hg7 pq.size (fun q hq => by injection hq with hq; omega)
              have hlt7 : w1.heap.size + 1 < wr.heap.size := HSet2.out.lt
              have hrel : FamRel w xs (some ⟨b, off, none⟩) c (i + 1) w7 := ⟨k0, k2, by rw [HFS.out, capV_succ]; exact hF7.more (by omega), hq7⟩
              go_roundw
              case rel => exact ⟨i + 1, by go_num, by omega, HG.out, hrel⟩
              case measure => simp [intOf]; omega
        · have hz2 : (lotsE1 xs i == 0) = false := by simpa using hz
          have HG := Lib.hid (show openLotsV xs = (i, lotsE1 xs i) by rw [HV.out, HF.out, if_neg hz])
          have HZ := Lib.hid hz
          clear hz
          go_wp2_with (go_at_call 86; go_must (refine (first3' _ _ _ _ _ _ (by first | (go_simp; done) | (go_simp; rfl)) (by first | (go_simp; done) | (go_simp; rfl)) (by first | (go_simp; done) | (go_simp; rfl)) _ HE.out).mono ?_); rintro e w' ⟨rfl, rfl⟩)
          refine bodyPost_ret (v := .tuple #[.agg #[.slice (some ⟨b, off, none⟩) xs.length c, .map (some (w.heap.size + 1))], .int .i64 (i : Int), .int .i64 (lotsE1 xs i)]) (by simp [results, Try.results95, go_sem, e0, e1, x0]) rfl ?_
          have hF1 := (HQF1.out.cell k0 (p := ⟨w.heap.size, 0, none⟩) rfl (.slice (some ⟨b, off, none⟩) xs.length c)).cell (k0.set_ 0 (.slice (some ⟨b, off, none⟩) xs.length c)) (p := ⟨w.heap.size, 1, none⟩) rfl (.map (some (w.heap.size + 1)))
          refine ⟨w.heap.size + 1, F, i, capV i, by rw [HG.out], ?_, (by rw [HG.out]; exact fun h => absurd h HZ.out), pa (ps (ps hq1 (by dsimp only; omega)) (by dsimp only; omega))⟩
          have hF2 := hF1.below ((pa (o := .cells #[.int .i64 (lotE x), .int .i64 (unlessV (goneB F x.name) 5), .int .i64 (unlessV (!miss) 6)] 29) (Below.refl _ _)).mono (by first | omega | (simp; omega)))
          exact hF2.more (by first | omega | (simp; omega))
      · have hie : i = xs.length := by omega
        subst hie
        have HG := Lib.hid (show openLotsV xs = (0, 0) by rw [HV.out, hf]; exact scan_end (Nat.le_refl _))
        have HQF := Lib.hid qF
        have HQ0 := Lib.hid q0
        have e0 : wr.cell? ⟨w.heap.size, 0, none⟩ = some (.slice none 0 0) := q0.cellAt 0 rfl
        have e1 : wr.cell? ⟨w.heap.size, 1, none⟩ = some (.map none) := q0.cellAt 1 rfl
        have f0 := q0.frozen 0
        have f1 := q0.frozen 1
        have g0 : wr.cell? ⟨w.heap.size + 1 + 1, 0, none⟩ = some (.slice A xs.length c) := q2.cellAt 0 rfl
        have g1 : wr.cell? ⟨w.heap.size + 1 + 1, 1, none⟩ = some (.map (some (w.heap.size + 1))) := q2.cellAt 1 rfl
        have x0 := q0.lt
        have x2 := q2.lt
        clear hf qF q0 q2
        go_wp2
        refine bodyPost_ret (v := .tuple #[.agg #[.slice A xs.length c, .map (some (w.heap.size + 1))], .int .i64 0, .int .i64 0]) (by simp [results, Try.results95, go_sem, e0, e1]) rfl ?_
        refine ⟨w.heap.size + 1, fromV xs xs.length, xs.length, capV xs.length, by rw [HG.out]; rfl, ?_, fun _ => ⟨rfl, rfl, rfl⟩, ps (ps hq (by dsimp only; omega)) (by dsimp only; omega)⟩
        have h := (HQF.out.cell HQ0.out (p := ⟨w.heap.size, 0, none⟩) rfl (.slice A xs.length c)).cell (HQ0.out.set_ 0 (.slice A xs.length c)) (p := ⟨w.heap.size, 1, none⟩) rfl (.map (some (w.heap.size + 1)))
        exact h.more (by simp)

theorem openLots_any (B : Nat) (xs : List Lot) (A : Option Addr) (c : Nat) (w : World) (hr : LotsIn B w A xs) (hB : B ≤ w.heap.size) (hs : SmallLots xs) :
    Calls Try.prog 95 #[.slice A xs.length c] w (LotsPost xs A c w) := by
  refine (openLots_any2 B xs A c w hr hB hs).mono fun e w' ⟨fm, F, k, cap, h1, h2, h3, h4⟩ => ⟨fm, h1, fun h => ?_, h4⟩
  obtain ⟨rfl, rfl, rfl⟩ := h3 h
  exact h2

end Go.Proofs.Ytlgioldmjohhlaa
end

section
namespace Go.Proofs.Ytlgioldmjohhlaa
open Go.RowKit Go.Maps

def badB (x : Lot) : Bool := acceptV x != 2
def suspB (F : Fam) (bad : List ByteArray) (x : Lot) : Bool := anyG (touchB F x.name) bad
def suspectsV (xs : List Lot) : List ByteArray := namesV (suspB (fromV xs xs.length) (namesV badB xs)) xs

theorem fromV_some (xs : List Lot) : ∀ (k i : Nat), i < k → goneB (fromV xs k) (xs.getD i default).name = false
  | 0, _, h => by omega
  | k + 1, i, h => by
    unfold goneB
    show (if sameS (xs.getD i default).name (xs.getD k default).name then some (ownV (fromV xs k) (xs.getD k default).made) else fromV xs k (xs.getD i default).name).isNone = false
    split
    · rfl
    · rename_i hs
      rcases Nat.lt_or_ge i k with h1 | h1
      · exact fromV_some xs k i h1
      · obtain rfl : i = k := by omega
        exact absurd (sameS_self _) hs

theorem bad1_any (x : Lot) (A : Option Addr) (n c : Nat) (w : World) :
    Calls Try.prog 97 #[.agg #[.string x.name, .slice A n c, .int .i64 x.mlo, .int .i64 x.mhi, .int .i64 x.llo, .int .i64 x.lhi]] w fun e w' => e = .returned (.bool (badB x)) ∧ Below w.heap.size w w' := by
  have HB := Lib.hid (show badB x = (acceptV x != 2) from rfl)
  have hacc := accept_any x A n c
  generalize acceptV x = V at *
  go_enter Try.func97, Try.ntmps97
  go_wp2_with (go_at_call 98; refine (hacc _).mono ?_; rintro e w1 ⟨rfl, hb⟩)
  go_ret
  exact ⟨ret_bool HB.out.symm, pt (pa pr) hb⟩

set_option maxHeartbeats 1000000 in
theorem suspect2_any (B qb fb fm k cap cb : Nat) (F : Fam) (bad : List ByteArray) (Ab : Option Addr) (x : Lot) (A : Option Addr) (n c : Nat) (w : World) (hB : B ≤ w.heap.size) (hq : w.cell? ⟨qb, 0, none⟩ = some (.slice Ab bad.length cb)) (hqb : qb < B) (hr : RowIn Value.string B w Ab bad)
    (hf : w.cell? ⟨fb, 1, none⟩ = some (.map (some fm))) (hfb : fb < B) (hF : FromIs B w fm F k cap) (hn : x.name.size ≤ 1000) (hbad : ∀ j, j < bad.length → (bad.getD j default).size ≤ 1000) (hlen : bad.length ≤ 1000) (hin : goneB F x.name = false) :
    Calls Try.prog 99 #[.agg #[.string x.name, .slice A n c, .int .i64 x.mlo, .int .i64 x.mhi, .int .i64 x.llo, .int .i64 x.lhi], .pointer (some ⟨qb, 0, none⟩), .pointer (some ⟨fb, 0, none⟩)] w fun e w' => e = .returned (.bool (suspB F bad x)) ∧ Below w.heap.size w w' := by
  have hcf := containsFuncS_suspect B Ab bad.length cb bad (touchB F x.name) (.pointer (some ⟨w.heap.size, 0, none⟩)) (.pointer (some ⟨fb, 0, none⟩)) (w.alloc (.cells #[.string x.name, .slice A n c, .int .i64 x.mlo, .int .i64 x.mhi, .int .i64 x.llo, .int .i64 x.lhi] 61)) (hr.below ((pa pr).mono hB)) rfl hlen
    (fun j hj => suspect1_any w.heap.size fb fm B k cap F x.name _ _ ((Blk.newAt rfl).cellAt 0 rfl) (((bcell ((pa pr).mono hB)).1 fb 1 hfb).trans hf) (hF.below ((pa pr).mono hB)) hn (hbad j hj) hin)
  have HCF := Lib.hid hcf
  have HR := Lib.hid (show suspB F bad x = anyG (touchB F x.name) bad from rfl)
  have hqw : qb < w.heap.size := by omega
  clear hcf hr hF hbad hf
  go_enter Try.func99, Try.ntmps99
  go_wp2_with (go_at_call 100; go_must (refine HCF.out.mono ?_); rintro e w1 ⟨rfl, rfl⟩)
  go_ret
  exact ⟨ret_bool HR.out.symm, pa pr⟩

theorem namesV_size {p : Lot → Bool} {xs : List Lot} (hs : SmallLots xs) : ∀ j, j < (namesV p xs).length → ((namesV p xs).getD j default).size ≤ 1000 := by
  intro j hj
  have hm : (namesV p xs).getD j default ∈ namesV p xs := getD_in hj
  unfold namesV at hm
  obtain ⟨x, hx, he⟩ := List.mem_map.1 hm
  obtain ⟨i, hi, hxi⟩ := List.getElem_of_mem (List.mem_filter.1 hx).1
  have h := (hs.2 i hi).1
  rw [show xs.getD i default = x by simp [List.getD, hi, hxi]] at h
  unfold namesV
  rw [← he]
  exact h
theorem namesV_le (p : Lot → Bool) (xs : List Lot) : (namesV p xs).length ≤ xs.length := by
  have := namesV_len p xs xs.length
  rwa [List.take_length] at this

def SuspPost (xs : List Lot) (w : World) (e : Ending) (w' : World) : Prop :=
  ∃ A c, e = .returned (.tuple #[.slice A (suspectsV xs).length c, .int .i64 0]) ∧ RowIn Value.string w'.heap.size w' A (suspectsV xs) ∧ (suspectsV xs).length ≤ c ∧ Below w.heap.size w w'

set_option maxHeartbeats 2000000 in
set_option maxRecDepth 100000 in
theorem suspectsIn_err (B : Nat) (xs : List Lot) (A : Option Addr) (c : Nat) (w : World) (hr : LotsIn B w A xs) (hB : B ≤ w.heap.size) (hs : SmallLots xs) (he : (openLotsV xs).2 ≠ 0) :
    Calls Try.prog 37 #[.slice A xs.length c] w fun e w' => e = .returned (.tuple #[.slice none 0 0, .int .i64 (openLotsV xs).2]) ∧ Below w.heap.size w w' := by
  have HO := Lib.hid (openLots_any B xs A c w hr hB hs)
  have hne : ((openLotsV xs).2 != 0) = true := by simpa using he
  clear hr hs he
  unfold LotsPost at HO
  generalize (openLotsV xs).1 = I at *
  generalize (openLotsV xs).2 = E at *
  go_enter Try.func37, Try.ntmps37
  go_wp2_with (go_at_call 95; go_must (refine HO.out.mono ?_); rintro e w1 ⟨fm, rfl, _, hb1⟩)
  go_ret2
  exact ⟨rfl, pa hb1⟩

theorem susp_names (B : Nat) (xs : List Lot) (A A2 : Option Addr) (c c2 fm : Nat) (w w1 w2 : World) (hr : LotsIn B w A xs) (hB : B ≤ w.heap.size) (hs : SmallLots xs) (hb1 : Below w.heap.size w w1) (hF : FromIs w1.heap.size w1 fm (fromV xs xs.length) xs.length (capV xs.length))
    (hb2 : Below (w1.alloc (.cells #[.slice A xs.length c, .map (some fm)] 129)).heap.size (w1.alloc (.cells #[.slice A xs.length c, .map (some fm)] 129)) w2) (hrow : RowIn Value.string w2.heap.size w2 A2 (namesV badB xs)) :
    Calls Try.prog 96 #[.agg #[.slice A xs.length c, .map (some fm)], .func (.func 99) #[] #[.pointer (some ⟨w2.heap.size, 0, none⟩), .pointer (some ⟨w1.heap.size, 0, none⟩)]] (w2.alloc (.cells #[.slice A2 (namesV badB xs).length c2] 53)) (NamesPost (suspB (fromV xs xs.length) (namesV badB xs)) xs (w2.alloc (.cells #[.slice A2 (namesV badB xs).length c2] 53))) := by
  have hb12 : Below w1.heap.size w1 w2 := pt (pa pr) hb2
  have hb1W : Below w1.heap.size w1 (w2.alloc (.cells #[.slice A2 (namesV badB xs).length c2] 53)) := pa hb12
  have hbw : Below w.heap.size w (w2.alloc (.cells #[.slice A2 (namesV badB xs).length c2] 53)) := pt hb1 hb1W
  have hlt1 : w1.heap.size < w2.heap.size := by have := hb2.size; simp at this; omega
  have kF := ((Blk.new w1 129 #[.slice A xs.length c, .map (some fm)]).past hb2).alloc (o := .cells #[.slice A2 (namesV badB xs).length c2] 53)
  have kQ : Blk (w2.alloc (.cells #[.slice A2 (namesV badB xs).length c2] 53)) w2.heap.size 53 #[.slice A2 (namesV badB xs).length c2] := Blk.new _ _ _
  refine names_suspect B xs A c fm _ _ _ _ (hr.below (hbw.mono hB)) (Nat.le_trans hB hbw.size) hs.1 fun i hi W hW A1 c1 => ?_
  have hsz := hW.size
  simp only [World.size_alloc] at hsz
  exact suspect2_any (w2.heap.size + 1) w2.heap.size w1.heap.size fm xs.length (capV xs.length) c2 _ _ A2 _ A1 _ c1 W hsz ((kQ.past hW).cellAt 0 rfl) (by omega) (((hrow.below ((pa pr : Below w2.heap.size w2 (w2.alloc (.cells #[.slice A2 (namesV badB xs).length c2] 53))))).more (by omega)).below (hW.mono (by simp)))
    ((kF.past hW).cellAt 1 rfl) (by omega) (((hF.below hb1W).more (by omega)).below (hW.mono (by simp))) (hs.2 i hi).1 (namesV_size hs) (Nat.le_trans (namesV_le _ _) hs.1) (fromV_some xs xs.length i hi)

set_option maxHeartbeats 2000000 in
set_option maxRecDepth 100000 in
theorem suspectsIn_ok (B : Nat) (xs : List Lot) (A : Option Addr) (c : Nat) (w : World) (hr : LotsIn B w A xs) (hB : B ≤ w.heap.size) (hs : SmallLots xs) (he : (openLotsV xs).2 = 0) :
    Calls Try.prog 37 #[.slice A xs.length c] w (SuspPost xs w) := by
  have ho := openLots_any B xs A c w hr hB hs
  unfold LotsPost at ho
  rw [he] at ho
  have HO := Lib.hid ho
  have HSm := Lib.hid hs
  have HR := Lib.hid hr
  have hm := hs.1
  clear hr hs he ho
  generalize (openLotsV xs).1 = I at *
  go_enter Try.func37, Try.ntmps37
  go_wp2_with (first
    | (go_at_call 95; go_must (refine HO.out.mono ?_); rintro e w1 ⟨fm, rfl, hF, hb1⟩; have HF := Lib.hid (hF rfl); have HB1 := Lib.hid hb1; clear hF hb1; have hbad := names_bad B xs A c fm badB (w1.alloc (.cells #[.slice A xs.length c, .map (some fm)] 129)) (HR.out.below ((pa HB1.out).mono hB)) (Nat.le_trans hB (pa HB1.out).size) hm (fun i hi W hW A1 c1 => bad1_any _ A1 _ c1 W); have HBad := Lib.hid hbad; clear hbad)
    | (go_at_call 96; (with_reducible refine HSus.out.mono ?_); rintro e w3 ⟨A3, c3, rfl, hrow3, hc3, hb3⟩)
    | (go_at_call 96; go_must (refine HBad.out.mono ?_); rintro e w2 ⟨A2, c2, rfl, hrow2, hc2, hb2⟩; clear HBad; have hsus := susp_names B xs A A2 c c2 fm w w1 w2 HR.out hB HSm.out HB1.out HF.out hb2 hrow2; have HSus := Lib.hid hsus; have kF := (Blk.new w1 129 #[.slice A xs.length c, .map (some fm)]).past hb2; have g0 : w2.cell? ⟨w1.heap.size, 0, none⟩ = some (.slice A xs.length c) := kF.cellAt 0 rfl; have g1 : w2.cell? ⟨w1.heap.size, 1, none⟩ = some (.map (some fm)) := kF.cellAt 1 rfl; have gx := kF.lt; have HB2 := Lib.hid hb2; clear hsus kF hb2 hrow2))
  go_ret2
  exact ⟨A3, c3, rfl, hrow3, hc3, pt (pa (pt (pa HB1.out) HB2.out)) hb3⟩

end Go.Proofs.Ytlgioldmjohhlaa
end
