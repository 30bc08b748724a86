/- The walk of the law on strings of lots: it returns true. Printed by a program (gen_wlawl.py). -/
import Derived.Test.YtbojmcopagbheaaGreatDoorYCParL
import Derived.Test.YtbojmcopagbheaaGreatDoorY4RefFL
import Derived.Test.YtbojmcopagbheaaGreatDoorY2FmtL
import Derived.Test.YtbojmcopagbheaaGreatDoorYERefPL
import Derived.Test.YtbojmcopagbheaaGreatDoorYDSameL
import Derived.Test.YtbojmcopagbheaaGreatDoorR5
import Derived.Test.YtbojmcopagbheaaGreatDoorT7Works
import Derived.Test.YtbojmcopagbheaaGreatDoorR6
import Derived.Test.YtbojmcopagbheaaGreatDoorZIAwake
namespace Go.Proofs.YtbojmcopagbheaaGreatDoor
open Go.RowKit
attribute [local go_sem ↓] Go.wp_at_zero Go.wp_at_succ

theorem CellsIn.pastC {w w' : World} {A : Option Addr} {cs : List Value} (h : CellsIn w.heap.size w A cs) (hb : Below w.heap.size w w') : CellsIn w'.heap.size w' A cs := h.past (Nat.le_refl _) hb
theorem cells_of_row {B : Nat} {w : World} {A : Option Addr} {L : List (List UInt8)} (h : RowIn Value.string B w A (L.map bytesL)) : CellsIn B w A (L.map strV) := by
  rcases h with h | ⟨b, off, hA, hb, hc⟩
  · exact .inl (by simpa using h)
  · refine .inr ⟨b, off, hA, hb, fun j hj => ?_⟩
    have hj' : j < L.length := by simpa using hj
    rw [hc j (by simpa using hj')]
    simp [List.getD, hj']
/-- A row of strings that lies in memory, behind other calls. -/
def TxtIn (w : World) (A : Option Addr) (L : List (List UInt8)) : Prop := CellsIn w.heap.size w A (L.map strV)
theorem TxtIn.past {w w' : World} {A : Option Addr} {L : List (List UInt8)} (h : TxtIn w A L) (hb : Below w.heap.size w w') : TxtIn w' A L := CellsIn.pastC h hb
theorem TxtIn.alloc {w : World} {A : Option Addr} {L : List (List UInt8)} (h : TxtIn w A L) {ob : Obj} : TxtIn (w.alloc ob) A L := h.past (pa pr)
theorem byteAt_list (l : List UInt8) (i : Nat) (hi : i < l.length) : byteAt (bytesL l) i = ((l[i].toNat : Nat) : Int) := by
  unfold byteAt
  show (((l.toArray).getD i 0).toNat : Int) = _
  simp [hi]
theorem chars_at {s : ByteArray} {k i : Nat} (h : charsB s k = true) (hi : i < k) : charB i (byteAt s i) = true := by
  unfold charsB at h
  exact List.all_eq_true.1 h i (List.mem_range.2 hi)
theorem name_ok {l : List UInt8} (h : nameB (bytesL l) = true) : l ≠ [] ∧ l.head? ≠ some 45 ∧ 44 ∉ l ∧ 32 ∉ l := by
  unfold nameB at h
  rw [Bool.and_eq_true] at h
  have hs : (bytesL l).size = l.length := bsize l
  rw [hs] at h
  obtain ⟨h1, h2⟩ := h
  simp only [withinB, Bool.and_eq_true, decide_eq_true_eq] at h2
  have hc : ∀ i (hi : i < l.length), charB i ((l[i].toNat : Nat) : Int) = true := fun i hi => by rw [← byteAt_list l i hi]; exact chars_at h1 hi
  have hnot : ∀ (b : UInt8), (∀ i, charB i ((b.toNat : Nat) : Int) = false) → b ∉ l := fun b hb hm => by
    obtain ⟨i, hi, e⟩ := List.getElem_of_mem hm
    have := hc i hi
    rw [e, hb i] at this
    cases this
  refine ⟨fun e => by subst e; simp at h2, fun e => ?_, hnot 44 fun i => by simp [charB, letterB, withinB], hnot 32 fun i => by simp [charB, letterB, withinB]⟩
  cases l with
  | nil => cases e
  | cons b r =>
    have e : b = 45 := Option.some.inj e
    subst e
    have := hc 0 (by simp)
    simp [charB, letterB] at this
theorem scan_nilL {f : Nat → Int} {n : Nat} : ∀ (d k : Nat), n - k = d → (scan f n k).2 = 0 → ∀ i, k ≤ i → i < n → f i = 0
  | 0, k, hd, _, i, h1, h2 => by omega
  | d + 1, k, hd, h, i, h1, h2 => by
    rw [scan_step (by omega)] at h
    split at h
    · rename_i hk
      rcases Nat.lt_or_ge k i with h3 | h3
      · exact scan_nilL d (k + 1) (by omega) h i h3 h2
      · obtain rfl : i = k := by omega
        exact hk
    · contradiction
theorem range_ok {lo hi : Int} (h : rangeErrV valueB lo hi = 0) : (-10000000 < lo ∧ lo < 10000000) ∧ (-10000000 < hi ∧ hi < 10000000) := by
  unfold rangeErrV at h
  obtain ⟨e1, _⟩ := firstV_zero.1 h
  have e1 := (unless_ne (by decide)).1 e1
  simp only [valueB, withinB, Bool.and_eq_true, decide_eq_true_eq] at e1
  omega
theorem lotE_ok {nm : List UInt8} {M : List (List UInt8)} {x1 x2 x3 x4 : Int} (h : lotE (lotB (nm, M, x1, x2, x3, x4)) = 0) :
    (nm ≠ [] ∧ 32 ∉ nm) ∧ (∀ x ∈ M, x ≠ [] ∧ x.head? ≠ some 45 ∧ 44 ∉ x ∧ 32 ∉ x) ∧ ((-10000000 < x1 ∧ x1 < 10000000) ∧ (-10000000 < x2 ∧ x2 < 10000000)) ∧ ((-10000000 < x3 ∧ x3 < 10000000) ∧ (-10000000 < x4 ∧ x4 < 10000000)) := by
  unfold lotE at h
  split at h
  · contradiction
  · rename_i h1
    have h1 : firstV [unlessV (nameB (bytesL nm)) 4, unlessV (decide (((M.map bytesL).length : Int) ≤ 6)) 8] = 0 := Decidable.not_not.1 h1
    split at h
    · contradiction
    · rename_i h2
      have h2 := Decidable.not_not.1 h2
      obtain ⟨e1, _⟩ := firstV_zero.1 h1
      have e1 := name_ok ((unless_ne (by decide)).1 e1)
      have h3 : firstV [rangeErrV valueB x1 x2, rangeErrV valueB x3 x4] = 0 := h
      obtain ⟨e2, e3⟩ := firstV_zero.1 h3
      obtain ⟨e3, _⟩ := firstV_zero.1 e3
      refine ⟨⟨e1.1, e1.2.2.2⟩, fun x hx => ?_, range_ok e2, range_ok e3⟩
      obtain ⟨k, hk, rfl⟩ := List.getElem_of_mem hx
      have q := scan_nilL _ 0 rfl h2 k (Nat.zero_le k) (by show k < (M.map bytesL).length; simpa using hk)
      obtain ⟨q1, _⟩ := firstV_zero.1 q
      have q1 := (unless_ne (by decide)).1 q1
      have e : ((lotB (nm, M, x1, x2, x3, x4)).made).getD k default = bytesL M[k] := by
        show (M.map bytesL).getD k default = _
        simp [List.getD, hk]
      rw [e] at q1
      exact name_ok q1
theorem lotOut_len (l : List UInt8) (hl : l.length ≤ 500) : (lotOut (parseL l)).1.2.1.length ≤ 501 := by
  cases h : parseL l with
  | none => exact Nat.zero_le _
  | some r =>
    have hr : r.2.1.length ≤ 501 := by
      unfold parseL at h
      split at h
      · rename_i nm m a b c d hs
        split at h
        · cases h
        · have hm : m.length ≤ l.length := splitM (c := 32) (by rw [hs]; simp)
          have hp := parts_len m
          cases h1 : numberV a 7 with
          | none => rw [h1] at h; cases h
          | some x =>
            cases h2 : numberV b 7 with
            | none => rw [h1, h2] at h; cases h
            | some y =>
              cases h3 : numberV c 7 with
              | none => rw [h1, h2, h3] at h; cases h
              | some z =>
                cases h4 : numberV d 7 with
                | none => rw [h1, h2, h3, h4] at h; cases h
                | some u =>
                  rw [h1, h2, h3, h4] at h
                  have h := Option.some.inj h
                  subst h
                  show (partsL m).length ≤ 501
                  omega
      · cases h
    unfold lotOut
    dsimp only
    split
    · exact hr
    · exact Nat.zero_le _
theorem short_list {nm : List UInt8} {M : List (List UInt8)} {x1 x2 x3 x4 : Int} (h : shortB (lotB (nm, M, x1, x2, x3, x4)) = true) : nm.length ≤ 20 ∧ M.length ≤ 8 ∧ ∀ x ∈ M, x.length ≤ 20 := by
  obtain ⟨h1, h2, h3⟩ := short_iff.1 h
  have e1 : (lotB (nm, M, x1, x2, x3, x4)).name.size = nm.length := bsize nm
  have e2 : (lotB (nm, M, x1, x2, x3, x4)).made.length = M.length := List.length_map ..
  rw [e1] at h1
  rw [e2] at h2 h3
  refine ⟨h1, h2, fun x hx => ?_⟩
  obtain ⟨k, hk, rfl⟩ := List.getElem_of_mem hx
  have q := h3 k hk
  have e : ((lotB (nm, M, x1, x2, x3, x4)).made).getD k default = bytesL M[k] := by
    show (M.map bytesL).getD k default = _
    simp [List.getD, hk]
  rw [e] at q
  exact (bsize M[k]) ▸ q

set_option maxHeartbeats 16000000 in
set_option maxRecDepth 100000 in
theorem llaw_long (nm : List UInt8) (M : List (List UInt8)) (x1 x2 x3 x4 : Int) (A : Option Addr) (c : Nat) (hcap : M.length ≤ c) (i1 : I64 x1) (i2 : I64 x2) (i3 : I64 x3) (i4 : I64 x4) (l : List UInt8) (sh : Bool) (hsh : shortB (lotB (nm, M, x1, x2, x3, x4)) = sh) (h0 : sh = false) (w : World) (hS : StrIn w) (hr : TxtIn w A M) :
    Calls Tryz.prog 5 #[.agg #[.string ⟨nm.toArray⟩, .slice A M.length c, .int .i64 x1, .int .i64 x2, .int .i64 x3, .int .i64 x4], .string ⟨l.toArray⟩] w fun e w' => e = .returned (.bool true) ∧ Below w.heap.size w w' := by
  have HS := Lib.hid (fun w' (h : Below w.heap.size w w') => hS.kept h)
  have hbs := bsize l
  have hshort := fun w' (h : TxtIn w' A M) => short_any w'.heap.size (lotB (nm, M, x1, x2, x3, x4)) A M.length c w' (by simp [lotB]) (rowIn_of_cells h) (Nat.le_refl _)
  rw [hsh] at hshort
  have HSh := Lib.hid (show ∀ w', TxtIn w' A M → Calls Tryz.prog 33 #[.agg #[.string ⟨nm.toArray⟩, .slice A M.length c, .int .i64 x1, .int .i64 x2, .int .i64 x3, .int .i64 x4]] w' fun e w'' => e = .returned (.bool sh) ∧ Below w'.heap.size w' w'' from hshort)
  clear hS hshort
  subst h0
  go_enter Tryz.func5, Tryz.ntmps5
  go_wp2_with (first
    | (go_at_call 32; (with_reducible refine (awake_any _).mono ?_); rintro e w1_ ⟨rfl, h1_⟩; have T_1 : Blk w1_ (w.heap.size) 58 #[.string ⟨nm.toArray⟩, .slice A M.length c, .int .i64 x1, .int .i64 x2, .int .i64 x3, .int .i64 x4] := (Blk.newAt (by simp)).past h1_; have RX_1 : TxtIn w1_ A M := (hr.alloc).past h1_; have S_1 := pt (pa (pr)) h1_; have Tc0 := T_1.cellAt 0 rfl; have Tc1 := T_1.cellAt 1 rfl; have Tc2 := T_1.cellAt 2 rfl; have Tc3 := T_1.cellAt 3 rfl; have Tc4 := T_1.cellAt 4 rfl; have Tc5 := T_1.cellAt 5 rfl; have Tl := T_1.lt; clear h1_)
    | (go_at_call 33; (with_reducible refine (HSh.out _ (RX_1)).mono ?_); rintro e w2_ ⟨rfl, h2_⟩; have T_2 : Blk w2_ (w.heap.size) 58 #[.string ⟨nm.toArray⟩, .slice A M.length c, .int .i64 x1, .int .i64 x2, .int .i64 x3, .int .i64 x4] := (T_1).past h2_; have RX_2 : TxtIn w2_ A M := (RX_1).past h2_; have S_2 := pt (S_1) h2_; clear T_1 RX_1 S_1 Tc0 Tc1 Tc2 Tc3 Tc4 Tc5 Tl; have Tc0 := T_2.cellAt 0 rfl; have Tc1 := T_2.cellAt 1 rfl; have Tc2 := T_2.cellAt 2 rfl; have Tc3 := T_2.cellAt 3 rfl; have Tc4 := T_2.cellAt 4 rfl; have Tc5 := T_2.cellAt 5 rfl; have Tl := T_2.lt; clear h2_))
  go_ret
  exact ⟨rfl, by repeat (first | exact S_2 | refine pa ?_)⟩

set_option maxHeartbeats 16000000 in
set_option maxRecDepth 100000 in
theorem llaw_longS (nm : List UInt8) (M : List (List UInt8)) (x1 x2 x3 x4 : Int) (A : Option Addr) (c : Nat) (hcap : M.length ≤ c) (i1 : I64 x1) (i2 : I64 x2) (i3 : I64 x3) (i4 : I64 x4) (l : List UInt8) (sh : Bool) (hsh : shortB (lotB (nm, M, x1, x2, x3, x4)) = sh) (h0 : sh = true) (hl : 200 < l.length) (w : World) (hS : StrIn w) (hr : TxtIn w A M) :
    Calls Tryz.prog 5 #[.agg #[.string ⟨nm.toArray⟩, .slice A M.length c, .int .i64 x1, .int .i64 x2, .int .i64 x3, .int .i64 x4], .string ⟨l.toArray⟩] w fun e w' => e = .returned (.bool true) ∧ Below w.heap.size w w' := by
  have HS := Lib.hid (fun w' (h : Below w.heap.size w w') => hS.kept h)
  have hbs := bsize l
  have hshort := fun w' (h : TxtIn w' A M) => short_any w'.heap.size (lotB (nm, M, x1, x2, x3, x4)) A M.length c w' (by simp [lotB]) (rowIn_of_cells h) (Nat.le_refl _)
  rw [hsh] at hshort
  have HSh := Lib.hid (show ∀ w', TxtIn w' A M → Calls Tryz.prog 33 #[.agg #[.string ⟨nm.toArray⟩, .slice A M.length c, .int .i64 x1, .int .i64 x2, .int .i64 x3, .int .i64 x4]] w' fun e w'' => e = .returned (.bool sh) ∧ Below w'.heap.size w' w'' from hshort)
  clear hS hshort
  subst h0
  have hli : (200 : Int) < (l.length : Int) := by omega
  go_enter Tryz.func5, Tryz.ntmps5
  go_wp2_with (first
    | (go_at_call 32; (with_reducible refine (awake_any _).mono ?_); rintro e w1_ ⟨rfl, h1_⟩; have T_1 : Blk w1_ (w.heap.size) 58 #[.string ⟨nm.toArray⟩, .slice A M.length c, .int .i64 x1, .int .i64 x2, .int .i64 x3, .int .i64 x4] := (Blk.newAt (by simp)).past h1_; have RX_1 : TxtIn w1_ A M := (hr.alloc).past h1_; have S_1 := pt (pa (pr)) h1_; have Tc0 := T_1.cellAt 0 rfl; have Tc1 := T_1.cellAt 1 rfl; have Tc2 := T_1.cellAt 2 rfl; have Tc3 := T_1.cellAt 3 rfl; have Tc4 := T_1.cellAt 4 rfl; have Tc5 := T_1.cellAt 5 rfl; have Tl := T_1.lt; clear h1_)
    | (go_at_call 33; (with_reducible refine (HSh.out _ (RX_1)).mono ?_); rintro e w2_ ⟨rfl, h2_⟩; have T_2 : Blk w2_ (w.heap.size) 58 #[.string ⟨nm.toArray⟩, .slice A M.length c, .int .i64 x1, .int .i64 x2, .int .i64 x3, .int .i64 x4] := (T_1).past h2_; have RX_2 : TxtIn w2_ A M := (RX_1).past h2_; have S_2 := pt (S_1) h2_; clear T_1 RX_1 S_1 Tc0 Tc1 Tc2 Tc3 Tc4 Tc5 Tl; have Tc0 := T_2.cellAt 0 rfl; have Tc1 := T_2.cellAt 1 rfl; have Tc2 := T_2.cellAt 2 rfl; have Tc3 := T_2.cellAt 3 rfl; have Tc4 := T_2.cellAt 4 rfl; have Tc5 := T_2.cellAt 5 rfl; have Tl := T_2.lt; clear h2_))
  go_ret
  exact ⟨rfl, by repeat (first | exact S_2 | refine pa ?_)⟩

set_option maxHeartbeats 16000000 in
set_option maxRecDepth 100000 in
theorem llaw_bad (nm : List UInt8) (M : List (List UInt8)) (x1 x2 x3 x4 : Int) (A : Option Addr) (c : Nat) (hcap : M.length ≤ c) (i1 : I64 x1) (i2 : I64 x2) (i3 : I64 x3) (i4 : I64 x4) (l : List UInt8) (sh : Bool) (hsh : shortB (lotB (nm, M, x1, x2, x3, x4)) = sh) (h0 : sh = true) (hl : l.length ≤ 200) (E : Int) (hE : lotE (lotB (nm, M, x1, x2, x3, x4)) = E) (hne : (E != 0) = true) (w : World) (hS : StrIn w) (hr : TxtIn w A M) :
    Calls Tryz.prog 5 #[.agg #[.string ⟨nm.toArray⟩, .slice A M.length c, .int .i64 x1, .int .i64 x2, .int .i64 x3, .int .i64 x4], .string ⟨l.toArray⟩] w fun e w' => e = .returned (.bool true) ∧ Below w.heap.size w w' := by
  have HS := Lib.hid (fun w' (h : Below w.heap.size w w') => hS.kept h)
  have hbs := bsize l
  have hshort := fun w' (h : TxtIn w' A M) => short_any w'.heap.size (lotB (nm, M, x1, x2, x3, x4)) A M.length c w' (by simp [lotB]) (rowIn_of_cells h) (Nat.le_refl _)
  rw [hsh] at hshort
  have HSh := Lib.hid (show ∀ w', TxtIn w' A M → Calls Tryz.prog 33 #[.agg #[.string ⟨nm.toArray⟩, .slice A M.length c, .int .i64 x1, .int .i64 x2, .int .i64 x3, .int .i64 x4]] w' fun e w'' => e = .returned (.bool sh) ∧ Below w'.heap.size w' w'' from hshort)
  clear hS hshort
  subst h0
  obtain ⟨s1, s2, s3⟩ := short_list hsh
  have hli : ¬ (200 : Int) < (l.length : Int) := by omega
  have hsm := small_lot (nm := nm) (M := M) (by omega) (by omega) (fun x hx => Nat.le_trans (s3 x hx) (by omega)) x1 x2 x3 x4
  have HCo := Lib.hid (show ∀ w', TxtIn w' A M → Calls Tryz.prog 25 #[.agg #[.string ⟨nm.toArray⟩, .slice A M.length c, .int .i64 x1, .int .i64 x2, .int .i64 x3, .int .i64 x4]] w' fun e w'' => ∃ A c, e = .returned (.agg #[.string ⟨nm.toArray⟩, .slice A M.length c, .int .i64 x1, .int .i64 x2, .int .i64 x3, .int .i64 x4]) ∧ TxtIn w'' A M ∧ M.length ≤ c ∧ Below w'.heap.size w' w'' from fun w' h => (copyLot_any w'.heap.size (lotB (nm, M, x1, x2, x3, x4)) A M.length c w' (by simp [lotB]) (rowIn_of_cells h) (Nat.le_refl _) hsm).mono fun e w'' ⟨A2, c2, h1, h2, h3, h4⟩ => ⟨A2, c2, by rw [h1]; simp [lotB], cells_of_row h2.row, by simpa [lotB] using h3, h4⟩)
  have HF := Lib.hid (fun A2 c2 w' hS' (h : TxtIn w' A2 M) (hc : M.length ≤ c2) => formatLot_core w'.heap.size nm M A2 M.length c2 x1 x2 x3 x4 w' hS' rfl h (Nat.le_refl _) hc (by omega) (by omega) (fun x hx => Nat.le_trans (s3 x hx) (by omega)) i1 i2 i3 i4)
  have HG := Lib.hid (fun w' (h : TxtIn w' A M) => refFormatLot_core w'.heap.size nm M A M.length c x1 x2 x3 x4 w' rfl h (Nat.le_refl _) (by omega) (by omega) (fun x hx => Nat.le_trans (s3 x hx) (by omega)) i1 i2 i3 i4)
  have hEr := fun w' (h : TxtIn w' A M) => refLotErr_any w'.heap.size (lotB (nm, M, x1, x2, x3, x4)) A M.length c w' (by simp [lotB]) (rowIn_of_cells h) (Nat.le_refl _) hsm hcap
  rw [hE] at hEr
  have HE := Lib.hid (show ∀ w', TxtIn w' A M → Calls Tryz.prog 36 #[.agg #[.string ⟨nm.toArray⟩, .slice A M.length c, .int .i64 x1, .int .i64 x2, .int .i64 x3, .int .i64 x4]] w' fun e w'' => e = .returned (.int .i64 E) ∧ Below w'.heap.size w' w'' from hEr)
  clear hEr
  have hA := fun w' hS => ParseLot_any l (by omega) w' hS
  have hB := fun w' => refParseLot_any l (by omega) w'
  have hqn := lotOut_len l (by omega)
  generalize lotOut (parseL l) = q at *
  obtain ⟨⟨qn, qM, q1, q2, q3, q4⟩, qe⟩ := q
  dsimp only at hqn
  have HA := Lib.hid (show ∀ w', StrIn w' → Calls Tryz.prog 23 #[.string ⟨l.toArray⟩] w' fun e w'' => ∃ A c, e = .returned (.tuple #[.agg #[.string ⟨qn.toArray⟩, .slice A qM.length c, .int .i64 q1, .int .i64 q2, .int .i64 q3, .int .i64 q4], .int .i64 qe]) ∧ qM.length ≤ c ∧ TxtIn w'' A qM ∧ Below w'.heap.size w' w'' from hA)
  have HB := Lib.hid (show ∀ w', Calls Tryz.prog 34 #[.string ⟨l.toArray⟩] w' fun e w'' => ∃ A c, e = .returned (.tuple #[.agg #[.string ⟨qn.toArray⟩, .slice A qM.length c, .int .i64 q1, .int .i64 q2, .int .i64 q3, .int .i64 q4], .int .i64 qe]) ∧ qM.length ≤ c ∧ TxtIn w'' A qM ∧ Below w'.heap.size w' w'' from hB)
  have HQ := Lib.hid (fun A1 A2 c1 c2 w' (h1 : TxtIn w' A1 qM) (h2 : TxtIn w' A2 qM) => refSameLot_any qn qM q1 q2 q3 q4 A1 A2 c1 c2 w' h1 h2 (by omega))
  clear hA hB hqn
  generalize fmtL nm M x1 x2 x3 x4 = S at *
  clear hE hl hsh s1 s2 s3 hsm i1 i2 i3 i4
  go_enter Tryz.func5, Tryz.ntmps5
  go_wp2_with (first
    | (go_at_call 32; (with_reducible refine (awake_any _).mono ?_); rintro e w1_ ⟨rfl, h1_⟩; have T_1 : Blk w1_ (w.heap.size) 58 #[.string ⟨nm.toArray⟩, .slice A M.length c, .int .i64 x1, .int .i64 x2, .int .i64 x3, .int .i64 x4] := (Blk.newAt (by simp)).past h1_; have RX_1 : TxtIn w1_ A M := (hr.alloc).past h1_; have S_1 := pt (pa (pr)) h1_; have Tc0 := T_1.cellAt 0 rfl; have Tc1 := T_1.cellAt 1 rfl; have Tc2 := T_1.cellAt 2 rfl; have Tc3 := T_1.cellAt 3 rfl; have Tc4 := T_1.cellAt 4 rfl; have Tc5 := T_1.cellAt 5 rfl; have Tl := T_1.lt; clear h1_)
    | (go_at_call 33; (with_reducible refine (HSh.out _ (RX_1)).mono ?_); rintro e w2_ ⟨rfl, h2_⟩; have T_2 : Blk w2_ (w.heap.size) 58 #[.string ⟨nm.toArray⟩, .slice A M.length c, .int .i64 x1, .int .i64 x2, .int .i64 x3, .int .i64 x4] := (T_1).past h2_; have RX_2 : TxtIn w2_ A M := (RX_1).past h2_; have S_2 := pt (S_1) h2_; clear T_1 RX_1 S_1 Tc0 Tc1 Tc2 Tc3 Tc4 Tc5 Tl; have Tc0 := T_2.cellAt 0 rfl; have Tc1 := T_2.cellAt 1 rfl; have Tc2 := T_2.cellAt 2 rfl; have Tc3 := T_2.cellAt 3 rfl; have Tc4 := T_2.cellAt 4 rfl; have Tc5 := T_2.cellAt 5 rfl; have Tl := T_2.lt; clear h2_)
    | (go_at_call 25; (with_reducible refine (HCo.out _ (RX_2)).mono ?_); rintro e w3_ ⟨A1, c1, rfl, hr1, hc1, h3_⟩; have T_3 : Blk w3_ (w.heap.size) 58 #[.string ⟨nm.toArray⟩, .slice A M.length c, .int .i64 x1, .int .i64 x2, .int .i64 x3, .int .i64 x4] := (T_2).past h3_; have RX_3 : TxtIn w3_ A M := (RX_2).past h3_; have S_3 := pt (S_2) h3_; clear T_2 RX_2 S_2 Tc0 Tc1 Tc2 Tc3 Tc4 Tc5 Tl; clear h3_; have RC_3 : TxtIn w3_ A1 M := hr1; clear hr1)
    | (go_at_call 24; (with_reducible refine (HF.out _ _ _ (HS.out _ (S_3)) (RC_3) hc1).mono ?_); rintro e w4_ ⟨rfl, h4_⟩; have T_4 : Blk w4_ (w.heap.size) 58 #[.string ⟨nm.toArray⟩, .slice A M.length c, .int .i64 x1, .int .i64 x2, .int .i64 x3, .int .i64 x4] := (T_3).past h4_; have RX_4 : TxtIn w4_ A M := (RX_3).past h4_; have RC_4 : TxtIn w4_ A1 M := (RC_3).past h4_; have S_4 := pt (S_3) h4_; clear T_3 RX_3 RC_3 S_3; clear h4_)
    | (go_at_call 23; (with_reducible refine (HA.out _ (HS.out _ (S_4))).mono ?_); rintro e w5_ ⟨A2, c2, rfl, hc2, hr2, h5_⟩; have T_5 : Blk w5_ (w.heap.size) 58 #[.string ⟨nm.toArray⟩, .slice A M.length c, .int .i64 x1, .int .i64 x2, .int .i64 x3, .int .i64 x4] := (T_4).past h5_; have RX_5 : TxtIn w5_ A M := (RX_4).past h5_; have S_5 := pt (S_4) h5_; clear T_4 RX_4 S_4; clear h5_; have RA_5 : TxtIn w5_ A2 qM := hr2; clear hr2 hc2)
    | (go_at_call 34; (with_reducible refine (HB.out _).mono ?_); rintro e w6_ ⟨A3, c3, rfl, hc3, hr3, h6_⟩; have T_6 : Blk w6_ (w.heap.size) 58 #[.string ⟨nm.toArray⟩, .slice A M.length c, .int .i64 x1, .int .i64 x2, .int .i64 x3, .int .i64 x4] := (T_5.alloc).past h6_; have X_6 : Blk w6_ (w5_.heap.size) 58 #[.string ⟨qn.toArray⟩, .slice A2 qM.length c2, .int .i64 q1, .int .i64 q2, .int .i64 q3, .int .i64 q4] := (Blk.newAt (by simp)).past h6_; have RX_6 : TxtIn w6_ A M := (RX_5.alloc).past h6_; have RA_6 : TxtIn w6_ A2 qM := (RA_5.alloc).past h6_; have S_6 := pt (pa (S_5)) h6_; clear T_5 RX_5 RA_5 S_5; have Tc0 := T_6.cellAt 0 rfl; have Tc1 := T_6.cellAt 1 rfl; have Tc2 := T_6.cellAt 2 rfl; have Tc3 := T_6.cellAt 3 rfl; have Tc4 := T_6.cellAt 4 rfl; have Tc5 := T_6.cellAt 5 rfl; have Tl := T_6.lt; clear h6_; have RB_6 : TxtIn w6_ A3 qM := hr3; clear hr3 hc3)
    | (go_at_call 35; (with_reducible refine (HG.out _ (RX_6.alloc)).mono ?_); rintro e w7_ ⟨rfl, h7_⟩; have T_7 : Blk w7_ (w.heap.size) 58 #[.string ⟨nm.toArray⟩, .slice A M.length c, .int .i64 x1, .int .i64 x2, .int .i64 x3, .int .i64 x4] := (T_6.alloc).past h7_; have X_7 : Blk w7_ (w5_.heap.size) 58 #[.string ⟨qn.toArray⟩, .slice A2 qM.length c2, .int .i64 q1, .int .i64 q2, .int .i64 q3, .int .i64 q4] := (X_6.alloc).past h7_; have Y_7 : Blk w7_ (w6_.heap.size) 58 #[.string ⟨qn.toArray⟩, .slice A3 qM.length c3, .int .i64 q1, .int .i64 q2, .int .i64 q3, .int .i64 q4] := (Blk.newAt (by simp)).past h7_; have RX_7 : TxtIn w7_ A M := (RX_6.alloc).past h7_; have RA_7 : TxtIn w7_ A2 qM := (RA_6.alloc).past h7_; have RB_7 : TxtIn w7_ A3 qM := (RB_6.alloc).past h7_; have S_7 := pt (pa (S_6)) h7_; clear T_6 X_6 RX_6 RA_6 RB_6 S_6 Tc0 Tc1 Tc2 Tc3 Tc4 Tc5 Tl; have Xc0 := X_7.cellAt 0 rfl; have Xc1 := X_7.cellAt 1 rfl; have Xc2 := X_7.cellAt 2 rfl; have Xc3 := X_7.cellAt 3 rfl; have Xc4 := X_7.cellAt 4 rfl; have Xc5 := X_7.cellAt 5 rfl; have Xl := X_7.lt; have Yc0 := Y_7.cellAt 0 rfl; have Yc1 := Y_7.cellAt 1 rfl; have Yc2 := Y_7.cellAt 2 rfl; have Yc3 := Y_7.cellAt 3 rfl; have Yc4 := Y_7.cellAt 4 rfl; have Yc5 := Y_7.cellAt 5 rfl; have Yl := Y_7.lt; clear h7_)
    | (go_at_call 26; (with_reducible refine (HQ.out _ _ _ _ _ (RA_7) (RB_7)).mono ?_); rintro e w8_ ⟨rfl, h8_⟩; have T_8 : Blk w8_ (w.heap.size) 58 #[.string ⟨nm.toArray⟩, .slice A M.length c, .int .i64 x1, .int .i64 x2, .int .i64 x3, .int .i64 x4] := (T_7).past h8_; have X_8 : Blk w8_ (w5_.heap.size) 58 #[.string ⟨qn.toArray⟩, .slice A2 qM.length c2, .int .i64 q1, .int .i64 q2, .int .i64 q3, .int .i64 q4] := (X_7).past h8_; have Y_8 : Blk w8_ (w6_.heap.size) 58 #[.string ⟨qn.toArray⟩, .slice A3 qM.length c3, .int .i64 q1, .int .i64 q2, .int .i64 q3, .int .i64 q4] := (Y_7).past h8_; have RX_8 : TxtIn w8_ A M := (RX_7).past h8_; have RA_8 : TxtIn w8_ A2 qM := (RA_7).past h8_; have RB_8 : TxtIn w8_ A3 qM := (RB_7).past h8_; have S_8 := pt (S_7) h8_; clear T_7 X_7 Y_7 RX_7 RA_7 RB_7 S_7 Xc0 Xc1 Xc2 Xc3 Xc4 Xc5 Xl Yc0 Yc1 Yc2 Yc3 Yc4 Yc5 Yl; have Tc0 := T_8.cellAt 0 rfl; have Tc1 := T_8.cellAt 1 rfl; have Tc2 := T_8.cellAt 2 rfl; have Tc3 := T_8.cellAt 3 rfl; have Tc4 := T_8.cellAt 4 rfl; have Tc5 := T_8.cellAt 5 rfl; have Tl := T_8.lt; clear h8_)
    | (go_at_call 36; (with_reducible refine (HE.out _ (RX_8)).mono ?_); rintro e w9_ ⟨rfl, h9_⟩; have T_9 : Blk w9_ (w.heap.size) 58 #[.string ⟨nm.toArray⟩, .slice A M.length c, .int .i64 x1, .int .i64 x2, .int .i64 x3, .int .i64 x4] := (T_8).past h9_; have X_9 : Blk w9_ (w5_.heap.size) 58 #[.string ⟨qn.toArray⟩, .slice A2 qM.length c2, .int .i64 q1, .int .i64 q2, .int .i64 q3, .int .i64 q4] := (X_8).past h9_; have Y_9 : Blk w9_ (w6_.heap.size) 58 #[.string ⟨qn.toArray⟩, .slice A3 qM.length c3, .int .i64 q1, .int .i64 q2, .int .i64 q3, .int .i64 q4] := (Y_8).past h9_; have RX_9 : TxtIn w9_ A M := (RX_8).past h9_; have RA_9 : TxtIn w9_ A2 qM := (RA_8).past h9_; have RB_9 : TxtIn w9_ A3 qM := (RB_8).past h9_; have S_9 := pt (S_8) h9_; clear T_8 X_8 Y_8 RX_8 RA_8 RB_8 S_8 Tc0 Tc1 Tc2 Tc3 Tc4 Tc5 Tl; have Tc0 := T_9.cellAt 0 rfl; have Tc1 := T_9.cellAt 1 rfl; have Tc2 := T_9.cellAt 2 rfl; have Tc3 := T_9.cellAt 3 rfl; have Tc4 := T_9.cellAt 4 rfl; have Tc5 := T_9.cellAt 5 rfl; have Tl := T_9.lt; clear h9_))
  go_ret
  exact ⟨rfl, by repeat (first | exact S_9 | refine pa ?_)⟩

set_option maxHeartbeats 16000000 in
set_option maxRecDepth 100000 in
theorem llaw_good (nm : List UInt8) (M : List (List UInt8)) (x1 x2 x3 x4 : Int) (A : Option Addr) (c : Nat) (hcap : M.length ≤ c) (i1 : I64 x1) (i2 : I64 x2) (i3 : I64 x3) (i4 : I64 x4) (l : List UInt8) (sh : Bool) (hsh : shortB (lotB (nm, M, x1, x2, x3, x4)) = sh) (h0 : sh = true) (hl : l.length ≤ 200) (E : Int) (hE : lotE (lotB (nm, M, x1, x2, x3, x4)) = E) (hE0 : E = 0) (hs : (fmtL nm M x1 x2 x3 x4).length ≤ 500) (hq : lotOut (parseL (fmtL nm M x1 x2 x3 x4)) = ((nm, M, x1, x2, x3, x4), 0)) (w : World) (hS : StrIn w) (hr : TxtIn w A M) :
    Calls Tryz.prog 5 #[.agg #[.string ⟨nm.toArray⟩, .slice A M.length c, .int .i64 x1, .int .i64 x2, .int .i64 x3, .int .i64 x4], .string ⟨l.toArray⟩] w fun e w' => e = .returned (.bool true) ∧ Below w.heap.size w w' := by
  have HS := Lib.hid (fun w' (h : Below w.heap.size w w') => hS.kept h)
  have hbs := bsize l
  have hshort := fun w' (h : TxtIn w' A M) => short_any w'.heap.size (lotB (nm, M, x1, x2, x3, x4)) A M.length c w' (by simp [lotB]) (rowIn_of_cells h) (Nat.le_refl _)
  rw [hsh] at hshort
  have HSh := Lib.hid (show ∀ w', TxtIn w' A M → Calls Tryz.prog 33 #[.agg #[.string ⟨nm.toArray⟩, .slice A M.length c, .int .i64 x1, .int .i64 x2, .int .i64 x3, .int .i64 x4]] w' fun e w'' => e = .returned (.bool sh) ∧ Below w'.heap.size w' w'' from hshort)
  clear hS hshort
  subst h0
  obtain ⟨s1, s2, s3⟩ := short_list hsh
  have hli : ¬ (200 : Int) < (l.length : Int) := by omega
  have hsm := small_lot (nm := nm) (M := M) (by omega) (by omega) (fun x hx => Nat.le_trans (s3 x hx) (by omega)) x1 x2 x3 x4
  have HCo := Lib.hid (show ∀ w', TxtIn w' A M → Calls Tryz.prog 25 #[.agg #[.string ⟨nm.toArray⟩, .slice A M.length c, .int .i64 x1, .int .i64 x2, .int .i64 x3, .int .i64 x4]] w' fun e w'' => ∃ A c, e = .returned (.agg #[.string ⟨nm.toArray⟩, .slice A M.length c, .int .i64 x1, .int .i64 x2, .int .i64 x3, .int .i64 x4]) ∧ TxtIn w'' A M ∧ M.length ≤ c ∧ Below w'.heap.size w' w'' from fun w' h => (copyLot_any w'.heap.size (lotB (nm, M, x1, x2, x3, x4)) A M.length c w' (by simp [lotB]) (rowIn_of_cells h) (Nat.le_refl _) hsm).mono fun e w'' ⟨A2, c2, h1, h2, h3, h4⟩ => ⟨A2, c2, by rw [h1]; simp [lotB], cells_of_row h2.row, by simpa [lotB] using h3, h4⟩)
  have HF := Lib.hid (fun A2 c2 w' hS' (h : TxtIn w' A2 M) (hc : M.length ≤ c2) => formatLot_core w'.heap.size nm M A2 M.length c2 x1 x2 x3 x4 w' hS' rfl h (Nat.le_refl _) hc (by omega) (by omega) (fun x hx => Nat.le_trans (s3 x hx) (by omega)) i1 i2 i3 i4)
  have HG := Lib.hid (fun w' (h : TxtIn w' A M) => refFormatLot_core w'.heap.size nm M A M.length c x1 x2 x3 x4 w' rfl h (Nat.le_refl _) (by omega) (by omega) (fun x hx => Nat.le_trans (s3 x hx) (by omega)) i1 i2 i3 i4)
  have hEr := fun w' (h : TxtIn w' A M) => refLotErr_any w'.heap.size (lotB (nm, M, x1, x2, x3, x4)) A M.length c w' (by simp [lotB]) (rowIn_of_cells h) (Nat.le_refl _) hsm hcap
  rw [hE] at hEr
  have HE := Lib.hid (show ∀ w', TxtIn w' A M → Calls Tryz.prog 36 #[.agg #[.string ⟨nm.toArray⟩, .slice A M.length c, .int .i64 x1, .int .i64 x2, .int .i64 x3, .int .i64 x4]] w' fun e w'' => e = .returned (.int .i64 E) ∧ Below w'.heap.size w' w'' from hEr)
  clear hEr
  have hA := fun w' hS => ParseLot_any l (by omega) w' hS
  have hB := fun w' => refParseLot_any l (by omega) w'
  have hqn := lotOut_len l (by omega)
  generalize lotOut (parseL l) = q at *
  obtain ⟨⟨qn, qM, q1, q2, q3, q4⟩, qe⟩ := q
  dsimp only at hqn
  have HA := Lib.hid (show ∀ w', StrIn w' → Calls Tryz.prog 23 #[.string ⟨l.toArray⟩] w' fun e w'' => ∃ A c, e = .returned (.tuple #[.agg #[.string ⟨qn.toArray⟩, .slice A qM.length c, .int .i64 q1, .int .i64 q2, .int .i64 q3, .int .i64 q4], .int .i64 qe]) ∧ qM.length ≤ c ∧ TxtIn w'' A qM ∧ Below w'.heap.size w' w'' from hA)
  have HB := Lib.hid (show ∀ w', Calls Tryz.prog 34 #[.string ⟨l.toArray⟩] w' fun e w'' => ∃ A c, e = .returned (.tuple #[.agg #[.string ⟨qn.toArray⟩, .slice A qM.length c, .int .i64 q1, .int .i64 q2, .int .i64 q3, .int .i64 q4], .int .i64 qe]) ∧ qM.length ≤ c ∧ TxtIn w'' A qM ∧ Below w'.heap.size w' w'' from hB)
  have HQ := Lib.hid (fun A1 A2 c1 c2 w' (h1 : TxtIn w' A1 qM) (h2 : TxtIn w' A2 qM) => refSameLot_any qn qM q1 q2 q3 q4 A1 A2 c1 c2 w' h1 h2 (by omega))
  clear hA hB hqn
  have hC := fun w' hS => ParseLot_any (fmtL nm M x1 x2 x3 x4) hs w' hS
  rw [hq] at hC
  have HC := Lib.hid (show ∀ w', StrIn w' → Calls Tryz.prog 23 #[.string ⟨(fmtL nm M x1 x2 x3 x4).toArray⟩] w' fun e w'' => ∃ A c, e = .returned (.tuple #[.agg #[.string ⟨nm.toArray⟩, .slice A M.length c, .int .i64 x1, .int .i64 x2, .int .i64 x3, .int .i64 x4], .int .i64 0]) ∧ M.length ≤ c ∧ TxtIn w'' A M ∧ Below w'.heap.size w' w'' from hC)
  have HX := Lib.hid (fun A1 A2 c1 c2 w' (h1 : TxtIn w' A1 M) (h2 : TxtIn w' A2 M) => refSameLot_any nm M x1 x2 x3 x4 A1 A2 c1 c2 w' h1 h2 (by omega))
  subst hE0
  generalize fmtL nm M x1 x2 x3 x4 = S at *
  clear hE hl hsh s1 s2 s3 hsm i1 i2 i3 i4 hC hq hs
  go_enter Tryz.func5, Tryz.ntmps5
  go_wp2_with (first
    | (go_at_call 32; (with_reducible refine (awake_any _).mono ?_); rintro e w1_ ⟨rfl, h1_⟩; have T_1 : Blk w1_ (w.heap.size) 58 #[.string ⟨nm.toArray⟩, .slice A M.length c, .int .i64 x1, .int .i64 x2, .int .i64 x3, .int .i64 x4] := (Blk.newAt (by simp)).past h1_; have RX_1 : TxtIn w1_ A M := (hr.alloc).past h1_; have S_1 := pt (pa (pr)) h1_; have Tc0 := T_1.cellAt 0 rfl; have Tc1 := T_1.cellAt 1 rfl; have Tc2 := T_1.cellAt 2 rfl; have Tc3 := T_1.cellAt 3 rfl; have Tc4 := T_1.cellAt 4 rfl; have Tc5 := T_1.cellAt 5 rfl; have Tl := T_1.lt; clear h1_)
    | (go_at_call 33; (with_reducible refine (HSh.out _ (RX_1)).mono ?_); rintro e w2_ ⟨rfl, h2_⟩; have T_2 : Blk w2_ (w.heap.size) 58 #[.string ⟨nm.toArray⟩, .slice A M.length c, .int .i64 x1, .int .i64 x2, .int .i64 x3, .int .i64 x4] := (T_1).past h2_; have RX_2 : TxtIn w2_ A M := (RX_1).past h2_; have S_2 := pt (S_1) h2_; clear T_1 RX_1 S_1 Tc0 Tc1 Tc2 Tc3 Tc4 Tc5 Tl; have Tc0 := T_2.cellAt 0 rfl; have Tc1 := T_2.cellAt 1 rfl; have Tc2 := T_2.cellAt 2 rfl; have Tc3 := T_2.cellAt 3 rfl; have Tc4 := T_2.cellAt 4 rfl; have Tc5 := T_2.cellAt 5 rfl; have Tl := T_2.lt; clear h2_)
    | (go_at_call 25; (with_reducible refine (HCo.out _ (RX_2)).mono ?_); rintro e w3_ ⟨A1, c1, rfl, hr1, hc1, h3_⟩; have T_3 : Blk w3_ (w.heap.size) 58 #[.string ⟨nm.toArray⟩, .slice A M.length c, .int .i64 x1, .int .i64 x2, .int .i64 x3, .int .i64 x4] := (T_2).past h3_; have RX_3 : TxtIn w3_ A M := (RX_2).past h3_; have S_3 := pt (S_2) h3_; clear T_2 RX_2 S_2 Tc0 Tc1 Tc2 Tc3 Tc4 Tc5 Tl; clear h3_; have RC_3 : TxtIn w3_ A1 M := hr1; clear hr1)
    | (go_at_call 24; (with_reducible refine (HF.out _ _ _ (HS.out _ (S_3)) (RC_3) hc1).mono ?_); rintro e w4_ ⟨rfl, h4_⟩; have T_4 : Blk w4_ (w.heap.size) 58 #[.string ⟨nm.toArray⟩, .slice A M.length c, .int .i64 x1, .int .i64 x2, .int .i64 x3, .int .i64 x4] := (T_3).past h4_; have RX_4 : TxtIn w4_ A M := (RX_3).past h4_; have RC_4 : TxtIn w4_ A1 M := (RC_3).past h4_; have S_4 := pt (S_3) h4_; clear T_3 RX_3 RC_3 S_3; clear h4_)
    | (go_at_call 23; (with_reducible refine (HA.out _ (HS.out _ (S_4))).mono ?_); rintro e w5_ ⟨A2, c2, rfl, hc2, hr2, h5_⟩; have T_5 : Blk w5_ (w.heap.size) 58 #[.string ⟨nm.toArray⟩, .slice A M.length c, .int .i64 x1, .int .i64 x2, .int .i64 x3, .int .i64 x4] := (T_4).past h5_; have RX_5 : TxtIn w5_ A M := (RX_4).past h5_; have S_5 := pt (S_4) h5_; clear T_4 RX_4 S_4; clear h5_; have RA_5 : TxtIn w5_ A2 qM := hr2; clear hr2 hc2)
    | (go_at_call 34; (with_reducible refine (HB.out _).mono ?_); rintro e w6_ ⟨A3, c3, rfl, hc3, hr3, h6_⟩; have T_6 : Blk w6_ (w.heap.size) 58 #[.string ⟨nm.toArray⟩, .slice A M.length c, .int .i64 x1, .int .i64 x2, .int .i64 x3, .int .i64 x4] := (T_5.alloc).past h6_; have X_6 : Blk w6_ (w5_.heap.size) 58 #[.string ⟨qn.toArray⟩, .slice A2 qM.length c2, .int .i64 q1, .int .i64 q2, .int .i64 q3, .int .i64 q4] := (Blk.newAt (by simp)).past h6_; have RX_6 : TxtIn w6_ A M := (RX_5.alloc).past h6_; have RA_6 : TxtIn w6_ A2 qM := (RA_5.alloc).past h6_; have S_6 := pt (pa (S_5)) h6_; clear T_5 RX_5 RA_5 S_5; have Tc0 := T_6.cellAt 0 rfl; have Tc1 := T_6.cellAt 1 rfl; have Tc2 := T_6.cellAt 2 rfl; have Tc3 := T_6.cellAt 3 rfl; have Tc4 := T_6.cellAt 4 rfl; have Tc5 := T_6.cellAt 5 rfl; have Tl := T_6.lt; clear h6_; have RB_6 : TxtIn w6_ A3 qM := hr3; clear hr3 hc3)
    | (go_at_call 35; (with_reducible refine (HG.out _ (RX_6.alloc)).mono ?_); rintro e w7_ ⟨rfl, h7_⟩; have T_7 : Blk w7_ (w.heap.size) 58 #[.string ⟨nm.toArray⟩, .slice A M.length c, .int .i64 x1, .int .i64 x2, .int .i64 x3, .int .i64 x4] := (T_6.alloc).past h7_; have X_7 : Blk w7_ (w5_.heap.size) 58 #[.string ⟨qn.toArray⟩, .slice A2 qM.length c2, .int .i64 q1, .int .i64 q2, .int .i64 q3, .int .i64 q4] := (X_6.alloc).past h7_; have Y_7 : Blk w7_ (w6_.heap.size) 58 #[.string ⟨qn.toArray⟩, .slice A3 qM.length c3, .int .i64 q1, .int .i64 q2, .int .i64 q3, .int .i64 q4] := (Blk.newAt (by simp)).past h7_; have RX_7 : TxtIn w7_ A M := (RX_6.alloc).past h7_; have RA_7 : TxtIn w7_ A2 qM := (RA_6.alloc).past h7_; have RB_7 : TxtIn w7_ A3 qM := (RB_6.alloc).past h7_; have S_7 := pt (pa (S_6)) h7_; clear T_6 X_6 RX_6 RA_6 RB_6 S_6 Tc0 Tc1 Tc2 Tc3 Tc4 Tc5 Tl; have Xc0 := X_7.cellAt 0 rfl; have Xc1 := X_7.cellAt 1 rfl; have Xc2 := X_7.cellAt 2 rfl; have Xc3 := X_7.cellAt 3 rfl; have Xc4 := X_7.cellAt 4 rfl; have Xc5 := X_7.cellAt 5 rfl; have Xl := X_7.lt; have Yc0 := Y_7.cellAt 0 rfl; have Yc1 := Y_7.cellAt 1 rfl; have Yc2 := Y_7.cellAt 2 rfl; have Yc3 := Y_7.cellAt 3 rfl; have Yc4 := Y_7.cellAt 4 rfl; have Yc5 := Y_7.cellAt 5 rfl; have Yl := Y_7.lt; clear h7_)
    | (go_at_call 26; (with_reducible refine (HQ.out _ _ _ _ _ (RA_7) (RB_7)).mono ?_); rintro e w8_ ⟨rfl, h8_⟩; have T_8 : Blk w8_ (w.heap.size) 58 #[.string ⟨nm.toArray⟩, .slice A M.length c, .int .i64 x1, .int .i64 x2, .int .i64 x3, .int .i64 x4] := (T_7).past h8_; have X_8 : Blk w8_ (w5_.heap.size) 58 #[.string ⟨qn.toArray⟩, .slice A2 qM.length c2, .int .i64 q1, .int .i64 q2, .int .i64 q3, .int .i64 q4] := (X_7).past h8_; have Y_8 : Blk w8_ (w6_.heap.size) 58 #[.string ⟨qn.toArray⟩, .slice A3 qM.length c3, .int .i64 q1, .int .i64 q2, .int .i64 q3, .int .i64 q4] := (Y_7).past h8_; have RX_8 : TxtIn w8_ A M := (RX_7).past h8_; have RA_8 : TxtIn w8_ A2 qM := (RA_7).past h8_; have RB_8 : TxtIn w8_ A3 qM := (RB_7).past h8_; have S_8 := pt (S_7) h8_; clear T_7 X_7 Y_7 RX_7 RA_7 RB_7 S_7 Xc0 Xc1 Xc2 Xc3 Xc4 Xc5 Xl Yc0 Yc1 Yc2 Yc3 Yc4 Yc5 Yl; have Tc0 := T_8.cellAt 0 rfl; have Tc1 := T_8.cellAt 1 rfl; have Tc2 := T_8.cellAt 2 rfl; have Tc3 := T_8.cellAt 3 rfl; have Tc4 := T_8.cellAt 4 rfl; have Tc5 := T_8.cellAt 5 rfl; have Tl := T_8.lt; clear h8_)
    | (go_at_call 36; (with_reducible refine (HE.out _ (RX_8)).mono ?_); rintro e w9_ ⟨rfl, h9_⟩; have T_9 : Blk w9_ (w.heap.size) 58 #[.string ⟨nm.toArray⟩, .slice A M.length c, .int .i64 x1, .int .i64 x2, .int .i64 x3, .int .i64 x4] := (T_8).past h9_; have X_9 : Blk w9_ (w5_.heap.size) 58 #[.string ⟨qn.toArray⟩, .slice A2 qM.length c2, .int .i64 q1, .int .i64 q2, .int .i64 q3, .int .i64 q4] := (X_8).past h9_; have Y_9 : Blk w9_ (w6_.heap.size) 58 #[.string ⟨qn.toArray⟩, .slice A3 qM.length c3, .int .i64 q1, .int .i64 q2, .int .i64 q3, .int .i64 q4] := (Y_8).past h9_; have RX_9 : TxtIn w9_ A M := (RX_8).past h9_; have RA_9 : TxtIn w9_ A2 qM := (RA_8).past h9_; have RB_9 : TxtIn w9_ A3 qM := (RB_8).past h9_; have S_9 := pt (S_8) h9_; clear T_8 X_8 Y_8 RX_8 RA_8 RB_8 S_8 Tc0 Tc1 Tc2 Tc3 Tc4 Tc5 Tl; have Tc0 := T_9.cellAt 0 rfl; have Tc1 := T_9.cellAt 1 rfl; have Tc2 := T_9.cellAt 2 rfl; have Tc3 := T_9.cellAt 3 rfl; have Tc4 := T_9.cellAt 4 rfl; have Tc5 := T_9.cellAt 5 rfl; have Tl := T_9.lt; clear h9_)
    | (go_at_call 23; (with_reducible refine (HC.out _ (HS.out _ (S_9))).mono ?_); rintro e w10_ ⟨A4, c4, rfl, hc4, hr4, h10_⟩; have T_10 : Blk w10_ (w.heap.size) 58 #[.string ⟨nm.toArray⟩, .slice A M.length c, .int .i64 x1, .int .i64 x2, .int .i64 x3, .int .i64 x4] := (T_9).past h10_; have X_10 : Blk w10_ (w5_.heap.size) 58 #[.string ⟨qn.toArray⟩, .slice A2 qM.length c2, .int .i64 q1, .int .i64 q2, .int .i64 q3, .int .i64 q4] := (X_9).past h10_; have Y_10 : Blk w10_ (w6_.heap.size) 58 #[.string ⟨qn.toArray⟩, .slice A3 qM.length c3, .int .i64 q1, .int .i64 q2, .int .i64 q3, .int .i64 q4] := (Y_9).past h10_; have RX_10 : TxtIn w10_ A M := (RX_9).past h10_; have RA_10 : TxtIn w10_ A2 qM := (RA_9).past h10_; have RB_10 : TxtIn w10_ A3 qM := (RB_9).past h10_; have S_10 := pt (S_9) h10_; clear T_9 X_9 Y_9 RX_9 RA_9 RB_9 S_9 Tc0 Tc1 Tc2 Tc3 Tc4 Tc5 Tl; have Tc0 := T_10.cellAt 0 rfl; have Tc1 := T_10.cellAt 1 rfl; have Tc2 := T_10.cellAt 2 rfl; have Tc3 := T_10.cellAt 3 rfl; have Tc4 := T_10.cellAt 4 rfl; have Tc5 := T_10.cellAt 5 rfl; have Tl := T_10.lt; clear h10_; have RD_10 : TxtIn w10_ A4 M := hr4; clear hr4 hc4)
    | (go_at_call 26; (with_reducible refine (HX.out _ _ _ _ _ (RD_10.alloc) (RX_10.alloc)).mono ?_); rintro e w11_ ⟨rfl, h11_⟩; have T_11 : Blk w11_ (w.heap.size) 58 #[.string ⟨nm.toArray⟩, .slice A M.length c, .int .i64 x1, .int .i64 x2, .int .i64 x3, .int .i64 x4] := (T_10.alloc).past h11_; have X_11 : Blk w11_ (w5_.heap.size) 58 #[.string ⟨qn.toArray⟩, .slice A2 qM.length c2, .int .i64 q1, .int .i64 q2, .int .i64 q3, .int .i64 q4] := (X_10.alloc).past h11_; have Y_11 : Blk w11_ (w6_.heap.size) 58 #[.string ⟨qn.toArray⟩, .slice A3 qM.length c3, .int .i64 q1, .int .i64 q2, .int .i64 q3, .int .i64 q4] := (Y_10.alloc).past h11_; have V_11 : Blk w11_ (w10_.heap.size) 58 #[.string ⟨nm.toArray⟩, .slice A4 M.length c4, .int .i64 x1, .int .i64 x2, .int .i64 x3, .int .i64 x4] := (Blk.newAt (by simp)).past h11_; have RX_11 : TxtIn w11_ A M := (RX_10.alloc).past h11_; have RA_11 : TxtIn w11_ A2 qM := (RA_10.alloc).past h11_; have RB_11 : TxtIn w11_ A3 qM := (RB_10.alloc).past h11_; have RD_11 : TxtIn w11_ A4 M := (RD_10.alloc).past h11_; have S_11 := pt (pa (S_10)) h11_; clear T_10 X_10 Y_10 RX_10 RA_10 RB_10 RD_10 S_10 Tc0 Tc1 Tc2 Tc3 Tc4 Tc5 Tl; clear h11_))
  go_ret
  exact ⟨rfl, by repeat (first | exact S_11 | refine pa ?_)⟩

theorem fmtL_len (nm : List UInt8) (M : List (List UInt8)) (x1 x2 x3 x4 : Int) (i1 : I64 x1) (i2 : I64 x2) (i3 : I64 x3) (i4 : I64 x4) (h1 : nm.length ≤ 20) (h2 : M.length ≤ 8) (h3 : ∀ x ∈ M, x.length ≤ 20) : (fmtL nm M x1 x2 x3 x4).length ≤ 500 := by
  have l1 := itoa_len i1.1 i1.2
  have l2 := itoa_len i2.1 i2.2
  have l3 := itoa_len i3.1 i3.2
  have l4 := itoa_len i4.1 i4.2
  have l5 := listed_len M 20 h3
  have e : fmtL nm M x1 x2 x3 x4 = (((((((((nm ++ [32]) ++ listedL M) ++ [32]) ++ Lib.itoa x1) ++ [32]) ++ Lib.itoa x2) ++ [32]) ++ Lib.itoa x3) ++ [32]) ++ Lib.itoa x4 := by unfold fmtL; simp [Lib.join]
  rw [e]
  simp only [List.length_append, List.length_singleton]
  omega
theorem llaw_any (nm : List UInt8) (M : List (List UInt8)) (x1 x2 x3 x4 : Int) (A : Option Addr) (c : Nat) (hcap : M.length ≤ c) (i1 : I64 x1) (i2 : I64 x2) (i3 : I64 x3) (i4 : I64 x4) (l : List UInt8) (w : World) (hS : StrIn w) (hr : CellsIn w.heap.size w A (M.map strV)) :
    Calls Tryz.prog 5 #[.agg #[.string ⟨nm.toArray⟩, .slice A M.length c, .int .i64 x1, .int .i64 x2, .int .i64 x3, .int .i64 x4], .string ⟨l.toArray⟩] w fun e w' => e = .returned (.bool true) ∧ Below w.heap.size w w' := by
  by_cases hsh : shortB (lotB (nm, M, x1, x2, x3, x4)) = true
  · by_cases hl : 200 < l.length
    · exact llaw_longS nm M x1 x2 x3 x4 A c hcap i1 i2 i3 i4 l true hsh rfl hl w hS hr
    · by_cases hE : lotE (lotB (nm, M, x1, x2, x3, x4)) = 0
      · obtain ⟨s1, s2, s3⟩ := short_list hsh
        obtain ⟨e1, e2, ⟨e3, e4⟩, e5, e6⟩ := lotE_ok hE
        refine llaw_good nm M x1 x2 x3 x4 A c hcap i1 i2 i3 i4 l true hsh rfl (by omega) _ rfl hE (fmtL_len nm M x1 x2 x3 x4 i1 i2 i3 i4 s1 s2 s3) ?_ w hS hr
        rw [parse_lot e1 e2 e3 e4 e5 e6]
        unfold lotOut
        dsimp only
        rw [if_pos hE]
      · exact llaw_bad nm M x1 x2 x3 x4 A c hcap i1 i2 i3 i4 l true hsh rfl (by omega) _ rfl (by simpa using hE) w hS hr
  · exact llaw_long nm M x1 x2 x3 x4 A c hcap i1 i2 i3 i4 l false (by simpa using hsh) rfl w hS hr

end Go.Proofs.YtbojmcopagbheaaGreatDoor
