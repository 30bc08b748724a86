/- Contract of the specification's Number: a number of at most seven digits, or none.
Contracts of the library's Itoa and Atoi at any string, and what they read of the library's own variables.
Contract: the works' number of a string, by Atoi, Itoa and TrimPrefix. Printed by a program (gen_wnum.py). -/
import Derived.Test.YtbojmcopagbheaaGreatDoorQ0
import Derived.Test.YtbojmcopagbheaaGreatDoorQ1
import Derived.Laws.IdiomStrings
import Derived.LoopN
import Derived.Test.YtbojmcopagbheaaGreatDoorShelf
import Derived.Lib.AtoiAllCases
import Derived.Lib.AppendIntMem

section
namespace Go.Proofs.YtbojmcopagbheaaGreatDoor
open Go.RowKit

/-- The byte of a string at a place. -/
def byteL (l : List UInt8) (i : Nat) : Int := ((l.getD i 0).toNat : Int)
theorem byteL_bd (l : List UInt8) (i : Nat) : 0 ≤ byteL l i ∧ byteL l i ≤ 255 := by
  unfold byteL
  have := (l.getD i 0).toNat_lt
  omega
theorem bsize (l : List UInt8) : (⟨l.toArray⟩ : ByteArray).size = l.length := by simp [ByteArray.size]
theorem index_byteL (l : List UInt8) (k : Nat) (hk : k < l.length) (w : World) : (Instr.index 9 (.string ⟨l.toArray⟩) (.int .i64 (k : Int))).run Tryz.prog w = .ok (.int .u8 (byteL l k)) w := by
  rw [run_index_string w 9 ⟨l.toArray⟩ .i64 (k : Int) Tryz.underlying9, dif_pos ⟨by omega, by rw [bsize]; omega⟩]
  have e : ((k : Int)).toNat = k := by omega
  simp only [e, byteL]
  congr 3
  show (l.toArray[k]'(by simpa using hk)).toNat = (l.getD k 0).toNat
  rw [List.getD_eq_getElem?_getD, List.getElem?_eq_getElem hk]
  simp
theorem drop_byte {l : List UInt8} {k : Nat} (hk : k < l.length) : l.drop k = l.getD k 0 :: l.drop (k + 1) := by
  rw [List.drop_eq_getElem_cons hk, List.getD_eq_getElem?_getD, List.getElem?_eq_getElem hk]
  rfl
theorem byte_is {l : List UInt8} {k : Nat} {c : Nat} (hc : c < 256) : byteL l k = (c : Int) ↔ l.getD k 0 = UInt8.ofNat c := by
  unfold byteL
  constructor
  · intro h
    have h : (l.getD k 0).toNat = c := by omega
    rw [← h]
    exact (UInt8.ofNat_toNat).symm
  · intro h
    rw [h, UInt8.toNat_ofNat']
    omega
theorem dec_step {l : List UInt8} {k acc : Nat} (hk : k < l.length) : Lib.decFrom acc (l.drop k) = if 48 ≤ byteL l k ∧ byteL l k ≤ 57 then Lib.decFrom (acc * 10 + ((byteL l k).toNat - 48)) (l.drop (k + 1)) else none := by
  rw [drop_byte hk]
  unfold byteL
  generalize l.getD k 0 = c
  simp only [Lib.decFrom]
  by_cases h : 48 ≤ c.toNat ∧ c.toNat ≤ 57
  · rw [digitVal_iff.2 ⟨h.1, h.2, rfl⟩, if_pos (by omega)]
    simp
  · rw [if_neg (by omega)]
    cases hd : Lib.digitVal c with
    | none => rfl
    | some d => exact absurd ⟨(digitVal_iff.1 hd).1, (digitVal_iff.1 hd).2.1⟩ h

end Go.Proofs.YtbojmcopagbheaaGreatDoor
end

section
namespace Go.Proofs.YtbojmcopagbheaaGreatDoor
open Go.RowKit

/-- What the walks over strings read of the library's own variables. -/
structure StrIn (w : World) : Prop where
  tab : Lib.TabIs Tryz.prog w "internal/strconv.uint64pow10" .u64 Lib.pow10Tab
  max : ∃ m : Int, w.cell? ⟨0, 0, none⟩ = some (.int .i64 m)
  syn : ∃ ev, w.cell? ⟨1, 0, none⟩ = some ev ∧ (ev = .nilIface ∨ ∃ te pe, ev = .iface te pe)
  rng : ∃ ev, w.cell? ⟨2, 0, none⟩ = some ev ∧ (ev = .nilIface ∨ ∃ te pe, ev = .iface te pe)
theorem cellS_kept {w w' : World} (hb : Below w.heap.size w w') {a : Addr} {v : Value} (hc : w.cell? a = some v) : w'.cell? a = some v := (hb.cell (World.block_lt_of_cell? w a hc)).trans hc
theorem tab_kept {n : String} {k : IntKind} {zs : List Int} {w w' : World} (h : Lib.TabIs Tryz.prog w n k zs) (hb : Below w.heap.size w w') : Lib.TabIs Tryz.prog w' n k zs := by
  unfold Lib.TabIs World.var? at h ⊢
  cases hg : Tryz.prog.globalNamed n with
  | none => rw [hg] at h; cases h
  | some g =>
    rw [hg] at h
    simp only [Option.bind_some] at h ⊢
    have hlt : g < w.heap.size := by
      rcases Nat.lt_or_ge g w.heap.size with h' | h'
      · exact h'
      · rw [Array.getElem?_eq_none h'] at h; cases h
    rw [hb.block g hlt]
    exact h
theorem StrIn.kept {w w' : World} (h : StrIn w) (hb : Below w.heap.size w w') : StrIn w' :=
  ⟨tab_kept h.tab hb, h.max.imp fun _ q => cellS_kept hb q, h.syn.imp fun _ q => ⟨cellS_kept hb q.1, q.2⟩, h.rng.imp fun _ q => ⟨cellS_kept hb q.1, q.2⟩⟩

theorem itoa_wide (n : Int) (h0 : -9223372036854775808 ≤ n) (h1 : n ≤ 9223372036854775807) (w : World) (h : StrIn w) : Calls Tryz.prog 54 #[.int .i64 n] w fun e w' => e = .returned (.string ⟨(Lib.itoa n).toArray⟩) ∧ Below w.heap.size w w' :=
  (Tryz.strconv_Itoa n h0 h1 w h.tab).mono fun e w' ⟨h1, k, os, h2⟩ => ⟨h1, by rw [h2]; exact Go.Lib.below_grow _ w (Nat.le_refl _) k os⟩
theorem atoi_ok (l : List UInt8) (hl : l.length ≤ 1000) (n : Int) (hA : Lib.atoiAll l = .ok n) (w : World) : Calls Tryz.prog 87 #[.string ⟨l.toArray⟩] w fun e w' => e = .returned (.tuple #[.int .i64 n, .nilIface]) ∧ Below w.heap.size w w' := by
  have hsz : (⟨l.toArray⟩ : ByteArray).size = l.length := by rfl
  refine (Tryz.strconv_Atoi_ok ⟨l.toArray⟩ (by omega) n hA w).mono ?_
  rintro e w' ⟨rfl, hw⟩
  refine ⟨rfl, ?_⟩
  rcases hw with rfl | ⟨t, rfl⟩
  · exact pr
  · exact Lib.bytesWorld_below _ _ _
theorem atoi_bad (l : List UInt8) (hl : l.length ≤ 1000) (hA : ∀ k, Lib.atoiAll l ≠ .ok k) (w : World) (h : StrIn w) : Calls Tryz.prog 87 #[.string ⟨l.toArray⟩] w fun e w' => ∃ n t p, e = .returned (.tuple #[.int .i64 n, .iface t p]) ∧ Below w.heap.size w w' := by
  have hsz : (⟨l.toArray⟩ : ByteArray).size = l.length := by rfl
  by_cases hA2 : Lib.atoiAll l = .range
  · obtain ⟨ev, q1, q2⟩ := h.rng
    refine (Tryz.strconv_Atoi_range ⟨l.toArray⟩ (by omega) hA2 ev w q1 q2).mono ?_
    rintro e w' ⟨N, rfl, _, _, hb⟩
    exact ⟨_, _, _, rfl, hb⟩
  · obtain ⟨ev, q1, q2⟩ := h.syn
    refine (Tryz.strconv_Atoi_syntax ⟨l.toArray⟩ (by omega) hA hA2 ev w q1 q2).mono ?_
    rintro e w' ⟨N, rfl, _, _, hb⟩
    exact ⟨_, _, _, rfl, hb⟩

end Go.Proofs.YtbojmcopagbheaaGreatDoor
end

section
namespace Go.Proofs.YtbojmcopagbheaaGreatDoor
open Go.RowKit

/-- A number of at most seven digits, below 0 or not. -/
def numB (b : Bool) (l : List UInt8) : Option Int := if b then numberV l 7 else numQ 7 l
theorem numB_iff {b : Bool} {l : List UInt8} {k : Int} : numB b l = some k ↔ Lib.atoiAll l = .ok k ∧ Lib.itoa k = l ∧ (b = true ∨ 0 ≤ k) ∧ (Lib.trimPrefix l [45]).length ≤ 7 := by
  cases b with
  | true =>
    have q := number_iff (D := 7) (by decide) (l := l) (k := k)
    unfold numB
    rw [if_pos rfl, q]
    constructor
    · rintro ⟨a, b, c⟩; exact ⟨a, b, .inl rfl, c⟩
    · rintro ⟨a, b, _, c⟩; exact ⟨a, b, c⟩
  | false =>
    have q := numQ_iff (D := 7) (by decide) (l := l) (k := k)
    unfold numB
    rw [if_neg (by decide), q]
    have ht : 0 ≤ k → Lib.itoa k = l → Lib.trimPrefix l [45] = l := fun h0 h => by
      rw [trim_rest]
      unfold restV
      rw [if_neg (by rw [← h, itoa_nat h0]; exact nat_head)]
    constructor
    · rintro ⟨a, h0, h1, c⟩; exact ⟨a, h1, .inr h0, by rw [ht h0 h1]; exact c⟩
    · rintro ⟨a, h1, h0, c⟩
      rcases h0 with h0 | h0
      · cases h0
      · exact ⟨a, h0, h1, by rw [ht h0 h1] at c; exact c⟩
theorem trimP_any (l : List UInt8) (w : World) : Calls Tryz.prog 88 #[.string ⟨l.toArray⟩, .string ⟨#[45]⟩] w fun e w' => e = .returned (.string ⟨(Lib.trimPrefix l [45]).toArray⟩) ∧ w = w' :=
  (Tryz.strings_TrimPrefix ⟨l.toArray⟩ ⟨#[45]⟩ w).mono fun e w' ⟨h1, h2⟩ => ⟨h1, h2.symm⟩
theorem trimP_len (l : List UInt8) : (Lib.trimPrefix l [45]).length ≤ l.length := by
  rw [trim_rest]
  unfold restV
  split
  · simp
  · exact Nat.le_refl _

attribute [local go_sem] ByteArray.toList_mk


set_option maxHeartbeats 4000000 in
set_option maxRecDepth 100000 in
theorem wnum_t1 (l : List UInt8) (hl : l.length ≤ 1000) (n : Int) (hA : Lib.atoiAll l = .ok n) (h1 : Lib.itoa n = l) (h3 : (Lib.trimPrefix l [45]).length ≤ 7) (w : World) (h : StrIn w) :
    Calls Tryz.prog 51 #[.string ⟨l.toArray⟩, .bool true] w fun e w' => e = .returned (.tuple #[.int .i64 n, .bool true]) ∧ Below w.heap.size w w' := by
  have hbs := bsize l
  have hbt := bsize (Lib.trimPrefix l [45])
  have htl := trimP_len l
  have hTr := fun w => trimP_any l w
  generalize Lib.trimPrefix l [45] = tl at *
  have hn0 := (Lib.atoiAll_bounds hA).1
  have hn1 := (Lib.atoiAll_bounds hA).2
  have HTr := Lib.hid hTr
  clear hTr
  have HA := Lib.hid hA
  have c1 : (Lib.itoa n == l) = true := by simpa using h1
  clear h1
  have c3 : (tl.length : Int) ≤ 7 := by omega
  clear h3
  clear hA
  go_enter Tryz.func51, Tryz.ntmps51
  go_wp2_with (first | (go_at_call 87; (with_reducible refine (atoi_ok l hl n HA.out _).mono ?_); rintro e w1 ⟨rfl, hB1⟩; have hS1 := h.kept hB1) | (go_at_call 54; (with_reducible refine (itoa_wide n hn0 hn1 _ hS1).mono ?_); rintro e w2 ⟨rfl, hB2⟩) | (go_at_call 88; (with_reducible refine (HTr.out _).mono ?_); rintro e w3 ⟨rfl, rfl⟩))
  go_ret2
  exact ⟨by first | rfl | trivial, hB1.trans (hB2.mono hB1.size)⟩

set_option maxHeartbeats 4000000 in
set_option maxRecDepth 100000 in
theorem wnum_t2 (l : List UInt8) (hl : l.length ≤ 1000) (n : Int) (hA : Lib.atoiAll l = .ok n) (h1 : Lib.itoa n = l) (h3 : ¬ (Lib.trimPrefix l [45]).length ≤ 7) (w : World) (h : StrIn w) :
    Calls Tryz.prog 51 #[.string ⟨l.toArray⟩, .bool true] w fun e w' => e = .returned (.tuple #[.int .i64 n, .bool false]) ∧ Below w.heap.size w w' := by
  have hbs := bsize l
  have hbt := bsize (Lib.trimPrefix l [45])
  have htl := trimP_len l
  have hTr := fun w => trimP_any l w
  generalize Lib.trimPrefix l [45] = tl at *
  have hn0 := (Lib.atoiAll_bounds hA).1
  have hn1 := (Lib.atoiAll_bounds hA).2
  have HTr := Lib.hid hTr
  clear hTr
  have HA := Lib.hid hA
  have c1 : (Lib.itoa n == l) = true := by simpa using h1
  clear h1
  have c3 : (decide ((tl.length : Int) ≤ 7)) = false := by simp; omega
  clear h3
  clear hA
  go_enter Tryz.func51, Tryz.ntmps51
  go_wp2_with (first | (go_at_call 87; (with_reducible refine (atoi_ok l hl n HA.out _).mono ?_); rintro e w1 ⟨rfl, hB1⟩; have hS1 := h.kept hB1) | (go_at_call 54; (with_reducible refine (itoa_wide n hn0 hn1 _ hS1).mono ?_); rintro e w2 ⟨rfl, hB2⟩) | (go_at_call 88; (with_reducible refine (HTr.out _).mono ?_); rintro e w3 ⟨rfl, rfl⟩))
  go_ret2
  exact ⟨by first | rfl | trivial, hB1.trans (hB2.mono hB1.size)⟩

set_option maxHeartbeats 4000000 in
set_option maxRecDepth 100000 in
theorem wnum_t3 (l : List UInt8) (hl : l.length ≤ 1000) (n : Int) (hA : Lib.atoiAll l = .ok n) (h1 : ¬ Lib.itoa n = l) (w : World) (h : StrIn w) :
    Calls Tryz.prog 51 #[.string ⟨l.toArray⟩, .bool true] w fun e w' => e = .returned (.tuple #[.int .i64 n, .bool false]) ∧ Below w.heap.size w w' := by
  have hbs := bsize l
  have hbt := bsize (Lib.trimPrefix l [45])
  have htl := trimP_len l
  have hTr := fun w => trimP_any l w
  generalize Lib.trimPrefix l [45] = tl at *
  have hn0 := (Lib.atoiAll_bounds hA).1
  have hn1 := (Lib.atoiAll_bounds hA).2
  have HTr := Lib.hid hTr
  clear hTr
  have HA := Lib.hid hA
  have c1 : (Lib.itoa n == l) = false := by simpa using h1
  clear h1
  clear hA
  go_enter Tryz.func51, Tryz.ntmps51
  go_wp2_with (first | (go_at_call 87; (with_reducible refine (atoi_ok l hl n HA.out _).mono ?_); rintro e w1 ⟨rfl, hB1⟩; have hS1 := h.kept hB1) | (go_at_call 54; (with_reducible refine (itoa_wide n hn0 hn1 _ hS1).mono ?_); rintro e w2 ⟨rfl, hB2⟩) | (go_at_call 88; (with_reducible refine (HTr.out _).mono ?_); rintro e w3 ⟨rfl, rfl⟩))
  go_ret2
  exact ⟨by first | rfl | trivial, hB1.trans (hB2.mono hB1.size)⟩

set_option maxHeartbeats 4000000 in
set_option maxRecDepth 100000 in
theorem wnum_f1 (l : List UInt8) (hl : l.length ≤ 1000) (n : Int) (hA : Lib.atoiAll l = .ok n) (h1 : Lib.itoa n = l) (h2 : 0 ≤ n) (h3 : (Lib.trimPrefix l [45]).length ≤ 7) (w : World) (h : StrIn w) :
    Calls Tryz.prog 51 #[.string ⟨l.toArray⟩, .bool false] w fun e w' => e = .returned (.tuple #[.int .i64 n, .bool true]) ∧ Below w.heap.size w w' := by
  have hbs := bsize l
  have hbt := bsize (Lib.trimPrefix l [45])
  have htl := trimP_len l
  have hTr := fun w => trimP_any l w
  generalize Lib.trimPrefix l [45] = tl at *
  have hn0 := (Lib.atoiAll_bounds hA).1
  have hn1 := (Lib.atoiAll_bounds hA).2
  have HTr := Lib.hid hTr
  clear hTr
  have HA := Lib.hid hA
  have c1 : (Lib.itoa n == l) = true := by simpa using h1
  clear h1
  have c3 : (tl.length : Int) ≤ 7 := by omega
  clear h3
  have c2 : (decide (0 ≤ n)) = true := by simpa using h2
  clear hA
  go_enter Tryz.func51, Tryz.ntmps51
  go_wp2_with (first | (go_at_call 87; (with_reducible refine (atoi_ok l hl n HA.out _).mono ?_); rintro e w1 ⟨rfl, hB1⟩; have hS1 := h.kept hB1) | (go_at_call 54; (with_reducible refine (itoa_wide n hn0 hn1 _ hS1).mono ?_); rintro e w2 ⟨rfl, hB2⟩) | (go_at_call 88; (with_reducible refine (HTr.out _).mono ?_); rintro e w3 ⟨rfl, rfl⟩))
  go_ret2
  exact ⟨by first | rfl | trivial, hB1.trans (hB2.mono hB1.size)⟩

set_option maxHeartbeats 4000000 in
set_option maxRecDepth 100000 in
theorem wnum_f2 (l : List UInt8) (hl : l.length ≤ 1000) (n : Int) (hA : Lib.atoiAll l = .ok n) (h1 : Lib.itoa n = l) (h2 : 0 ≤ n) (h3 : ¬ (Lib.trimPrefix l [45]).length ≤ 7) (w : World) (h : StrIn w) :
    Calls Tryz.prog 51 #[.string ⟨l.toArray⟩, .bool false] w fun e w' => e = .returned (.tuple #[.int .i64 n, .bool false]) ∧ Below w.heap.size w w' := by
  have hbs := bsize l
  have hbt := bsize (Lib.trimPrefix l [45])
  have htl := trimP_len l
  have hTr := fun w => trimP_any l w
  generalize Lib.trimPrefix l [45] = tl at *
  have hn0 := (Lib.atoiAll_bounds hA).1
  have hn1 := (Lib.atoiAll_bounds hA).2
  have HTr := Lib.hid hTr
  clear hTr
  have HA := Lib.hid hA
  have c1 : (Lib.itoa n == l) = true := by simpa using h1
  clear h1
  have c3 : (decide ((tl.length : Int) ≤ 7)) = false := by simp; omega
  clear h3
  have c2 : (decide (0 ≤ n)) = true := by simpa using h2
  clear hA
  go_enter Tryz.func51, Tryz.ntmps51
  go_wp2_with (first | (go_at_call 87; (with_reducible refine (atoi_ok l hl n HA.out _).mono ?_); rintro e w1 ⟨rfl, hB1⟩; have hS1 := h.kept hB1) | (go_at_call 54; (with_reducible refine (itoa_wide n hn0 hn1 _ hS1).mono ?_); rintro e w2 ⟨rfl, hB2⟩) | (go_at_call 88; (with_reducible refine (HTr.out _).mono ?_); rintro e w3 ⟨rfl, rfl⟩))
  go_ret2
  exact ⟨by first | rfl | trivial, hB1.trans (hB2.mono hB1.size)⟩

set_option maxHeartbeats 4000000 in
set_option maxRecDepth 100000 in
theorem wnum_f3 (l : List UInt8) (hl : l.length ≤ 1000) (n : Int) (hA : Lib.atoiAll l = .ok n) (h1 : Lib.itoa n = l) (h2 : ¬ 0 ≤ n) (w : World) (h : StrIn w) :
    Calls Tryz.prog 51 #[.string ⟨l.toArray⟩, .bool false] w fun e w' => e = .returned (.tuple #[.int .i64 n, .bool false]) ∧ Below w.heap.size w w' := by
  have hbs := bsize l
  have hbt := bsize (Lib.trimPrefix l [45])
  have htl := trimP_len l
  have hTr := fun w => trimP_any l w
  generalize Lib.trimPrefix l [45] = tl at *
  have hn0 := (Lib.atoiAll_bounds hA).1
  have hn1 := (Lib.atoiAll_bounds hA).2
  have HTr := Lib.hid hTr
  clear hTr
  have HA := Lib.hid hA
  have c1 : (Lib.itoa n == l) = true := by simpa using h1
  clear h1
  have c2 : (decide (0 ≤ n)) = false := by simpa using h2
  have c2b : ¬ 0 ≤ n := h2
  clear h2
  clear hA
  go_enter Tryz.func51, Tryz.ntmps51
  go_wp2_with (first | (go_at_call 87; (with_reducible refine (atoi_ok l hl n HA.out _).mono ?_); rintro e w1 ⟨rfl, hB1⟩; have hS1 := h.kept hB1) | (go_at_call 54; (with_reducible refine (itoa_wide n hn0 hn1 _ hS1).mono ?_); rintro e w2 ⟨rfl, hB2⟩) | (go_at_call 88; (with_reducible refine (HTr.out _).mono ?_); rintro e w3 ⟨rfl, rfl⟩))
  go_ret2
  exact ⟨by first | rfl | trivial, hB1.trans (hB2.mono hB1.size)⟩

set_option maxHeartbeats 4000000 in
set_option maxRecDepth 100000 in
theorem wnum_f4 (l : List UInt8) (hl : l.length ≤ 1000) (n : Int) (hA : Lib.atoiAll l = .ok n) (h1 : ¬ Lib.itoa n = l) (w : World) (h : StrIn w) :
    Calls Tryz.prog 51 #[.string ⟨l.toArray⟩, .bool false] w fun e w' => e = .returned (.tuple #[.int .i64 n, .bool false]) ∧ Below w.heap.size w w' := by
  have hbs := bsize l
  have hbt := bsize (Lib.trimPrefix l [45])
  have htl := trimP_len l
  have hTr := fun w => trimP_any l w
  generalize Lib.trimPrefix l [45] = tl at *
  have hn0 := (Lib.atoiAll_bounds hA).1
  have hn1 := (Lib.atoiAll_bounds hA).2
  have HTr := Lib.hid hTr
  clear hTr
  have HA := Lib.hid hA
  have c1 : (Lib.itoa n == l) = false := by simpa using h1
  clear h1
  clear hA
  go_enter Tryz.func51, Tryz.ntmps51
  go_wp2_with (first | (go_at_call 87; (with_reducible refine (atoi_ok l hl n HA.out _).mono ?_); rintro e w1 ⟨rfl, hB1⟩; have hS1 := h.kept hB1) | (go_at_call 54; (with_reducible refine (itoa_wide n hn0 hn1 _ hS1).mono ?_); rintro e w2 ⟨rfl, hB2⟩) | (go_at_call 88; (with_reducible refine (HTr.out _).mono ?_); rintro e w3 ⟨rfl, rfl⟩))
  go_ret2
  exact ⟨by first | rfl | trivial, hB1.trans (hB2.mono hB1.size)⟩

set_option maxHeartbeats 4000000 in
set_option maxRecDepth 100000 in
theorem wnum_bad (l : List UInt8) (hl : l.length ≤ 1000) (b : Bool) (hA : ∀ k, Lib.atoiAll l ≠ .ok k) (w : World) (h : StrIn w) :
    Calls Tryz.prog 51 #[.string ⟨l.toArray⟩, .bool b] w fun e w' => (∃ n, e = .returned (.tuple #[.int .i64 n, .bool false])) ∧ Below w.heap.size w w' := by
  have HA := Lib.hid hA
  clear hA
  go_enter Tryz.func51, Tryz.ntmps51
  go_wp2_with (go_at_call 87; (with_reducible refine (atoi_bad l hl HA.out _ h).mono ?_); rintro e w1 ⟨n, t, p, rfl, hB1⟩)
  go_ret2
  exact ⟨⟨n, rfl⟩, hB1⟩

theorem wnumber_any (l : List UInt8) (hl : l.length ≤ 1000) (b : Bool) (w : World) (h : StrIn w) :
    Calls Tryz.prog 51 #[.string ⟨l.toArray⟩, .bool b] w fun e w' => (∃ x : Int, e = .returned (.tuple #[.int .i64 x, .bool (numB b l).isSome]) ∧ ∀ k, numB b l = some k → x = k) ∧ Below w.heap.size w w' := by
  have hQ := fun k => numB_iff (b := b) (l := l) (k := k)
  by_cases hA : ∃ n, Lib.atoiAll l = .ok n
  · obtain ⟨n, hA⟩ := hA
    by_cases hg : Lib.itoa n = l ∧ (b = true ∨ 0 ≤ n) ∧ (Lib.trimPrefix l [45]).length ≤ 7
    · have hs := (hQ n).2 ⟨hA, hg⟩
      have key : Calls Tryz.prog 51 #[.string ⟨l.toArray⟩, .bool b] w fun e w' => e = .returned (.tuple #[.int .i64 n, .bool true]) ∧ Below w.heap.size w w' := by
        cases b with
        | true => exact wnum_t1 l hl n hA hg.1 hg.2.2 w h
        | false => exact wnum_f1 l hl n hA hg.1 (hg.2.1.resolve_left (by decide)) hg.2.2 w h
      exact key.mono fun e w' ⟨h1, h2⟩ => ⟨⟨n, by rw [hs]; exact h1, fun k hk => by rw [hs] at hk; exact Option.some.inj hk⟩, h2⟩
    · have hs : numB b l = none := by
        cases e : numB b l with
        | none => rfl
        | some k =>
          obtain ⟨q1, q2⟩ := (hQ k).1 e
          rw [hA] at q1
          injection q1 with q1
          subst q1
          exact absurd q2 hg
      have key : Calls Tryz.prog 51 #[.string ⟨l.toArray⟩, .bool b] w fun e w' => e = .returned (.tuple #[.int .i64 n, .bool false]) ∧ Below w.heap.size w w' := by
        by_cases h1 : Lib.itoa n = l
        · cases b with
          | true => exact wnum_t2 l hl n hA h1 (fun q => hg ⟨h1, .inl rfl, q⟩) w h
          | false =>
            by_cases h2 : 0 ≤ n
            · exact wnum_f2 l hl n hA h1 h2 (fun q => hg ⟨h1, .inr h2, q⟩) w h
            · exact wnum_f3 l hl n hA h1 h2 w h
        · cases b with
          | true => exact wnum_t3 l hl n hA h1 w h
          | false => exact wnum_f4 l hl n hA h1 w h
      exact key.mono fun e w' ⟨h1, h2⟩ => ⟨⟨n, by rw [hs]; exact h1, fun k hk => by rw [hs] at hk; cases hk⟩, h2⟩
  · have hA := not_exists.1 hA
    have hs : numB b l = none := by
      cases e : numB b l with
      | none => rfl
      | some k => exact absurd ((hQ k).1 e).1 (hA k)
    exact (wnum_bad l hl b hA w h).mono fun e w' ⟨⟨n, h1⟩, h2⟩ => ⟨⟨n, by rw [hs]; exact h1, fun k hk => by rw [hs] at hk; cases hk⟩, h2⟩

end Go.Proofs.YtbojmcopagbheaaGreatDoor
end
