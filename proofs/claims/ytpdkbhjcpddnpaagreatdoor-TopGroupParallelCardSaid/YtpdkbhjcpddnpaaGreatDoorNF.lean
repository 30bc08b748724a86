/- Contract of the specification's Number: a number of at most seven digits, or none.
Contracts of the library's Itoa and Atoi at any string, and what they read of the library's own variables.
Contract: the program's number of a string, by Atoi and Itoa. -/
import Derived.Test.YtpdkbhjcpddnpaaGreatDoorNE
import Derived.Test.YtpdkbhjcpddnpaaGreatDoorNa2
import Derived.Laws.IdiomStrings
import Derived.LoopN
import Derived.Test.YtpdkbhjcpddnpaaGreatDoorShelf
import Derived.Lib.AtoiAllCases
import Derived.Lib.AppendIntMem

section
namespace Go.Proofs.YtpdkbhjcpddnpaaGreatDoor
open Go.RowKit

/-- The byte of a string at a place. -/
def byteL (l : List UInt8) (i : Nat) : Int := ((l.getD i 0).toNat : Int)
theorem bsize (l : List UInt8) : (⟨l.toArray⟩ : ByteArray).size = l.length := by simp [ByteArray.size]
theorem index_byteL (l : List UInt8) (k : Nat) (hk : k < l.length) (w : World) : (Instr.index 9 (.string ⟨l.toArray⟩) (.int .i64 (k : Int))).run Tryz.prog w = .ok (.int .u8 (byteL l k)) w := by
  rw [run_index_string w 9 ⟨l.toArray⟩ .i64 (k : Int) Tryz.underlying9, dif_pos ⟨by omega, by rw [bsize]; omega⟩]
  have e : ((k : Int)).toNat = k := by omega
  simp only [e, byteL]
  congr 3
  show (l.toArray[k]'(by simpa using hk)).toNat = (l.getD k 0).toNat
  rw [List.getD_eq_getElem?_getD, List.getElem?_eq_getElem hk]
  simp
theorem drop_byte {l : List UInt8} {k : Nat} (hk : k < l.length) : l.drop k = l.getD k 0 :: l.drop (k + 1) := by
  rw [List.drop_eq_getElem_cons hk, List.getD_eq_getElem?_getD, List.getElem?_eq_getElem hk]
  rfl
theorem byte_is {l : List UInt8} {k : Nat} {c : Nat} (hc : c < 256) : byteL l k = (c : Int) ↔ l.getD k 0 = UInt8.ofNat c := by
  unfold byteL
  constructor
  · intro h
    have h : (l.getD k 0).toNat = c := by omega
    rw [← h]
    exact (UInt8.ofNat_toNat).symm
  · intro h
    rw [h, UInt8.toNat_ofNat']
    omega
end Go.Proofs.YtpdkbhjcpddnpaaGreatDoor
end

section
namespace Go.Proofs.YtpdkbhjcpddnpaaGreatDoor
open Go.RowKit

/-- What the walks over strings read of the library's own variables. -/
structure StrIn (w : World) : Prop where
  tab : Lib.TabIs Tryz.prog w "internal/strconv.uint64pow10" .u64 Lib.pow10Tab
  max : ∃ m : Int, w.cell? ⟨3, 0, none⟩ = some (.int .i64 m)
  syn : ∃ ev, w.cell? ⟨4, 0, none⟩ = some ev ∧ (ev = .nilIface ∨ ∃ te pe, ev = .iface te pe)
  rng : ∃ ev, w.cell? ⟨5, 0, none⟩ = some ev ∧ (ev = .nilIface ∨ ∃ te pe, ev = .iface te pe)
theorem cellS_kept {w w' : World} (hb : Below w.heap.size w w') {a : Addr} {v : Value} (hc : w.cell? a = some v) : w'.cell? a = some v := (hb.cell (World.block_lt_of_cell? w a hc)).trans hc
theorem tab_kept {n : String} {k : IntKind} {zs : List Int} {w w' : World} (h : Lib.TabIs Tryz.prog w n k zs) (hb : Below w.heap.size w w') : Lib.TabIs Tryz.prog w' n k zs := by
  unfold Lib.TabIs World.var? at h ⊢
  cases hg : Tryz.prog.globalNamed n with
  | none => rw [hg] at h; cases h
  | some g =>
    rw [hg] at h
    simp only [Option.bind_some] at h ⊢
    have hlt : g < w.heap.size := by
      rcases Nat.lt_or_ge g w.heap.size with h' | h'
      · exact h'
      · rw [Array.getElem?_eq_none h'] at h; cases h
    rw [hb.block g hlt]
    exact h
theorem StrIn.kept {w w' : World} (h : StrIn w) (hb : Below w.heap.size w w') : StrIn w' :=
  ⟨tab_kept h.tab hb, h.max.imp fun _ q => cellS_kept hb q, h.syn.imp fun _ q => ⟨cellS_kept hb q.1, q.2⟩, h.rng.imp fun _ q => ⟨cellS_kept hb q.1, q.2⟩⟩

theorem itoa_wide (n : Int) (h0 : -9223372036854775808 ≤ n) (h1 : n ≤ 9223372036854775807) (w : World) (h : StrIn w) : Calls Tryz.prog 73 #[.int .i64 n] w fun e w' => e = .returned (.string ⟨(Lib.itoa n).toArray⟩) ∧ Below w.heap.size w w' :=
  (Tryz.strconv_Itoa n h0 h1 w h.tab).mono fun e w' ⟨h1, k, os, h2⟩ => ⟨h1, by rw [h2]; exact Go.Lib.below_grow _ w (Nat.le_refl _) k os⟩
theorem atoi_ok (l : List UInt8) (hl : l.length ≤ 1000) (n : Int) (hA : Lib.atoiAll l = .ok n) (w : World) : Calls Tryz.prog 115 #[.string ⟨l.toArray⟩] w fun e w' => e = .returned (.tuple #[.int .i64 n, .nilIface]) ∧ Below w.heap.size w w' := by
  have hsz : (⟨l.toArray⟩ : ByteArray).size = l.length := by rfl
  refine (Tryz.strconv_Atoi_ok ⟨l.toArray⟩ (by omega) n hA w).mono ?_
  rintro e w' ⟨rfl, hw⟩
  refine ⟨rfl, ?_⟩
  rcases hw with rfl | ⟨t, rfl⟩
  · exact pr
  · exact Lib.bytesWorld_below _ _ _
theorem atoi_bad (l : List UInt8) (hl : l.length ≤ 1000) (hA : ∀ k, Lib.atoiAll l ≠ .ok k) (w : World) (h : StrIn w) : Calls Tryz.prog 115 #[.string ⟨l.toArray⟩] w fun e w' => ∃ n t p, e = .returned (.tuple #[.int .i64 n, .iface t p]) ∧ Below w.heap.size w w' := by
  have hsz : (⟨l.toArray⟩ : ByteArray).size = l.length := by rfl
  by_cases hA2 : Lib.atoiAll l = .range
  · obtain ⟨ev, q1, q2⟩ := h.rng
    refine (Tryz.strconv_Atoi_range ⟨l.toArray⟩ (by omega) hA2 ev w q1 q2).mono ?_
    rintro e w' ⟨N, rfl, _, _, hb⟩
    exact ⟨_, _, _, rfl, hb⟩
  · obtain ⟨ev, q1, q2⟩ := h.syn
    refine (Tryz.strconv_Atoi_syntax ⟨l.toArray⟩ (by omega) hA hA2 ev w q1 q2).mono ?_
    rintro e w' ⟨N, rfl, _, _, hb⟩
    exact ⟨_, _, _, rfl, hb⟩

end Go.Proofs.YtpdkbhjcpddnpaaGreatDoor
end

section
namespace Go.Proofs.YtpdkbhjcpddnpaaGreatDoor
open Go.RowKit

attribute [local go_sem] ByteArray.toList_mk

set_option maxHeartbeats 4000000 in
set_option maxRecDepth 100000 in
theorem number_any (l : List UInt8) (hl : l.length ≤ 1000) (w : World) (h : StrIn w) : Calls Tryz.prog 70 #[.string ⟨l.toArray⟩] w fun e w' => (∃ x : Int, e = .returned (.tuple #[.int .i64 x, .bool (numP l).isSome]) ∧ ∀ k, numP l = some k → x = k) ∧ Below w.heap.size w w' := by
  have hbs := bsize l
  have hQ := fun k => numQ_iff (D := 4) (by decide) (l := l) (k := k)
  generalize hV : numP l = V
  have HV := Lib.hid hV
  clear hV
  have hnone : (∀ k, numP l ≠ some k) → V.isSome = false := fun q => by
    rw [← HV.out]
    cases e : numP l with
    | none => rfl
    | some k => exact absurd e (q k)
  by_cases hA : ∃ n, Lib.atoiAll l = .ok n
  · obtain ⟨n, hA⟩ := hA
    have hn0 := (Lib.atoiAll_bounds hA).1
    have hn1 := (Lib.atoiAll_bounds hA).2
    have HA := Lib.hid hA
    by_cases c0 : 0 ≤ n
    · by_cases c1 : Lib.itoa n = l
      · by_cases c2 : l.length ≤ 4
        · have HR := Lib.hid (show V = some n from by rw [← HV.out]; exact (hQ n).2 ⟨hA, c0, c1, c2⟩)
          have c2' : (l.length : Int) ≤ 4 := by omega
          have c1' : (Lib.itoa n == l) = true := by simpa using c1
          clear hA c1 hQ hnone
          go_enter Tryz.func70, Tryz.ntmps70
          go_wp2_with (first | (go_at_call 115; (with_reducible refine (atoi_ok l hl n HA.out _).mono ?_); rintro e w1 ⟨rfl, hB1⟩; have hS1 := h.kept hB1) | (go_at_call 73; (with_reducible refine (itoa_wide n hn0 hn1 _ hS1).mono ?_); rintro e w2 ⟨rfl, hB2⟩))
          go_ret2
          exact ⟨⟨n, by rw [HR.out]; rfl, fun k hk => by rw [HR.out] at hk; injection hk⟩, hB1.trans (hB2.mono hB1.size)⟩
        · have HR := Lib.hid (hnone fun k hk => c2 ((hQ k).1 hk).2.2.2)
          have c2' : (decide ((l.length : Int) ≤ 4)) = false := by simp; omega
          have c1' : (Lib.itoa n == l) = true := by simpa using c1
          clear hA c1 hQ hnone
          go_enter Tryz.func70, Tryz.ntmps70
          go_wp2_with (first | (go_at_call 115; (with_reducible refine (atoi_ok l hl n HA.out _).mono ?_); rintro e w1 ⟨rfl, hB1⟩; have hS1 := h.kept hB1) | (go_at_call 73; (with_reducible refine (itoa_wide n hn0 hn1 _ hS1).mono ?_); rintro e w2 ⟨rfl, hB2⟩))
          go_ret2
          exact ⟨⟨n, by rw [HR.out]; rfl, fun k hk => by have := HR.out; rw [hk] at this; cases this⟩, hB1.trans (hB2.mono hB1.size)⟩
      · have HR := Lib.hid (hnone fun k hk => by
          obtain ⟨q1, _, q3, _⟩ := (hQ k).1 hk
          rw [hA] at q1
          injection q1 with q1
          exact c1 (q1 ▸ q3))
        have c1' : (Lib.itoa n == l) = false := by simpa using c1
        clear hA c1 hQ hnone
        go_enter Tryz.func70, Tryz.ntmps70
        go_wp2_with (first | (go_at_call 115; (with_reducible refine (atoi_ok l hl n HA.out _).mono ?_); rintro e w1 ⟨rfl, hB1⟩; have hS1 := h.kept hB1) | (go_at_call 73; (with_reducible refine (itoa_wide n hn0 hn1 _ hS1).mono ?_); rintro e w2 ⟨rfl, hB2⟩))
        go_ret2
        exact ⟨⟨n, by rw [HR.out]; rfl, fun k hk => by have := HR.out; rw [hk] at this; cases this⟩, hB1.trans (hB2.mono hB1.size)⟩
    · have HR := Lib.hid (hnone fun k hk => by
        obtain ⟨q1, q2, _⟩ := (hQ k).1 hk
        rw [hA] at q1
        injection q1 with q1
        exact c0 (q1 ▸ q2))
      clear hA hQ hnone
      go_enter Tryz.func70, Tryz.ntmps70
      go_wp2_with (go_at_call 115; (with_reducible refine (atoi_ok l hl n HA.out _).mono ?_); rintro e w1 ⟨rfl, hB1⟩; have hS1 := h.kept hB1)
      go_ret2
      exact ⟨⟨n, by rw [HR.out]; rfl, fun k hk => by have := HR.out; rw [hk] at this; cases this⟩, hB1⟩
  · have hA := not_exists.1 hA
    have HR := Lib.hid (hnone fun k hk => hA k ((hQ k).1 hk).1)
    have HA := Lib.hid hA
    clear hA hQ hnone
    go_enter Tryz.func70, Tryz.ntmps70
    go_wp2_with (go_at_call 115; (with_reducible refine (atoi_bad l hl HA.out _ h).mono ?_); rintro e w1 ⟨n, t, p, rfl, hB1⟩)
    go_ret2
    exact ⟨⟨n, by rw [HR.out]; rfl, fun k hk => by have := HR.out; rw [hk] at this; cases this⟩, hB1⟩

end Go.Proofs.YtpdkbhjcpddnpaaGreatDoor
end
