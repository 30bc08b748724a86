/- Words on rows of any kind, and contracts: a string's place in a slice, whether a slice has a string. No condition but on lengths.
Contract: whether a string is a name. Strings of at most 1000 bytes.
Contracts: the error of a lot alone; whether a lot is accepted. Names of at most 1000 bytes, at most 1000 of them.
Contract: whether a lot is accepted. No condition.
Words on maps: a map from strings to bools that is used as a set; a map from strings to such maps; the laws for them at the operations. -/
import Derived.Test.YtlgioldmjohhlaaM3
import Derived.Lib.SlicesS
import Derived.Lib.Strings
import Derived.Lib.Walk
import Derived.Laws.IdiomStrings
import Derived.Test.YtlgioldmjohhlaaM1
import Derived.Deep.RegionHeld3
import Derived.Maps.OwnSet
import Derived.Maps.RangeWalk
import Derived.Maps.Ext
import Derived.Sort.MapsRangeIn

section
namespace Go.Proofs.Ytlgioldmjohhlaa
open Go.RowKit

/-- The first place from k on at which p holds, or -1. -/
def findG {α : Type} (p : α → Bool) (xs : List α) (k : Nat) : Int :=
  match (xs.drop k).findIdx? p with
  | some i => ((k + i : Nat) : Int)
  | none => -1
def anyG {α : Type} (p : α → Bool) (xs : List α) : Bool := xs.any p

theorem findG_step {α : Type} (p : α → Bool) (xs : List α) (k : Nat) (d : α) (h : k < xs.length) : findG p xs k = if p (xs.getD k d) = true then (k : Int) else findG p xs (k + 1) := by
  unfold findG
  rw [List.drop_eq_getElem_cons h, List.findIdx?_cons]
  have e : xs.getD k d = xs[k] := by simp [List.getD, h]
  rw [e]
  by_cases hx : p xs[k] = true
  · simp [hx]
  · simp only [hx]
    cases (List.drop (k + 1) xs).findIdx? p with
    | none => rfl
    | some i => simp; omega
theorem findG_end {α : Type} (p : α → Bool) (xs : List α) (k : Nat) (h : xs.length ≤ k) : findG p xs k = -1 := by
  unfold findG
  rw [List.drop_eq_nil_of_le h]
  rfl
theorem findG_any {α : Type} (p : α → Bool) (xs : List α) : decide (0 ≤ findG p xs 0) = anyG p xs := by
  unfold findG anyG
  simp only [List.drop_zero]
  cases h : xs.findIdx? p with
  | none =>
    have h2 := List.findIdx?_eq_none_iff.1 h
    have h3 : xs.any p = false := by rw [List.any_eq_false]; intro x hx; simp [h2 x hx]
    simp [h3]
  | some i =>
    obtain ⟨h1, h2, _⟩ := List.findIdx?_eq_some_iff_getElem.1 h
    have h3 : xs.any p = true := by rw [List.any_eq_true]; exact ⟨xs[i], List.getElem_mem h1, h2⟩
    simp [h3]

/-- A slice at A reads as the row xs, one cell each; its cells lie below block B. -/
def RowIn {α : Type} [Inhabited α] (enc : α → Value) (B : Nat) (w : World) (A : Option Addr) (xs : List α) : Prop :=
  xs = [] ∨ ∃ b off, A = some ⟨b, off, none⟩ ∧ b < B ∧ ∀ j, j < xs.length → w.cell? ⟨b, off + j, none⟩ = some (enc (xs.getD j default))

section
variable {α : Type} [Inhabited α] {enc : α → Value} {w w' : World} {B B' : Nat} {A : Option Addr} {xs : List α}
theorem RowIn.nil : RowIn enc B w A [] := .inl rfl
theorem RowIn.at_ {k : Nat} (h : RowIn enc B w A xs) (hk : k < xs.length) : ∃ b off, A = some ⟨b, off, none⟩ ∧ b < B ∧ ∀ j, j < xs.length → w.cell? ⟨b, off + j, none⟩ = some (enc (xs.getD j default)) := by
  rcases h with h | h
  · subst h; simp at hk
  · exact h
theorem RowIn.keep (h : RowIn enc B w A xs) (hk : ∀ b o, b < B → w'.cell? ⟨b, o, none⟩ = w.cell? ⟨b, o, none⟩) : RowIn enc B w' A xs := by
  rcases h with h | ⟨b, off, hA, hb, hc⟩
  · exact .inl h
  · exact .inr ⟨b, off, hA, hb, fun j hj => (hk _ _ hb).trans (hc j hj)⟩
theorem RowIn.below (h : RowIn enc B w A xs) (hb : Below B w w') : RowIn enc B w' A xs := h.keep (bcell hb).1
theorem RowIn.more (h : RowIn enc B w A xs) (hB : B ≤ B') : RowIn enc B' w A xs := by
  rcases h with h | ⟨b, off, hA, hb, hc⟩
  · exact .inl h
  · exact .inr ⟨b, off, hA, by omega, hc⟩
theorem RowIn.take (h : RowIn enc B w A xs) (k : Nat) : RowIn enc B w A (xs.take k) := by
  rcases h with h | ⟨b, off, hA, hb, hc⟩
  · exact .inl (by rw [h]; simp)
  · refine .inr ⟨b, off, hA, hb, fun j hj => ?_⟩
    simp only [List.length_take] at hj
    rw [hc j (by omega)]
    simp [List.getD, show j < k by omega]
theorem RowIn.past (h : RowIn enc B w A xs) (hB : B ≤ w.heap.size) (hb : Below w.heap.size w w') : RowIn enc w'.heap.size w' A xs := ((h.more hB).below hb).more hb.size
end

/-- Whether two strings are one. -/
def sameS (x y : ByteArray) : Bool := x.data.toList == y.data.toList
theorem sameS_iff {x y : ByteArray} : sameS x y = true ↔ x = y := by
  unfold sameS
  rw [beq_iff_eq]
  constructor
  · intro h
    cases x with | mk x => cases y with | mk y =>
      cases x with | mk x => cases y with | mk y =>
        simp only at h
        rw [h]
  · rintro rfl; rfl
theorem sameS_list (x y : ByteArray) : sameS x y = (x.toList == y.toList) := by
  rw [Bool.eq_iff_iff, sameS_iff, Lib.bytes_beq_iff]
theorem sameS_self (x : ByteArray) : sameS x x = true := sameS_iff.2 rfl
theorem sameS_comm (x y : ByteArray) : sameS x y = sameS y x := by
  rw [Bool.eq_iff_iff, sameS_iff, sameS_iff]
  exact eq_comm

set_option maxHeartbeats 400000 in
theorem indexS_any (B : Nat) (A : Option Addr) (n c : Nat) (xs : List ByteArray) (x : ByteArray) (w : World) (hr : RowIn Value.string B w A xs) (hn : xs.length = n) (hm : n ≤ 1000) :
    Calls Try.prog 150 #[.slice A n c, .string x] w fun e w' => e = .returned (.int .i64 (findG (sameS x) xs 0)) ∧ w = w' := by
  subst hn
  go_enter Try.func150, Try.ntmps150
  go_wp2
  go_loop [8] (fun i => ∃ k : Nat, k ≤ xs.length ∧ i = .int .i64 k ∧ findG (sameS x) xs 0 = findG (sameS x) xs k) (fun i => xs.length - (intOf i).toNat)
  case atStart => exact ⟨0, Nat.zero_le _, rfl, rfl⟩
  case round =>
    obtain ⟨k, hk, rfl, hf⟩ := hrel
    by_cases hlt : k < xs.length
    · obtain ⟨b, off, rfl, hb, hc⟩ := hr.at_ hlt
      have hcell := hc k hlt
      have HF := Lib.hid (hf.trans (findG_step (sameS x) xs k default hlt))
      clear hc hf hr
      generalize xs.getD k default = y at *
      have hs : sameS x y = (x.toList == y.toList) := sameS_list x y
      cases hxy : sameS x y with
      | true =>
        have HX := Lib.hid hxy
        have hb : (x.toList == y.toList) = true := by rw [← hs]; exact hxy
        clear hs hxy
        go_wp2
        go_ret
        exact ⟨ret_int (by rw [HF.out, HX.out]; simp), rfl⟩
      | false =>
        have HX := Lib.hid hxy
        have hb : (x.toList == y.toList) = false := by rw [← hs]; exact hxy
        clear hs hxy
        go_wp2
        go_round
        case rel => exact ⟨k + 1, by omega, by go_num, by rw [HF.out, HX.out]; simp⟩
        case measure => simp [intOf]; omega
    · have HF := Lib.hid (show findG (sameS x) xs 0 = -1 by rw [hf]; exact findG_end _ _ _ (by omega))
      clear hf
      go_wp2
      go_ret
      exact ⟨ret_int HF.out.symm, rfl⟩

theorem containsS_any (B : Nat) (A : Option Addr) (n c : Nat) (xs : List ByteArray) (x : ByteArray) (w : World) (hr : RowIn Value.string B w A xs) (hn : xs.length = n) (hm : n ≤ 1000) :
    Calls Try.prog 139 #[.slice A n c, .string x] w fun e w' => e = .returned (.bool (anyG (sameS x) xs)) ∧ w = w' := by
  have H := Lib.hid (findG_any (sameS x) xs)
  have HI := Lib.hid (indexS_any B A n c xs x w hr hn hm)
  clear hr hn
  go_enter Try.func139, Try.ntmps139
  go_wp2_with (go_at_call 150; refine HI.out.mono ?_; rintro e w' ⟨rfl, rfl⟩)
  go_ret
  exact ⟨ret_bool H.out, rfl⟩

end Go.Proofs.Ytlgioldmjohhlaa
end

section
namespace Go.Proofs.Ytlgioldmjohhlaa
open Go.RowKit

def byteAt (s : ByteArray) (i : Nat) : Int := ((s.data.getD i 0).toNat : Int)
def letterB (c : Int) : Bool := (decide (97 ≤ c) && decide (c ≤ 122)) || (decide (65 ≤ c) && decide (c ≤ 90))
def charB (i : Nat) (c : Int) : Bool := letterB c || (!(i == 0) && (c == 45 || withinB c 48 57))
def charsB (s : ByteArray) (k : Nat) : Bool := (List.range k).all fun i => charB i (byteAt s i)
def nameB (s : ByteArray) : Bool := charsB s s.size && withinB s.size 1 12

theorem charsB_succ (s : ByteArray) (k : Nat) : charsB s (k + 1) = (charsB s k && charB k (byteAt s k)) := by
  unfold charsB
  rw [List.range_succ, List.all_append]
  simp
theorem charsB_false {s : ByteArray} {k : Nat} (h : charsB s k = false) : ∀ n, k ≤ n → charsB s n = false := by
  intro n hn
  obtain ⟨m, rfl⟩ : ∃ m, n = k + m := ⟨n - k, by omega⟩
  clear hn
  induction m with
  | zero => exact h
  | succ m ih => rw [← Nat.add_assoc, charsB_succ, ih]; rfl
theorem byteAt_bd (s : ByteArray) (i : Nat) : 0 ≤ byteAt s i ∧ byteAt s i ≤ 255 := by
  unfold byteAt
  have := (s.data.getD i 0).toNat_lt
  omega

/-- The cases of a byte: what decides whether it may stand at place k. -/
theorem char_cases (k : Nat) (c : Int) (h0 : 0 ≤ c) (h1 : c ≤ 255) :
    (charB k c = true ∧ ((97 ≤ c ∧ c ≤ 122) ∨ (65 ≤ c ∧ c ≤ 90))) ∨
    (charB k c = true ∧ 1 ≤ k ∧ ((c = 45) ∨ (48 ≤ c ∧ c ≤ 57))) ∨
    (charB k c = false ∧ k = 0 ∧ ((c ≤ 64) ∨ (91 ≤ c ∧ c ≤ 96) ∨ 123 ≤ c)) ∨
    (charB k c = false ∧ 1 ≤ k ∧ ((c ≤ 44) ∨ (46 ≤ c ∧ c ≤ 47) ∨ (58 ≤ c ∧ c ≤ 64) ∨ (91 ≤ c ∧ c ≤ 96) ∨ 123 ≤ c)) := by
  have e : charB k c = true ↔ ((97 ≤ c ∧ c ≤ 122) ∨ (65 ≤ c ∧ c ≤ 90)) ∨ (k ≠ 0 ∧ (c = 45 ∨ (48 ≤ c ∧ c ≤ 57))) := by
    simp [charB, letterB, withinB]
  cases h : charB k c with
  | true =>
    rcases e.1 h with e | ⟨hk, e⟩
    · exact .inl ⟨rfl, e⟩
    · exact .inr (.inl ⟨rfl, by omega, e⟩)
  | false =>
    have e2 : ¬(((97 ≤ c ∧ c ≤ 122) ∨ (65 ≤ c ∧ c ≤ 90)) ∨ (k ≠ 0 ∧ (c = 45 ∨ (48 ≤ c ∧ c ≤ 57)))) := fun hh => by
      rw [e.2 hh] at h; cases h
    by_cases hk : k = 0
    · exact .inr (.inr (.inl ⟨rfl, hk, by omega⟩))
    · exact .inr (.inr (.inr ⟨rfl, by omega, by omega⟩))

set_option maxHeartbeats 1000000 in
set_option maxRecDepth 100000 in
theorem isName_any (s : ByteArray) (w : World) (hs : s.size ≤ 1000) :
    Calls Try.prog 138 #[.string s] w fun e w' => e = .returned (.bool (nameB s)) ∧ Below w.heap.size w w' := by
  have hconv := fun w => run_bytes_of_string (P := Try.prog) w 9 169 5 s Try.underlying9 Try.underlying169 Try.underlying5
  obtain ⟨C, cap, fr, hC, hCe⟩ : ∃ (C : Array Value) (cap : Nat) (fr : Nat × Nat), (∀ j, j < s.size → C[j]? = some (.int .u8 (byteAt s j))) ∧ (convert 9 169 (.string s)).run Try.prog w = .ok (.slice (some ⟨w.heap.size, 0, none⟩) s.size cap) (w.alloc (.cells C 5 fr)).drew := by
    refine ⟨_, _, _, fun j hj => ?_, hconv w⟩
    rw [bytesRow_at s _ j hj]
    simp [byteAt, Array.getD, hj]
  have hcell : ∀ j, j < s.size → (w.alloc (.cells C 5 fr)).cell? ⟨w.heap.size, j, none⟩ = some (.int .u8 (byteAt s j)) := fun j hj => (World.cell?_alloc_mark w C 5 fr j).trans (hC j hj)
  have HCell := Lib.hid hcell
  have hb : Below w.heap.size w (w.alloc (.cells C 5 fr)).drew := pd (pa pr)
  have HB := Lib.hid hb
  clear hconv hC hcell hb
  go_enter Try.func138, Try.ntmps138
  go_wp2
  go_loop [9] (fun i => ∃ k : Nat, k ≤ s.size ∧ i = .int .i64 k ∧ charsB s k = true) (fun i => s.size - (intOf i).toNat)
  case atStart => exact ⟨0, Nat.zero_le _, rfl, rfl⟩
  case round =>
    obtain ⟨k, hk, rfl, hf⟩ := hrel
    have HF := Lib.hid hf
    clear hf
    by_cases hlt : k < s.size
    · have hcell := HCell.out k hlt
      have hbd := byteAt_bd s k
      have hcase := char_cases k (byteAt s k) hbd.1 hbd.2
      have HS := Lib.hid (charsB_succ s k)
      generalize byteAt s k = c at *
      obtain ⟨hb0, hb1⟩ := hbd
      have h48 : withinB c 48 57 = (decide (48 ≤ c) && decide (c ≤ 57)) := rfl
      rcases hcase with ⟨hc, hcs⟩ | ⟨hc, hk1, hcs⟩ | ⟨hc, hk1, hcs⟩ | ⟨hc, hk1, hcs⟩
      · have HS2 := Lib.hid (show charsB s (k + 1) = true by rw [HS.out, HF.out, hc]; rfl)
        clear hc h48
        rcases hcs with ⟨h2, h3⟩ | ⟨h2, h3⟩
        all_goals
          go_wp2
          go_round
          case rel => exact ⟨k + 1, by omega, by go_num, HS2.out⟩
          case measure => simp [intOf]; omega
      · have HS2 := Lib.hid (show charsB s (k + 1) = true by rw [HS.out, HF.out, hc]; rfl)
        have hk0 : ((k : Int) == 0) = false := by simp; omega
        clear hc
        rcases hcs with rfl | ⟨h2, h3⟩
        · clear h48
          go_wp2
          go_round
          case rel => exact ⟨k + 1, by omega, by go_num, HS2.out⟩
          case measure => simp [intOf]; omega
        · have hne : (c != 45) = true := by rw [bne_iff_ne]; omega
          have h48' : withinB c 48 57 = true := by rw [h48]; simp; omega
          clear h48
          go_wp2_with (go_at_call 88; refine (within_any _ _ _ _).mono ?_; rintro e w' ⟨rfl, rfl⟩)
          go_round
          case rel => exact ⟨k + 1, by omega, by go_num, HS2.out⟩
          case measure => simp [intOf]; omega
      · have hres : nameB s = false := by
          unfold nameB
          rw [charsB_false (k := k + 1) (by rw [HS.out, HF.out, hc]; rfl) s.size hlt]
          rfl
        have HR := Lib.hid hres
        have hk0 : ((k : Int) == 0) = true := by simp [hk1]
        clear hc hres h48 hk1
        rcases hcs with h2 | ⟨h2, h3⟩ | h2
        all_goals
          try have g1 : decide (c ≤ 90) = false := decide_eq_false (by omega)
          try have g2 : decide (c ≤ 122) = false := decide_eq_false (by omega)
          go_wp2
          go_ret
          exact ⟨ret_bool HR.out.symm, HB.out⟩
      · have hres : nameB s = false := by
          unfold nameB
          rw [charsB_false (k := k + 1) (by rw [HS.out, HF.out, hc]; rfl) s.size hlt]
          rfl
        have HR := Lib.hid hres
        have hk0 : ((k : Int) == 0) = false := by simp; omega
        have hne : (c != 45) = true := by rw [bne_iff_ne]; omega
        have h48' : withinB c 48 57 = false := by rw [h48]; simp; omega
        clear hc hres h48
        rcases hcs with h2 | ⟨h2, h3⟩ | ⟨h2, h3⟩ | ⟨h2, h3⟩ | h2
        all_goals
          try have g1 : decide (c ≤ 90) = false := decide_eq_false (by omega)
          try have g2 : decide (c ≤ 122) = false := decide_eq_false (by omega)
          go_wp2_with (go_at_call 88; refine (within_any _ _ _ _).mono ?_; rintro e w' ⟨rfl, rfl⟩)
          go_ret
          exact ⟨ret_bool HR.out.symm, HB.out⟩
    · have hke : k = s.size := by omega
      subst hke
      have HR := Lib.hid (show nameB s = withinB s.size 1 12 by unfold nameB; rw [HF.out]; rfl)
      go_wp2_with (go_at_call 88; refine (within_any _ _ _ _).mono ?_; rintro e w' ⟨rfl, rfl⟩)
      go_ret
      exact ⟨ret_bool HR.out.symm, HB.out⟩

end Go.Proofs.Ytlgioldmjohhlaa
end

section
namespace Go.Proofs.Ytlgioldmjohhlaa
open Go.RowKit

structure Lot where
  name : ByteArray
  made : List ByteArray
  mlo : Int
  mhi : Int
  llo : Int
  lhi : Int

instance : Inhabited Lot := ⟨⟨default, [], 0, 0, 0, 0⟩⟩

/-- A lot's strings are short. -/
def SmallLot (x : Lot) : Prop := x.name.size ≤ 1000 ∧ x.made.length ≤ 1000 ∧ ∀ j, (x.made.getD j default).size ≤ 1000

def lotE1 (x : Lot) : Int := firstV [unlessV (nameB x.name) 4, unlessV (decide ((x.made.length : Int) ≤ 6)) 8]
def madeErr (xs : List ByteArray) (i : Nat) : Int := firstV [unlessV (nameB (xs.getD i default)) 4, unlessV (!anyG (sameS (xs.getD i default)) (xs.take i)) 23]
def lotE3 (x : Lot) : Int := firstV [rangeErrV valueB x.mlo x.mhi, rangeErrV valueB x.llo x.lhi]
def lotE (x : Lot) : Int := if lotE1 x ≠ 0 then lotE1 x else if (scan (madeErr x.made) x.made.length 0).2 ≠ 0 then (scan (madeErr x.made) x.made.length 0).2 else lotE3 x

set_option maxHeartbeats 1000000 in
set_option maxRecDepth 100000 in
theorem lotErr_any (B : Nat) (x : Lot) (A : Option Addr) (n c : Nat) (w : World) (hn : x.made.length = n) (hr : RowIn Value.string B w A x.made) (hB : B ≤ w.heap.size) (hs : SmallLot x) (hcap : n ≤ c) :
    Calls Try.prog 102 #[.agg #[.string x.name, .slice A n c, .int .i64 x.mlo, .int .i64 x.mhi, .int .i64 x.llo, .int .i64 x.lhi]] w fun e w' => e = .returned (.int .i64 (lotE x)) ∧ Below w.heap.size w w' := by
  obtain ⟨nm, xs, mlo, mhi, llo, lhi⟩ := x
  obtain ⟨hs1, hs2, hs3⟩ := hs
  dsimp only at *
  have HT := Lib.hid (show lotE ⟨nm, xs, mlo, mhi, llo, lhi⟩ = if lotE1 ⟨nm, xs, mlo, mhi, llo, lhi⟩ ≠ 0 then lotE1 ⟨nm, xs, mlo, mhi, llo, lhi⟩ else if (scan (madeErr xs) xs.length 0).2 ≠ 0 then (scan (madeErr xs) xs.length 0).2 else lotE3 ⟨nm, xs, mlo, mhi, llo, lhi⟩ from rfl)
  have HV1 := Lib.hid (show firstV [unlessV (nameB nm) 4, unlessV (decide ((n : Int) ≤ 6)) 8] = lotE1 ⟨nm, xs, mlo, mhi, llo, lhi⟩ by rw [← hn]; rfl)
  have HV3 := Lib.hid (show firstV [rangeErrV valueB mlo mhi, rangeErrV valueB llo lhi] = lotE3 ⟨nm, xs, mlo, mhi, llo, lhi⟩ from rfl)
  have hn2 : n ≤ 1000 := by omega
  have HN := Lib.hid hn
  have HR := Lib.hid hr
  have HS3 := Lib.hid hs3
  clear hn hr hs3
  generalize lotE ⟨nm, xs, mlo, mhi, llo, lhi⟩ = E at *
  generalize lotE1 ⟨nm, xs, mlo, mhi, llo, lhi⟩ = E1 at *
  generalize lotE3 ⟨nm, xs, mlo, mhi, llo, lhi⟩ = E3 at *
  by_cases hE : E1 = 0
  · subst hE
    have HTE := Lib.hid (show E = if (scan (madeErr xs) xs.length 0).2 ≠ 0 then (scan (madeErr xs) xs.length 0).2 else E3 by rw [HT.out, if_neg (by simp)])
    clear HT
    go_enter Try.func102, Try.ntmps102
    go_wp2
    refine region_below 9 follows_mixed (by kernel_rfl) ?_
    intro C hC
    simp only [List.take_succ_cons, List.take_zero, List.drop_succ_cons, List.drop_zero]
    repeat (first
      | ((with_reducible refine quiet_plain rfl (fun K hK => ?_)); (focus (apply quiet_val; (focus (intro w' hw; obtain ⟨hcq, hfq⟩ := bcell ((hC.out _).1 hw); go_simp; (first | done | rfl | (with_reducible exact call_below hC hw (isName_any _ _ hs1)) | (with_reducible exact call_same hw (unless_any _ _ _))))); (simp only [Act.put, List.setIfInBounds_toArray, List.set_cons_succ, List.set_cons_zero]); (with_reducible refine hK _ ?_); clear hK K)))
      | ((with_reducible refine quiet_skip ?_ ?_); (focus (simp [Region.wanted, yielded]; done)); simp only [Act.put, List.setIfInBounds_toArray, List.set_cons_succ, List.set_cons_zero])
      | ((with_reducible refine quiet_go ?_ (fun K hK => ?_)); (focus (simp [Region.wanted, yielded]; done)); (focus (apply quiet_val; (focus (intro w' hw; obtain ⟨hcq, hfq⟩ := bcell ((hC.out _).1 hw); go_simp; (first | done | rfl | (with_reducible exact call_below hC hw (isName_any _ _ hs1)) | (with_reducible exact call_same hw (unless_any _ _ _))))); (simp only [Act.put, List.setIfInBounds_toArray, List.set_cons_succ, List.set_cons_zero]); (with_reducible refine hK _ ?_); clear hK K))))
    refine wpQuiet_nil ?_
    intro w1 hb1
    replace hb1 := (hC.out _).1 hb1
    clear hC C
    obtain ⟨hc1, hf1⟩ := bcell hb1
    have r0 : Blk w1 w.heap.size 61 #[.string nm, .slice A n c, .int .i64 mlo, .int .i64 mhi, .int .i64 llo, .int .i64 lhi] := (Blk.newAt rfl).past hb1
    have c1 := r0.cellAt 1 rfl
    have z0 := r0.lt
    clear hc1 hf1
    go_wp2_with (go_at_call 86; refine (first2' _ _ _ _ _ (by first | (go_simp; done) | (go_simp; rfl)) (by first | (go_simp; done) | (go_simp; rfl)) _ HV1.out).mono ?_; rintro e w' ⟨rfl, rfl⟩)
    have hb2 : Below w.heap.size w (w1.alloc (.cells #[.int .i64 (unlessV (nameB nm) 4), .int .i64 (unlessV (decide ((n : Int) ≤ 6)) 8)] 29)) := pa (pt (pa pr) hb1)
    go_loopw [25] (fun i wr => ∃ k : Nat, k ≤ n ∧ i = .int .i64 (k : Int) ∧ scan (madeErr xs) xs.length 0 = scan (madeErr xs) xs.length k ∧ Blk wr w.heap.size 61 #[.string nm, .slice A n c, .int .i64 mlo, .int .i64 mhi, .int .i64 llo, .int .i64 lhi] ∧ Below w.heap.size w wr) (fun i _ => n - (intOf i).toNat)
    case atStart => exact ⟨0, Nat.zero_le _, rfl, rfl, r0.alloc, hb2⟩
    case round =>
      obtain ⟨k, hk, rfl, hf, q0, hq⟩ := hrel
      clear r0 c1 z0 hb1 hb2
      have c1 := q0.cellAt 1 rfl
      have z0 := q0.lt
      by_cases hlt : k < n
      · obtain ⟨b, off, hA, hbB, hcell⟩ := (HR.out.below (hq.mono hB)).at_ (k := k) (by rw [HN.out]; exact hlt)
        subst hA
        have hbw := Nat.lt_of_lt_of_le hbB (Nat.le_trans hB hq.size)
        have d0 := hcell k (by rw [HN.out]; exact hlt)
        have HF := Lib.hid (hf.trans (scan_step (by rw [HN.out]; exact hlt)))
        have HE := Lib.hid (show firstV [unlessV (nameB (xs.getD k default)) 4, unlessV (!anyG (sameS (xs.getD k default)) (xs.take k)) 23] = madeErr xs k from rfl)
        have hsz := HS3.out k
        have HR1 := Lib.hid ((HR.out.below (hq.mono hB)))
        have hBq : B ≤ wr.heap.size := Nat.le_trans hB hq.size
        have HTk := Lib.hid (show (xs.take k).length = k by have := HN.out; simp; omega)
        have i0 : (0 : Int) ≤ (k : Int) := by omega
        have i1 : (k : Int) ≤ (c : Int) := by omega
        have hk1000 : k ≤ 1000 := by omega
        clear hcell hf
        generalize xs.getD k default = y at *
        go_wp2
        refine region_below 11 follows_mixed (by kernel_rfl) ?_
        intro C hC
        simp only [List.take_succ_cons, List.take_zero, List.drop_succ_cons, List.drop_zero]
        repeat (first
          | ((with_reducible refine quiet_plain rfl (fun K hK => ?_)); (focus (apply quiet_val; (focus (intro w' hw; obtain ⟨hcq, hfq⟩ := bcell ((hC.out _).1 hw); go_simp; (first | done | rfl | (with_reducible exact call_below hC hw (isName_any _ _ hsz)) | (with_reducible exact call_same hw (unless_any _ _ _)) | (with_reducible exact call_same hw (containsS_any B _ k c (xs.take k) _ _ ((HR1.out.below (((hC.out _).1 hw).mono hBq)).take k) HTk.out hk1000))))); (simp only [Act.put, List.setIfInBounds_toArray, List.set_cons_succ, List.set_cons_zero]); (with_reducible refine hK _ ?_); clear hK K)))
          | ((with_reducible refine quiet_skip ?_ ?_); (focus (simp [Region.wanted, yielded]; done)); simp only [Act.put, List.setIfInBounds_toArray, List.set_cons_succ, List.set_cons_zero])
          | ((with_reducible refine quiet_go ?_ (fun K hK => ?_)); (focus (simp [Region.wanted, yielded]; done)); (focus (apply quiet_val; (focus (intro w' hw; obtain ⟨hcq, hfq⟩ := bcell ((hC.out _).1 hw); go_simp; (first | done | rfl | (with_reducible exact call_below hC hw (isName_any _ _ hsz)) | (with_reducible exact call_same hw (unless_any _ _ _)) | (with_reducible exact call_same hw (containsS_any B _ k c (xs.take k) _ _ ((HR1.out.below (((hC.out _).1 hw).mono hBq)).take k) HTk.out hk1000))))); (simp only [Act.put, List.setIfInBounds_toArray, List.set_cons_succ, List.set_cons_zero]); (with_reducible refine hK _ ?_); clear hK K))))
        refine wpQuiet_nil ?_
        intro w1 hb1
        replace hb1 := (hC.out _).1 hb1
        clear hC C
        obtain ⟨hc1, hf1⟩ := bcell hb1
        have q1 := q0.past hb1
        clear hc1 hf1 c1
        by_cases hz : madeErr xs k = 0
        · have HZ := Lib.hid hz
          have HG := Lib.hid (show scan (madeErr xs) xs.length 0 = scan (madeErr xs) xs.length (k + 1) by rw [HF.out, if_pos hz])
          clear hz
          go_wp2_with (go_at_call 86; refine (first2' _ _ _ _ _ (by first | (go_simp; done) | (go_simp; rfl)) (by first | (go_simp; done) | (go_simp; rfl)) _ (HE.out.trans HZ.out)).mono ?_; rintro e w' ⟨rfl, rfl⟩)
          go_roundw
          case rel => exact ⟨k + 1, by omega, by go_num, HG.out, q1.alloc, pa (pt hq hb1)⟩
          case measure => simp [intOf]; omega
        · have hz1 : (madeErr xs k == 0) = false := by simpa using hz
          have HG := Lib.hid (show E = madeErr xs k by
            have e : scan (madeErr xs) xs.length 0 = (k, madeErr xs k) := by rw [HF.out, if_neg hz]
            rw [HTE.out, e, if_pos hz])
          clear hz
          go_wp2_with (go_at_call 86; refine (first2' _ _ _ _ _ (by first | (go_simp; done) | (go_simp; rfl)) (by first | (go_simp; done) | (go_simp; rfl)) _ HE.out).mono ?_; rintro e w' ⟨rfl, rfl⟩)
          go_ret
          exact ⟨ret_int HG.out.symm, pa (pt hq hb1)⟩
      · have HF := Lib.hid (show E = E3 by
          have e : scan (madeErr xs) xs.length 0 = (0, 0) := by rw [hf]; exact scan_end (by have := HN.out; omega)
          rw [HTE.out, e, if_neg (by simp)])
        have c2 := q0.cellAt 2 rfl
        have c3 := q0.cellAt 3 rfl
        have c4 := q0.cellAt 4 rfl
        have c5 := q0.cellAt 5 rfl
        clear hf
        go_wp2
        refine region_below 8 follows_mixed (by kernel_rfl) ?_
        intro C hC
        simp only [List.take_succ_cons, List.take_zero, List.drop_succ_cons, List.drop_zero]
        repeat (first
          | ((with_reducible refine quiet_plain rfl (fun K hK => ?_)); (focus (apply quiet_val; (focus (intro w' hw; obtain ⟨hcq, hfq⟩ := bcell ((hC.out _).1 hw); go_simp; (first | done | rfl | (with_reducible exact call_below hC hw (rangeErr_value _ _ _))))); (simp only [Act.put, List.setIfInBounds_toArray, List.set_cons_succ, List.set_cons_zero]); (with_reducible refine hK _ ?_); clear hK K)))
          | ((with_reducible refine quiet_skip ?_ ?_); (focus (simp [Region.wanted, yielded]; done)); simp only [Act.put, List.setIfInBounds_toArray, List.set_cons_succ, List.set_cons_zero])
          | ((with_reducible refine quiet_go ?_ (fun K hK => ?_)); (focus (simp [Region.wanted, yielded]; done)); (focus (apply quiet_val; (focus (intro w' hw; obtain ⟨hcq, hfq⟩ := bcell ((hC.out _).1 hw); go_simp; (first | done | rfl | (with_reducible exact call_below hC hw (rangeErr_value _ _ _))))); (simp only [Act.put, List.setIfInBounds_toArray, List.set_cons_succ, List.set_cons_zero]); (with_reducible refine hK _ ?_); clear hK K))))
        refine wpQuiet_nil ?_
        intro w1 hb1
        replace hb1 := (hC.out _).1 hb1
        clear hC C
        obtain ⟨hc1, hf1⟩ := bcell hb1
        clear hc1 hf1 c1 c2 c3 c4 c5
        go_wp2_with (go_at_call 86; refine (first2' _ _ _ _ _ (by first | (go_simp; done) | (go_simp; rfl)) (by first | (go_simp; done) | (go_simp; rfl)) _ HV3.out).mono ?_; rintro e w' ⟨rfl, rfl⟩)
        go_ret
        exact ⟨ret_int HF.out.symm, pa (pt hq hb1)⟩
  · have hE1 : (E1 == 0) = false := by simpa using hE
    have HTE := Lib.hid (show E = E1 by rw [HT.out, if_pos hE])
    clear HT hE
    go_enter Try.func102, Try.ntmps102
    go_wp2
    refine region_below 9 follows_mixed (by kernel_rfl) ?_
    intro C hC
    simp only [List.take_succ_cons, List.take_zero, List.drop_succ_cons, List.drop_zero]
    repeat (first
      | ((with_reducible refine quiet_plain rfl (fun K hK => ?_)); (focus (apply quiet_val; (focus (intro w' hw; obtain ⟨hcq, hfq⟩ := bcell ((hC.out _).1 hw); go_simp; (first | done | rfl | (with_reducible exact call_below hC hw (isName_any _ _ hs1)) | (with_reducible exact call_same hw (unless_any _ _ _))))); (simp only [Act.put, List.setIfInBounds_toArray, List.set_cons_succ, List.set_cons_zero]); (with_reducible refine hK _ ?_); clear hK K)))
      | ((with_reducible refine quiet_skip ?_ ?_); (focus (simp [Region.wanted, yielded]; done)); simp only [Act.put, List.setIfInBounds_toArray, List.set_cons_succ, List.set_cons_zero])
      | ((with_reducible refine quiet_go ?_ (fun K hK => ?_)); (focus (simp [Region.wanted, yielded]; done)); (focus (apply quiet_val; (focus (intro w' hw; obtain ⟨hcq, hfq⟩ := bcell ((hC.out _).1 hw); go_simp; (first | done | rfl | (with_reducible exact call_below hC hw (isName_any _ _ hs1)) | (with_reducible exact call_same hw (unless_any _ _ _))))); (simp only [Act.put, List.setIfInBounds_toArray, List.set_cons_succ, List.set_cons_zero]); (with_reducible refine hK _ ?_); clear hK K))))
    refine wpQuiet_nil ?_
    intro w1 hb1
    replace hb1 := (hC.out _).1 hb1
    clear hC C
    obtain ⟨hc1, hf1⟩ := bcell hb1
    clear hc1 hf1
    go_wp2_with (go_at_call 86; refine (first2' _ _ _ _ _ (by first | (go_simp; done) | (go_simp; rfl)) (by first | (go_simp; done) | (go_simp; rfl)) _ HV1.out).mono ?_; rintro e w' ⟨rfl, rfl⟩)
    go_ret
    exact ⟨ret_int HTE.out.symm, pa (pt (pa pr) hb1)⟩

/-- 2: surely accepted; 0: surely not; 1: open. -/
def acceptV (x : Lot) : Int := if x.llo ≤ x.mlo ∧ x.mhi ≤ x.lhi then 2 else if x.lhi < x.mlo ∨ x.mhi < x.llo then 0 else 1

end Go.Proofs.Ytlgioldmjohhlaa
end

section
namespace Go.Proofs.Ytlgioldmjohhlaa
open Go.RowKit

theorem accept_cases (x : Lot) : (acceptV x = 2 ∧ x.llo ≤ x.mlo ∧ x.mhi ≤ x.lhi) ∨
    (acceptV x = 0 ∧ ((x.llo ≤ x.mlo ∧ ¬ x.mhi ≤ x.lhi) ∨ ¬ x.llo ≤ x.mlo) ∧ (x.lhi < x.mlo ∨ (¬ x.lhi < x.mlo ∧ x.mhi < x.llo))) ∨
    (acceptV x = 1 ∧ ((x.llo ≤ x.mlo ∧ ¬ x.mhi ≤ x.lhi) ∨ ¬ x.llo ≤ x.mlo) ∧ ¬ x.lhi < x.mlo ∧ ¬ x.mhi < x.llo) := by
  unfold acceptV
  by_cases h1 : x.llo ≤ x.mlo ∧ x.mhi ≤ x.lhi
  · rw [if_pos h1]; exact .inl ⟨rfl, h1⟩
  · rw [if_neg h1]
    by_cases h2 : x.lhi < x.mlo ∨ x.mhi < x.llo
    · rw [if_pos h2]; exact .inr (.inl ⟨rfl, by omega, by omega⟩)
    · rw [if_neg h2]; exact .inr (.inr ⟨rfl, by omega, by omega, by omega⟩)

set_option maxHeartbeats 4000000 in
set_option maxRecDepth 100000 in
theorem accept_any (x : Lot) (A : Option Addr) (n c : Nat) (w : World) :
    Calls Try.prog 98 #[.agg #[.string x.name, .slice A n c, .int .i64 x.mlo, .int .i64 x.mhi, .int .i64 x.llo, .int .i64 x.lhi]] w fun e w' => e = .returned (.int .i64 (acceptV x)) ∧ Below w.heap.size w w' := by
  have hcase := accept_cases x
  generalize acceptV x = V at *
  obtain ⟨nm, md, mlo, mhi, llo, lhi⟩ := x
  dsimp only at *
  have r0 : Blk (w.alloc (.cells #[.string nm, .slice A n c, .int .i64 mlo, .int .i64 mhi, .int .i64 llo, .int .i64 lhi] 61)) w.heap.size 61 #[.string nm, .slice A n c, .int .i64 mlo, .int .i64 mhi, .int .i64 llo, .int .i64 lhi] := Blk.newAt rfl
  have c2 := r0.cellAt 2 rfl
  have c3 := r0.cellAt 3 rfl
  have c4 := r0.cellAt 4 rfl
  have c5 := r0.cellAt 5 rfl
  clear r0
  rcases hcase with ⟨rfl, h1, h2⟩ | ⟨rfl, h12, h34⟩ | ⟨rfl, h12, h3, h4⟩
  · go_enter Try.func98, Try.ntmps98
    go_wp2
    go_region_held3 (fun w' => w'.cell? ⟨w.heap.size, 2, none⟩ = some (.int .i64 mlo) ∧ w'.cell? ⟨w.heap.size, 3, none⟩ = some (.int .i64 mhi) ∧ w'.cell? ⟨w.heap.size, 4, none⟩ = some (.int .i64 llo) ∧ w'.cell? ⟨w.heap.size, 5, none⟩ = some (.int .i64 lhi)) (go_keep) (fail)
    all_goals
      go_wp2
      go_ret
      exact ⟨rfl, pd (pa (pa (pa pr)))⟩
  · have hno : (llo ≤ mlo ∧ ¬ mhi ≤ lhi ∧ lhi < mlo) ∨ (¬ llo ≤ mlo ∧ lhi < mlo) ∨ (¬ llo ≤ mlo ∧ ¬ lhi < mlo ∧ mhi < llo) := by omega
    clear h12 h34
    rcases hno with ⟨h1, h2, h3⟩ | ⟨h1, h3⟩ | ⟨h1, h3, h4⟩
    all_goals
      try have h1' : decide (llo ≤ mlo) = false := decide_eq_false h1
      try have h2' : decide (mhi ≤ lhi) = false := decide_eq_false h2
      try have h3' : decide (lhi < mlo) = false := decide_eq_false h3
      go_enter Try.func98, Try.ntmps98
      go_wp2
      go_region_held3 (fun w' => w'.cell? ⟨w.heap.size, 2, none⟩ = some (.int .i64 mlo) ∧ w'.cell? ⟨w.heap.size, 3, none⟩ = some (.int .i64 mhi) ∧ w'.cell? ⟨w.heap.size, 4, none⟩ = some (.int .i64 llo) ∧ w'.cell? ⟨w.heap.size, 5, none⟩ = some (.int .i64 lhi)) (go_keep) (fail)
      all_goals
        go_wp2
        go_ret
        exact ⟨rfl, pd (pa (pa (pa pr)))⟩
  · have h3' : decide (lhi < mlo) = false := decide_eq_false h3
    have h4' : decide (mhi < llo) = false := decide_eq_false h4
    rcases h12 with ⟨h1, h2⟩ | h1
    all_goals
      try have h1' : decide (llo ≤ mlo) = false := decide_eq_false h1
      try have h2' : decide (mhi ≤ lhi) = false := decide_eq_false h2
      go_enter Try.func98, Try.ntmps98
      go_wp2
      go_region_held3 (fun w' => w'.cell? ⟨w.heap.size, 2, none⟩ = some (.int .i64 mlo) ∧ w'.cell? ⟨w.heap.size, 3, none⟩ = some (.int .i64 mhi) ∧ w'.cell? ⟨w.heap.size, 4, none⟩ = some (.int .i64 llo) ∧ w'.cell? ⟨w.heap.size, 5, none⟩ = some (.int .i64 lhi)) (go_keep) (fail)
      all_goals
        go_wp2
        go_ret
        exact ⟨rfl, pd (pa (pa (pa pr)))⟩

end Go.Proofs.Ytlgioldmjohhlaa
end

section
namespace Go.Proofs.Ytlgioldmjohhlaa
open Go.RowKit Go.Maps

def klit (s : ByteArray) : Lit := .string s.data.toList
theorem klit_inj {a b : ByteArray} (h : klit a = klit b) : a = b := by
  cases a with | mk a => cases b with | mk b =>
    simp only [klit, Lit.string.injEq] at h
    have : a = b := by
      cases a with | mk a => cases b with | mk b => simpa using h
    rw [this]
theorem klit_key (s : ByteArray) : WideAt.IsKeyLit (klit s) := trivial
theorem klit_same (z x : ByteArray) : (klit z).sameKey (klit x) = sameS z x := by
  cases h : sameS z x with
  | true => rw [sameS_iff.1 h]; exact WideAt.sameKey_self (klit_key x)
  | false =>
    refine sameKey_ne fun e => ?_
    rw [sameS_iff.2 (klit_inj e)] at h
    cases h

theorem strKeyed : Keyed Try.prog 9 := string_keyed Try.underlying9

/-- Block b is a map of at most k entries that is used as a set of strings: own says which are in it. -/
def SetIs (w : World) (b : Nat) (own : ByteArray → Bool) (k : Nat) : Prop :=
  ∃ D : DataW Unit, w.ownsMap Try.prog 9 (plainElem Try.prog 4) b k D ∧ ∀ z, has D (klit z) = own z ∧ D.atKey (klit z) (.lit (.bool false)) = .lit (.bool (own z))

/-- How a map's element that is a map reads: the number of its block. -/
def mapElem : Value → Option (DataW Unit × List MemPlace)
  | .map (some b) => some (.lit (.int .i64 (b : Int)), [])
  | .map none => some (.nil, [])
  | _ => none
theorem mapElem_some {v : Value} {b : Nat} {ps : List MemPlace} (h : mapElem v = some (.lit (.int .i64 (b : Int)), ps)) : v = .map (some b) := by
  unfold mapElem at h
  split at h
  · simp only [Option.some.injEq, Prod.mk.injEq, DataW.lit.injEq, Lit.int.injEq, true_and] at h
    rename_i b'
    obtain ⟨h, _⟩ := h
    obtain rfl : b' = b := by omega
    rfl
  · simp at h
  · cases h
theorem mapElem_nil {v : Value} {ps : List MemPlace} (h : mapElem v = some (.nil, ps)) : v = .map none := by
  unfold mapElem at h
  split at h
  · simp at h
  · rfl
  · cases h

abbrev Fam := ByteArray → Option (ByteArray → Bool)

/-- Block fm is a map from strings to sets, each of at most cap entries; all blocks lie below B. -/
def FromIs (B : Nat) (w : World) (fm : Nat) (F : Fam) (k cap : Nat) : Prop :=
  ∃ D : DataW Unit, w.ownsMap Try.prog 9 mapElem fm k D ∧ fm < B ∧
    ∀ z, (F z = none → ∀ d, D.atKey (klit z) d = d) ∧ ∀ own, F z = some own → ∃ b : Nat, (∀ d, D.atKey (klit z) d = .lit (.int .i64 (b : Int))) ∧ SetIs w b own cap ∧ b < B ∧ b ≠ fm

theorem World.ownsMap.under {w w' : World} {k : TypeId} {R : Value → Option (DataW Unit × List MemPlace)} {b n B : Nat} {D : DataW Unit} (h : w.ownsMap Try.prog k R b n D) (hb : Below B w w') (hlt : b < B) : w'.ownsMap Try.prog k R b n D := by
  obtain ⟨es, clock, h1, r⟩ := h
  exact ⟨es, clock, (hb.block b hlt).trans h1, r⟩

section
variable {w w' : World} {b k cap fm B : Nat} {own : ByteArray → Bool} {F : Fam}

theorem SetIs.lt (h : SetIs w b own k) : b < w.heap.size := by
  obtain ⟨D, h1, _⟩ := h
  exact h1.lt
theorem SetIs.below (h : SetIs w b own k) (hb : Below B w w') (hlt : b < B) : SetIs w' b own k := by
  obtain ⟨D, h1, h2⟩ := h
  exact ⟨D, World.ownsMap.under h1 hb hlt, h2⟩
theorem SetIs.kept {row : Option Nat} (h : SetIs w b own k) (hg : w.grownBy w' row) (hne : some b ≠ row) : SetIs w' b own k := by
  obtain ⟨D, h1, h2⟩ := h
  exact ⟨D, h1.kept hg hne, h2⟩
theorem SetIs.mono (h : SetIs w b own k) {k' : Nat} (hk : k ≤ k') : SetIs w b own k' := by
  obtain ⟨D, h1, h2⟩ := h
  exact ⟨D, h1.mono hk, h2⟩
theorem SetIs.congr (h : SetIs w b own k) {own' : ByteArray → Bool} (he : ∀ z, own' z = own z) : SetIs w b own' k := by
  rw [show own' = own from funext he]; exact h
theorem SetIs.made (w : World) : SetIs (w.alloc (.map #[] 0)) w.heap.size (fun _ => false) 0 :=
  ⟨.map [], World.ownsMap_made w _ _ _, fun _ => ⟨rfl, rfl⟩⟩

theorem FromIs.below (h : FromIs B w fm F k cap) (hb : Below B w w') : FromIs B w' fm F k cap := by
  obtain ⟨D, h1, h2, h3⟩ := h
  refine ⟨D, World.ownsMap.under h1 hb h2, h2, fun z => ⟨(h3 z).1, fun own ho => ?_⟩⟩
  obtain ⟨b, g1, g2, g3, g4⟩ := (h3 z).2 own ho
  exact ⟨b, g1, g2.below hb g3, g3, g4⟩
theorem FromIs.more (h : FromIs B w fm F k cap) {B' : Nat} (hB : B ≤ B') : FromIs B' w fm F k cap := by
  obtain ⟨D, h1, h2, h3⟩ := h
  refine ⟨D, h1, by omega, fun z => ⟨(h3 z).1, fun own ho => ?_⟩⟩
  obtain ⟨b, g1, g2, g3, g4⟩ := (h3 z).2 own ho
  exact ⟨b, g1, g2, by omega, g4⟩
theorem FromIs.mono (h : FromIs B w fm F k cap) {cap' : Nat} (hc : cap ≤ cap') : FromIs B w fm F k cap' := by
  obtain ⟨D, h1, h2, h3⟩ := h
  refine ⟨D, h1, h2, fun z => ⟨(h3 z).1, fun own ho => ?_⟩⟩
  obtain ⟨b, g1, g2, g3, g4⟩ := (h3 z).2 own ho
  exact ⟨b, g1, g2.mono hc, g3, g4⟩
theorem FromIs.past (h : FromIs B w fm F k cap) (hB : B ≤ w.heap.size) (hb : Below w.heap.size w w') : FromIs B w' fm F k cap := h.below (hb.mono hB)
theorem FromIs.kept {row : Nat} (h : FromIs B w fm F k cap) (hg : w.grownBy w' (some row)) (hr : B ≤ row) : FromIs B w' fm F k cap := by
  obtain ⟨D, h1, h2, h3⟩ := h
  refine ⟨D, h1.kept hg (by simp; omega), h2, fun z => ⟨(h3 z).1, fun own ho => ?_⟩⟩
  obtain ⟨b, g1, g2, g3, g4⟩ := (h3 z).2 own ho
  exact ⟨b, g1, g2.kept hg (by simp; omega), g3, g4⟩
theorem FromIs.grown {row : Option Nat} (h : FromIs B w fm F k cap) (hg : w.grownBy w' row) (hr : ∀ j, row = some j → B ≤ j) : FromIs B w' fm F k cap := by
  have hne : ∀ b, b < B → some b ≠ row := fun b hb e => by have := hr b e.symm; omega
  obtain ⟨D, h1, h2, h3⟩ := h
  refine ⟨D, h1.kept hg (hne _ h2), h2, fun z => ⟨(h3 z).1, fun own ho => ?_⟩⟩
  obtain ⟨b, g1, g2, g3, g4⟩ := (h3 z).2 own ho
  exact ⟨b, g1, g2.kept hg (hne _ g3), g3, g4⟩
theorem FromIs.made (w : World) : FromIs (w.heap.size + 1) (w.alloc (.map #[] 0)) w.heap.size (fun _ => none) 0 cap :=
  ⟨.map [], World.ownsMap_made w _ _ _, by omega, fun _ => ⟨fun _ d => rfl, fun own ho => nomatch ho⟩⟩

theorem zero_bool (w : World) : (zeroValue 4).run Try.prog w = .ok (.bool false) w := by kernel_rfl
theorem zero_map (w : World) : (zeroValue 134).run Try.prog w = .ok (.map none) w := by kernel_rfl

theorem plainElem_bool_inv' {P : Program} {e : TypeId} (he : P.underlying e = some .bool) {v : Value} {z : DataW Unit × List MemPlace} (h : plainElem P e v = some z) : ∃ c, v = .bool c ∧ z = (.lit (.bool c), []) := by
  unfold plainElem at h
  rw [he] at h
  cases v <;> simp at h
  exact ⟨_, rfl, h.symm⟩
theorem plainElem_bool_inv {v : Value} {z : DataW Unit × List MemPlace} (h : plainElem Try.prog 4 v = some z) : ∃ c, v = .bool c ∧ z = (.lit (.bool c), []) := plainElem_bool_inv' Try.underlying4 h

/-- s[z] at a set. -/
theorem SetIs.look (h : SetIs w b own k) {z : ByteArray} (hz : z.size ≤ 1000) : (Instr.lookup 134 (.map (some b)) (.string z) false).run Try.prog w = .ok (.bool (own z)) w := by
  obtain ⟨D, h1, h2⟩ := h
  obtain ⟨v, ps, hrun, hv⟩ := h1.lookup strKeyed Try.underlying134 (zero_bool w) (plainElem_bool Try.underlying4 false) (WideMaps.keyOf_string_mk Try.underlying9 (s := z) (by unfold maxLen; omega))
  obtain ⟨c, rfl, hc⟩ := plainElem_bool_inv hv
  simp only [Prod.mk.injEq] at hc
  have := (h2 z).2
  unfold klit at this
  rw [hc.1] at this
  simp only [DataW.lit.injEq, Lit.bool.injEq] at this
  rw [hrun, this]
theorem FromIs.look_none (h : FromIs B w fm F k cap) {z : ByteArray} (hz : z.size ≤ 1000) (hF : F z = none) : (Instr.lookup 127 (.map (some fm)) (.string z) false).run Try.prog w = .ok (.map none) w := by
  obtain ⟨D, h1, _, h2⟩ := h
  obtain ⟨v, ps, hrun, hv⟩ := h1.lookup (z := .map none) (zd := .nil) (zp := []) strKeyed Try.underlying127 (zero_map w) rfl (WideMaps.keyOf_string_mk Try.underlying9 (s := z) (by unfold maxLen; omega))
  have := (h2 z).1 hF .nil
  unfold klit at this
  rw [this] at hv
  rw [hrun, mapElem_nil hv]
theorem FromIs.look_some (h : FromIs B w fm F k cap) {z : ByteArray} (hz : z.size ≤ 1000) {own : ByteArray → Bool} (hF : F z = some own) :
    ∃ b : Nat, (∀ W, Below B w W → (Instr.lookup 127 (.map (some fm)) (.string z) false).run Try.prog W = .ok (.map (some b)) W) ∧ SetIs w b own cap ∧ b < B ∧ b ≠ fm := by
  obtain ⟨D, h1, hfB, h2⟩ := h
  obtain ⟨b, g1, g2, g3, g4⟩ := (h2 z).2 own hF
  refine ⟨b, fun W hW => ?_, g2, g3, g4⟩
  obtain ⟨v, ps, hrun, hv⟩ := (World.ownsMap.under h1 hW hfB).lookup (z := .map none) (zd := .nil) (zp := []) strKeyed Try.underlying127 (zero_map W) rfl (WideMaps.keyOf_string_mk Try.underlying9 (s := z) (by unfold maxLen; omega))
  have := g1 .nil
  unfold klit at this
  rw [this] at hv
  rw [hrun, mapElem_some hv]

/-- The outer map gets one entry more. -/
theorem FromIs.put {D : DataW Unit} (h : FromIs B w fm F k cap) {x : ByteArray} {ob : Nat} (ho : SetIs w ob own cap) (hob : ob < B) (hne : ob ≠ fm)
    (hD : w.ownsMap Try.prog 9 mapElem fm k D) (hw : w'.ownsMap Try.prog 9 mapElem fm (k + 1) (D.put (klit x) (.lit (.int .i64 (ob : Int))))) (hg : w.grownBy w' (some fm))
    (hsame : ∀ z, (F z = none → ∀ d, D.atKey (klit z) d = d) ∧ ∀ own, F z = some own → ∃ b : Nat, (∀ d, D.atKey (klit z) d = .lit (.int .i64 (b : Int))) ∧ SetIs w b own cap ∧ b < B ∧ b ≠ fm) :
    FromIs B w' fm (fun z => if sameS z x then some own else F z) (k + 1) cap := by
  have hfB : fm < B := by obtain ⟨_, _, h, _⟩ := h; exact h
  refine ⟨_, hw, hfB, fun z => ?_⟩
  dsimp only
  cases hs : sameS z x with
  | true =>
    rw [sameS_iff.1 hs]
    refine ⟨fun h => (by simp at h), fun own' ho' => ?_⟩
    simp only [if_true, Option.some.injEq] at ho'
    subst ho'
    exact ⟨ob, fun d => atKey_put_same (World.ownsMap.isMap hD) (klit_key x) _ d, ho.kept hg (by simpa using hne), hob, hne⟩
  | false =>
    have hk : klit z ≠ klit x := fun e => by rw [sameS_iff.2 (klit_inj e)] at hs; cases hs
    simp only [Bool.false_eq_true, if_false]
    refine ⟨fun h d => by rw [atKey_put_other hk]; exact (hsame z).1 h d, fun own' ho' => ?_⟩
    obtain ⟨b, g1, g2, g3, g4⟩ := (hsame z).2 own' ho'
    exact ⟨b, fun d => by rw [atKey_put_other hk]; exact g1 d, g2.kept hg (by simpa using g4), g3, g4⟩
end

theorem keyOf_string_inv' {P : Program} {k : TypeId} (hk : P.underlying k = some .string) {x : ByteArray} {kl : Lit} (h : keyOf P k (.string x) = some kl) : kl = klit x ∧ x.size ≤ maxLen := by
  simp [keyOf, hk, mapKey] at h
  exact ⟨h.2.symm, h.1⟩

section
variable (w : World) {ops : Array Oper} {rest : List Oper} {o : Oper} {a : Act} {Q : Exit → Act → World → Prop}

/-- s[z] = true. -/
theorem wpList_set_add (hg : o.guard = none) (m x v : Operand) (hop : o.op = Op.mapUpdate 134 m x v) (b k : Nat) (own : ByteArray → Bool) (hm : a.eval m = .map (some b)) (h : SetIs w b own k) (hn : k < 1000000000000000000)
    (z : ByteArray) (hx : a.eval x = .string z) (hv : a.eval v = .bool true) (hz : z.size ≤ maxLen)
    (hK : ∀ w', SetIs w' b (fun y => own y || sameS y z) (k + 1) → w.grownBy w' (some b) → wpList Try.prog ops Q rest (a.put o.dst undef) w') :
    wpList Try.prog ops Q (o :: rest) a w := by
  obtain ⟨D, h1, h2⟩ := h
  refine wpList_mapUpdate_own w hg m x v _ hop 9 4 strKeyed Try.underlying134 _ b k D hm h1 (by unfold maxLen; omega) _ _ (klit z) hx hv (WideMaps.keyOf_string_mk Try.underlying9 hz) (.lit (.bool true)) [] (plainElem_bool Try.underlying4 true) ?_
  intro w' hw hg'
  refine hK w' ⟨_, hw, fun y => ?_⟩ hg'
  dsimp only
  cases hs : sameS y z with
  | true =>
    rw [sameS_iff.1 hs]
    simp only [Bool.or_true]
    exact ⟨has_put_same (World.ownsMap.isMap h1) (klit_key z) _, atKey_put_same (World.ownsMap.isMap h1) (klit_key z) _ _⟩
  | false =>
    have hk : klit y ≠ klit z := fun e => by rw [sameS_iff.2 (klit_inj e)] at hs; cases hs
    rw [has_put_other hk, atKey_put_other hk]
    simpa using h2 y

/-- f[x] = a set. -/
theorem wpList_from_put (hg : o.guard = none) (m x v : Operand) (hop : o.op = Op.mapUpdate 127 m x v) (B fm k cap ob : Nat) (F : Fam) (own : ByteArray → Bool) (hm : a.eval m = .map (some fm)) (h : FromIs B w fm F k cap) (hn : k < 1000000000000000000)
    (z : ByteArray) (hx : a.eval x = .string z) (hv : a.eval v = .map (some ob)) (hz : z.size ≤ 1000) (ho : SetIs w ob own cap) (hob : ob < B) (hne : ob ≠ fm)
    (hK : ∀ w', FromIs B w' fm (fun y => if sameS y z then some own else F y) (k + 1) cap → w.grownBy w' (some fm) → wpList Try.prog ops Q rest (a.put o.dst undef) w') :
    wpList Try.prog ops Q (o :: rest) a w := by
  have h' := h
  obtain ⟨D, h1, h2, h3⟩ := h
  refine wpList_mapUpdate_own w hg m x v _ hop 9 134 strKeyed Try.underlying127 _ fm k D hm h1 (by unfold maxLen; omega) _ _ (klit z) hx hv (WideMaps.keyOf_string_mk Try.underlying9 (by unfold maxLen; omega)) (.lit (.int .i64 (ob : Int))) [] rfl ?_
  intro w' hw hg'
  exact hK w' (h'.put ho hob hne h1 hw hg' h3) hg'

/-- The step of a range over a set. -/
theorem wpList_next_set (hg : o.guard = none) (it : Operand) (hop : o.op = Op.next it false) (b r n : Nat) (D : DataW Unit) (left : Lit → Bool) (cnt : Nat) (hit : a.eval it = .pointer (some ⟨r, 0, none⟩)) (h : w.ranges Try.prog 9 (plainElem Try.prog 4) b r n D left cnt)
    (hDone : cnt = 0 → (∀ kl, left kl = false) → wpList Try.prog ops Q rest (a.put o.dst (.tuple #[.bool false])) w)
    (hMore : ∀ (x : ByteArray) (c : Bool) (w' : World) (cnt' : Nat), x.size ≤ maxLen → left (klit x) = true → has D (klit x) = true → w'.ranges Try.prog 9 (plainElem Try.prog 4) b r n D (fun z => left z && !z.sameKey (klit x)) cnt' → cnt' < cnt →
      w.grownBy w' (some r) → w'.heap.size = w.heap.size → (Instr.entry (.pointer (some ⟨r, 0, none⟩))).run Try.prog w' = .ok (.tuple #[.string x, .bool c]) w' → wpList Try.prog ops Q rest (a.put o.dst (.tuple #[.bool true, .string x, .bool c])) w') :
    wpList Try.prog ops Q (o :: rest) a w :=
  wpList_next_ranges w hg it hop 9 strKeyed (plainElem Try.prog 4) Value.string Value.bool (fun key kl hkey => Maps.keyOf_string_inv Try.underlying9 hkey) (fun v y hv => by obtain ⟨c, rfl, _⟩ := plainElem_bool_inv hv; exact ⟨c, rfl⟩)
    b r n D left cnt hit h hDone (fun x c kl y w' cnt' hkey hlk hv hat hrg hlt hgr hsz hen => by
      obtain ⟨hkl, hsz'⟩ := keyOf_string_inv' Try.underlying9 hkey
      subst hkl
      exact hMore x c w' cnt' hsz' hlk (has_true_of_atKey hat) hrg hlt hgr hsz hen)
end

end Go.Proofs.Ytlgioldmjohhlaa
end
