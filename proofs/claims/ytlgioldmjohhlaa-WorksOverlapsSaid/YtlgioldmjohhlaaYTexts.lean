/- Words on rows of any kind, and contracts: a string's place in a slice, whether a slice has a string. No condition but on lengths. -/
import Derived.Test.YtlgioldmjohhlaaIPlan
import Derived.Lib.SlicesS
import Derived.Lib.Strings
import Derived.Lib.Walk
namespace Go.Proofs.Ytlgioldmjohhlaa
open Go.RowKit

/-- The first place from k on at which p holds, or -1. -/
def findG {α : Type} (p : α → Bool) (xs : List α) (k : Nat) : Int :=
  match (xs.drop k).findIdx? p with
  | some i => ((k + i : Nat) : Int)
  | none => -1
def anyG {α : Type} (p : α → Bool) (xs : List α) : Bool := xs.any p

theorem findG_step {α : Type} (p : α → Bool) (xs : List α) (k : Nat) (d : α) (h : k < xs.length) : findG p xs k = if p (xs.getD k d) = true then (k : Int) else findG p xs (k + 1) := by
  unfold findG
  rw [List.drop_eq_getElem_cons h, List.findIdx?_cons]
  have e : xs.getD k d = xs[k] := by simp [List.getD, h]
  rw [e]
  by_cases hx : p xs[k] = true
  · simp [hx]
  · simp only [hx]
    cases (List.drop (k + 1) xs).findIdx? p with
    | none => rfl
    | some i => simp; omega
theorem findG_end {α : Type} (p : α → Bool) (xs : List α) (k : Nat) (h : xs.length ≤ k) : findG p xs k = -1 := by
  unfold findG
  rw [List.drop_eq_nil_of_le h]
  rfl
theorem findG_any {α : Type} (p : α → Bool) (xs : List α) : decide (0 ≤ findG p xs 0) = anyG p xs := by
  unfold findG anyG
  simp only [List.drop_zero]
  cases h : xs.findIdx? p with
  | none =>
    have h2 := List.findIdx?_eq_none_iff.1 h
    have h3 : xs.any p = false := by rw [List.any_eq_false]; intro x hx; simp [h2 x hx]
    simp [h3]
  | some i =>
    obtain ⟨h1, h2, _⟩ := List.findIdx?_eq_some_iff_getElem.1 h
    have h3 : xs.any p = true := by rw [List.any_eq_true]; exact ⟨xs[i], List.getElem_mem h1, h2⟩
    simp [h3]

/-- A slice at A reads as the row xs, one cell each; its cells lie below block B. -/
def RowIn {α : Type} [Inhabited α] (enc : α → Value) (B : Nat) (w : World) (A : Option Addr) (xs : List α) : Prop :=
  xs = [] ∨ ∃ b off, A = some ⟨b, off, none⟩ ∧ b < B ∧ ∀ j, j < xs.length → w.cell? ⟨b, off + j, none⟩ = some (enc (xs.getD j default))

section
variable {α : Type} [Inhabited α] {enc : α → Value} {w w' : World} {B B' : Nat} {A : Option Addr} {xs : List α}
theorem RowIn.nil : RowIn enc B w A [] := .inl rfl
theorem RowIn.at_ {k : Nat} (h : RowIn enc B w A xs) (hk : k < xs.length) : ∃ b off, A = some ⟨b, off, none⟩ ∧ b < B ∧ ∀ j, j < xs.length → w.cell? ⟨b, off + j, none⟩ = some (enc (xs.getD j default)) := by
  rcases h with h | h
  · subst h; simp at hk
  · exact h
theorem RowIn.keep (h : RowIn enc B w A xs) (hk : ∀ b o, b < B → w'.cell? ⟨b, o, none⟩ = w.cell? ⟨b, o, none⟩) : RowIn enc B w' A xs := by
  rcases h with h | ⟨b, off, hA, hb, hc⟩
  · exact .inl h
  · exact .inr ⟨b, off, hA, hb, fun j hj => (hk _ _ hb).trans (hc j hj)⟩
theorem RowIn.below (h : RowIn enc B w A xs) (hb : Below B w w') : RowIn enc B w' A xs := h.keep (bcell hb).1
theorem RowIn.more (h : RowIn enc B w A xs) (hB : B ≤ B') : RowIn enc B' w A xs := by
  rcases h with h | ⟨b, off, hA, hb, hc⟩
  · exact .inl h
  · exact .inr ⟨b, off, hA, by omega, hc⟩
theorem RowIn.take (h : RowIn enc B w A xs) (k : Nat) : RowIn enc B w A (xs.take k) := by
  rcases h with h | ⟨b, off, hA, hb, hc⟩
  · exact .inl (by rw [h]; simp)
  · refine .inr ⟨b, off, hA, hb, fun j hj => ?_⟩
    simp only [List.length_take] at hj
    rw [hc j (by omega)]
    simp [List.getD, show j < k by omega]
theorem RowIn.past (h : RowIn enc B w A xs) (hB : B ≤ w.heap.size) (hb : Below w.heap.size w w') : RowIn enc w'.heap.size w' A xs := ((h.more hB).below hb).more hb.size
end

/-- Whether two strings are one. -/
def sameS (x y : ByteArray) : Bool := x.data.toList == y.data.toList
theorem sameS_iff {x y : ByteArray} : sameS x y = true ↔ x = y := by
  unfold sameS
  rw [beq_iff_eq]
  constructor
  · intro h
    cases x with | mk x => cases y with | mk y =>
      cases x with | mk x => cases y with | mk y =>
        simp only at h
        rw [h]
  · rintro rfl; rfl
theorem sameS_list (x y : ByteArray) : sameS x y = (x.toList == y.toList) := by
  rw [Bool.eq_iff_iff, sameS_iff, Lib.bytes_beq_iff]
theorem sameS_self (x : ByteArray) : sameS x x = true := sameS_iff.2 rfl
theorem sameS_comm (x y : ByteArray) : sameS x y = sameS y x := by
  rw [Bool.eq_iff_iff, sameS_iff, sameS_iff]
  exact eq_comm

set_option maxHeartbeats 400000 in
theorem indexS_any (B : Nat) (A : Option Addr) (n c : Nat) (xs : List ByteArray) (x : ByteArray) (w : World) (hr : RowIn Value.string B w A xs) (hn : xs.length = n) (hm : n ≤ 1000) :
    Calls Try.prog 150 #[.slice A n c, .string x] w fun e w' => e = .returned (.int .i64 (findG (sameS x) xs 0)) ∧ w = w' := by
  subst hn
  go_enter Try.func150, Try.ntmps150
  go_wp2
  go_loop [8] (fun i => ∃ k : Nat, k ≤ xs.length ∧ i = .int .i64 k ∧ findG (sameS x) xs 0 = findG (sameS x) xs k) (fun i => xs.length - (intOf i).toNat)
  case atStart => exact ⟨0, Nat.zero_le _, rfl, rfl⟩
  case round =>
    obtain ⟨k, hk, rfl, hf⟩ := hrel
    by_cases hlt : k < xs.length
    · obtain ⟨b, off, rfl, hb, hc⟩ := hr.at_ hlt
      have hcell := hc k hlt
      have HF := Lib.hid (hf.trans (findG_step (sameS x) xs k default hlt))
      clear hc hf hr
      generalize xs.getD k default = y at *
      have hs : sameS x y = (x.toList == y.toList) := sameS_list x y
      cases hxy : sameS x y with
      | true =>
        have HX := Lib.hid hxy
        have hb : (x.toList == y.toList) = true := by rw [← hs]; exact hxy
        clear hs hxy
        go_wp2
        go_ret
        exact ⟨ret_int (by rw [HF.out, HX.out]; simp), rfl⟩
      | false =>
        have HX := Lib.hid hxy
        have hb : (x.toList == y.toList) = false := by rw [← hs]; exact hxy
        clear hs hxy
        go_wp2
        go_round
        case rel => exact ⟨k + 1, by omega, by go_num, by rw [HF.out, HX.out]; simp⟩
        case measure => simp [intOf]; omega
    · have HF := Lib.hid (show findG (sameS x) xs 0 = -1 by rw [hf]; exact findG_end _ _ _ (by omega))
      clear hf
      go_wp2
      go_ret
      exact ⟨ret_int HF.out.symm, rfl⟩

theorem containsS_any (B : Nat) (A : Option Addr) (n c : Nat) (xs : List ByteArray) (x : ByteArray) (w : World) (hr : RowIn Value.string B w A xs) (hn : xs.length = n) (hm : n ≤ 1000) :
    Calls Try.prog 139 #[.slice A n c, .string x] w fun e w' => e = .returned (.bool (anyG (sameS x) xs)) ∧ w = w' := by
  have H := Lib.hid (findG_any (sameS x) xs)
  have HI := Lib.hid (indexS_any B A n c xs x w hr hn hm)
  clear hr hn
  go_enter Try.func139, Try.ntmps139
  go_wp2_with (go_at_call 150; refine HI.out.mono ?_; rintro e w' ⟨rfl, rfl⟩)
  go_ret
  exact ⟨ret_bool H.out, rfl⟩

end Go.Proofs.Ytlgioldmjohhlaa
