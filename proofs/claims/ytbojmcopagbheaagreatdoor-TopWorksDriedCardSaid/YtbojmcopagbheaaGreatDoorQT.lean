/- Words on rows of any kind, and contracts: a string's place in a slice, whether a slice has a string. No condition but on lengths.
Contracts of the specification's helpers: whether two slices are equal. Lengths at most 100000.
Contract: the specification's comparison of a task with itself, in two places. -/
import Derived.Test.YtbojmcopagbheaaGreatDoorQ3
import Derived.Lib.SlicesS
import Derived.Lib.Strings
import Derived.Lib.Walk
import Derived.Deep.QuietTactic
import Derived.BigQuiet

section
namespace Go.Proofs.YtbojmcopagbheaaGreatDoor
open Go.RowKit

/-- The first place from k on at which p holds, or -1. -/
def findG {α : Type} (p : α → Bool) (xs : List α) (k : Nat) : Int :=
  match (xs.drop k).findIdx? p with
  | some i => ((k + i : Nat) : Int)
  | none => -1
def anyG {α : Type} (p : α → Bool) (xs : List α) : Bool := xs.any p

theorem findG_step {α : Type} (p : α → Bool) (xs : List α) (k : Nat) (d : α) (h : k < xs.length) : findG p xs k = if p (xs.getD k d) = true then (k : Int) else findG p xs (k + 1) := by
  unfold findG
  rw [List.drop_eq_getElem_cons h, List.findIdx?_cons]
  have e : xs.getD k d = xs[k] := by simp [List.getD, h]
  rw [e]
  by_cases hx : p xs[k] = true
  · simp [hx]
  · simp only [hx]
    cases (List.drop (k + 1) xs).findIdx? p with
    | none => rfl
    | some i => simp; omega
theorem findG_end {α : Type} (p : α → Bool) (xs : List α) (k : Nat) (h : xs.length ≤ k) : findG p xs k = -1 := by
  unfold findG
  rw [List.drop_eq_nil_of_le h]
  rfl
theorem findG_any {α : Type} (p : α → Bool) (xs : List α) : decide (0 ≤ findG p xs 0) = anyG p xs := by
  unfold findG anyG
  simp only [List.drop_zero]
  cases h : xs.findIdx? p with
  | none =>
    have h2 := List.findIdx?_eq_none_iff.1 h
    have h3 : xs.any p = false := by rw [List.any_eq_false]; intro x hx; simp [h2 x hx]
    simp [h3]
  | some i =>
    obtain ⟨h1, h2, _⟩ := List.findIdx?_eq_some_iff_getElem.1 h
    have h3 : xs.any p = true := by rw [List.any_eq_true]; exact ⟨xs[i], List.getElem_mem h1, h2⟩
    simp [h3]

/-- A slice at A reads as the row xs, one cell each; its cells lie below block B. -/
def RowIn {α : Type} [Inhabited α] (enc : α → Value) (B : Nat) (w : World) (A : Option Addr) (xs : List α) : Prop :=
  xs = [] ∨ ∃ b off, A = some ⟨b, off, none⟩ ∧ b < B ∧ ∀ j, j < xs.length → w.cell? ⟨b, off + j, none⟩ = some (enc (xs.getD j default))

section
variable {α : Type} [Inhabited α] {enc : α → Value} {w w' : World} {B B' : Nat} {A : Option Addr} {xs : List α}
theorem RowIn.nil : RowIn enc B w A [] := .inl rfl
theorem RowIn.at_ {k : Nat} (h : RowIn enc B w A xs) (hk : k < xs.length) : ∃ b off, A = some ⟨b, off, none⟩ ∧ b < B ∧ ∀ j, j < xs.length → w.cell? ⟨b, off + j, none⟩ = some (enc (xs.getD j default)) := by
  rcases h with h | h
  · subst h; simp at hk
  · exact h
theorem RowIn.keep (h : RowIn enc B w A xs) (hk : ∀ b o, b < B → w'.cell? ⟨b, o, none⟩ = w.cell? ⟨b, o, none⟩) : RowIn enc B w' A xs := by
  rcases h with h | ⟨b, off, hA, hb, hc⟩
  · exact .inl h
  · exact .inr ⟨b, off, hA, hb, fun j hj => (hk _ _ hb).trans (hc j hj)⟩
theorem RowIn.below (h : RowIn enc B w A xs) (hb : Below B w w') : RowIn enc B w' A xs := h.keep (bcell hb).1
theorem RowIn.more (h : RowIn enc B w A xs) (hB : B ≤ B') : RowIn enc B' w A xs := by
  rcases h with h | ⟨b, off, hA, hb, hc⟩
  · exact .inl h
  · exact .inr ⟨b, off, hA, by omega, hc⟩
theorem RowIn.take (h : RowIn enc B w A xs) (k : Nat) : RowIn enc B w A (xs.take k) := by
  rcases h with h | ⟨b, off, hA, hb, hc⟩
  · exact .inl (by rw [h]; simp)
  · refine .inr ⟨b, off, hA, hb, fun j hj => ?_⟩
    simp only [List.length_take] at hj
    rw [hc j (by omega)]
    simp [List.getD, show j < k by omega]
theorem RowIn.past (h : RowIn enc B w A xs) (hB : B ≤ w.heap.size) (hb : Below w.heap.size w w') : RowIn enc w'.heap.size w' A xs := ((h.more hB).below hb).more hb.size
end

/-- Whether two strings are one. -/
def sameS (x y : ByteArray) : Bool := x.data.toList == y.data.toList
theorem sameS_iff {x y : ByteArray} : sameS x y = true ↔ x = y := by
  unfold sameS
  rw [beq_iff_eq]
  constructor
  · intro h
    cases x with | mk x => cases y with | mk y =>
      cases x with | mk x => cases y with | mk y =>
        simp only at h
        rw [h]
  · rintro rfl; rfl
theorem sameS_list (x y : ByteArray) : sameS x y = (x.toList == y.toList) := by
  rw [Bool.eq_iff_iff, sameS_iff, Lib.bytes_beq_iff]
theorem sameS_self (x : ByteArray) : sameS x x = true := sameS_iff.2 rfl
theorem sameS_comm (x y : ByteArray) : sameS x y = sameS y x := by
  rw [Bool.eq_iff_iff, sameS_iff, sameS_iff]
  exact eq_comm

set_option maxHeartbeats 400000 in
theorem indexS_any (B : Nat) (A : Option Addr) (n c : Nat) (xs : List ByteArray) (x : ByteArray) (w : World) (hr : RowIn Value.string B w A xs) (hn : xs.length = n) (hm : n ≤ 1000) :
    Calls Tryz.prog 103 #[.slice A n c, .string x] w fun e w' => e = .returned (.int .i64 (findG (sameS x) xs 0)) ∧ w = w' := by
  subst hn
  go_enter Tryz.func103, Tryz.ntmps103
  go_wp2
  go_loop [8] (fun i => ∃ k : Nat, k ≤ xs.length ∧ i = .int .i64 k ∧ findG (sameS x) xs 0 = findG (sameS x) xs k) (fun i => xs.length - (intOf i).toNat)
  case atStart => exact ⟨0, Nat.zero_le _, rfl, rfl⟩
  case round =>
    obtain ⟨k, hk, rfl, hf⟩ := hrel
    by_cases hlt : k < xs.length
    · obtain ⟨b, off, rfl, hb, hc⟩ := hr.at_ hlt
      have hcell := hc k hlt
      have HF := Lib.hid (hf.trans (findG_step (sameS x) xs k default hlt))
      clear hc hf hr
      generalize xs.getD k default = y at *
      have hs : sameS x y = (x.toList == y.toList) := sameS_list x y
      cases hxy : sameS x y with
      | true =>
        have HX := Lib.hid hxy
        have hb : (x.toList == y.toList) = true := by rw [← hs]; exact hxy
        clear hs hxy
        go_wp2
        go_ret
        exact ⟨ret_int (by rw [HF.out, HX.out]; simp), rfl⟩
      | false =>
        have HX := Lib.hid hxy
        have hb : (x.toList == y.toList) = false := by rw [← hs]; exact hxy
        clear hs hxy
        go_wp2
        go_round
        case rel => exact ⟨k + 1, by omega, by go_num, by rw [HF.out, HX.out]; simp⟩
        case measure => simp [intOf]; omega
    · have HF := Lib.hid (show findG (sameS x) xs 0 = -1 by rw [hf]; exact findG_end _ _ _ (by omega))
      clear hf
      go_wp2
      go_ret
      exact ⟨ret_int HF.out.symm, rfl⟩

theorem containsS_any (B : Nat) (A : Option Addr) (n c : Nat) (xs : List ByteArray) (x : ByteArray) (w : World) (hr : RowIn Value.string B w A xs) (hn : xs.length = n) (hm : n ≤ 1000) :
    Calls Tryz.prog 64 #[.slice A n c, .string x] w fun e w' => e = .returned (.bool (anyG (sameS x) xs)) ∧ w = w' := by
  have H := Lib.hid (findG_any (sameS x) xs)
  have HI := Lib.hid (indexS_any B A n c xs x w hr hn hm)
  clear hr hn
  go_enter Tryz.func64, Tryz.ntmps64
  go_wp2_with (go_at_call 103; refine HI.out.mono ?_; rintro e w' ⟨rfl, rfl⟩)
  go_ret
  exact ⟨ret_bool H.out, rfl⟩

end Go.Proofs.YtbojmcopagbheaaGreatDoor
end

section
namespace Go.Proofs.YtbojmcopagbheaaGreatDoor
open Go.RowKit

def intsB (xs ys : List Int) : Bool := decide (xs = ys)
def textsB (xs ys : List ByteArray) : Bool := decide (xs = ys)

theorem list_eq_of {α : Type} (d : α) {xs ys : List α} (hl : xs.length = ys.length) (h : ∀ j, j < xs.length → xs.getD j d = ys.getD j d) : xs = ys := by
  apply List.ext_getElem hl
  intro j h1 h2
  have := h j h1
  simpa [List.getD, h1, h2] using this

set_option maxHeartbeats 1000000 in
theorem ints_any (B : Nat) (A A2 : Option Addr) (c c2 : Nat) (xs ys : List Int) (w : World) (hr : IntsIn B w A xs) (hr2 : IntsIn B w A2 ys) (hm : xs.length ≤ 100000) :
    Calls Tryz.prog 78 #[.slice A xs.length c, .slice A2 ys.length c2] w fun e w' => e = .returned (.bool (intsB xs ys)) ∧ Below w.heap.size w w' := by
  by_cases hl : xs.length = ys.length
  · have hne : ((xs.length : Int) != (ys.length : Int)) = false := by simp [hl]
    have HL := Lib.hid hl
    have hle : xs.length ≤ ys.length := by omega
    have hge : ys.length ≤ xs.length := by omega
    have HR := Lib.hid hr
    have HR2 := Lib.hid hr2
    clear hl hr hr2
    go_enter Tryz.func78, Tryz.ntmps78
    go_wp2
    go_loopw [5] (fun i wr => ∃ k : Nat, k ≤ xs.length ∧ i = .int .i64 k ∧ (∀ j, j < k → xs.getD j 0 = ys.getD j 0) ∧ Below w.heap.size w wr ∧ IntsIn B wr A xs ∧ IntsIn B wr A2 ys) (fun i _ => xs.length - (intOf i).toNat)
    case atStart => exact ⟨0, Nat.zero_le _, rfl, fun j hj => by omega, pr, HR.out, HR2.out⟩
    case round =>
      obtain ⟨k, hk, rfl, hf, hq, hr, hr2⟩ := hrel
      by_cases hlt : k < xs.length
      · obtain ⟨b, off, rfl, hb, hc⟩ := hr.at_ hlt
        obtain ⟨b2, off2, rfl, hb2, hc2⟩ := hr2.at_ (k := k) (by omega)
        have hcell := hc k hlt
        have hcell2 := hc2 k (by omega)
        have HF := Lib.hid hf
        have HX := Lib.hid (show ∀ nq, IntsIn B (wr.drewN nq) (some ⟨b, off, none⟩) xs ∧ IntsIn B (wr.drewN nq) (some ⟨b2, off2, none⟩) ys from fun nq => ⟨hr, hr2⟩)
        have k0 : (0 : Int) ≤ (k : Int) := by omega
        have k1 : (k : Int) < (xs.length : Int) := by omega
        have k2 : (k : Int) < (ys.length : Int) := by omega
        have HX0 := Lib.hid (show ∀ e, intsB xs ys = e ↔ decide (xs = ys) = e from fun _ => Iff.rfl)
        clear hc hc2 hf hr hr2
        by_cases hxy : xs.getD k 0 = ys.getD k 0
        · have HXY := Lib.hid hxy
          have hbf : (xs.getD k 0 != ys.getD k 0) = false := by rw [hxy]; exact bne_self_eq_false _
          clear hxy
          generalize hx : xs.getD k 0 = x at *
          generalize hy : ys.getD k 0 = y at *
          have HXx := Lib.hid hx
          have HYy := Lib.hid hy
          clear hx hy
          go_wp2
          go_quiet (fail)
          go_wp2
          go_roundw
          case rel => exact ⟨k + 1, by omega, by go_num, fun j hj => by
            rcases Nat.lt_or_ge j k with h | h
            · exact HF.out j h
            · obtain rfl : j = k := by omega
              rw [HXx.out, HYy.out, HXY.out], hq.trans (below_drewN' (Below.refl _ _) _), (HX.out _).1, (HX.out _).2⟩
          case measure => simp [intOf]; omega
        · have HN := Lib.hid (show intsB xs ys = false from decide_eq_false fun e => hxy (by rw [e]))
          have hbt : (xs.getD k 0 != ys.getD k 0) = true := by simpa using hxy
          clear hxy
          generalize xs.getD k 0 = x at *
          generalize ys.getD k 0 = y at *
          go_wp2
          go_quiet (fail)
          go_wp2
          go_ret
          exact ⟨ret_bool HN.out.symm, hq.trans (below_drewN' (Below.refl _ _) _)⟩
      · have HN := Lib.hid (show intsB xs ys = true from decide_eq_true (list_eq_of 0 HL.out fun j hj => hf j (by omega)))
        clear hf
        go_wp2
        go_ret
        exact ⟨ret_bool HN.out.symm, hq⟩
  · have hne : ((xs.length : Int) != (ys.length : Int)) = true := by simp; omega
    have HN := Lib.hid (show intsB xs ys = false from decide_eq_false fun e => hl (by rw [e]))
    clear hl
    go_enter Tryz.func78, Tryz.ntmps78
    go_wp2
    go_ret
    exact ⟨ret_bool HN.out.symm, pr⟩

set_option maxHeartbeats 1000000 in
theorem texts_any (B : Nat) (A A2 : Option Addr) (c c2 : Nat) (xs ys : List ByteArray) (w : World) (hr : RowIn Value.string B w A xs) (hr2 : RowIn Value.string B w A2 ys) (hm : xs.length ≤ 100000) :
    Calls Tryz.prog 30 #[.slice A xs.length c, .slice A2 ys.length c2] w fun e w' => e = .returned (.bool (textsB xs ys)) ∧ Below w.heap.size w w' := by
  by_cases hl : xs.length = ys.length
  · have hne : ((xs.length : Int) != (ys.length : Int)) = false := by simp [hl]
    have HL := Lib.hid hl
    have hle : xs.length ≤ ys.length := by omega
    have hge : ys.length ≤ xs.length := by omega
    have HR := Lib.hid hr
    have HR2 := Lib.hid hr2
    clear hl hr hr2
    go_enter Tryz.func30, Tryz.ntmps30
    go_wp2
    go_loopw [5] (fun i wr => ∃ k : Nat, k ≤ xs.length ∧ i = .int .i64 k ∧ (∀ j, j < k → xs.getD j default = ys.getD j default) ∧ Below w.heap.size w wr ∧ RowIn Value.string B wr A xs ∧ RowIn Value.string B wr A2 ys) (fun i _ => xs.length - (intOf i).toNat)
    case atStart => exact ⟨0, Nat.zero_le _, rfl, fun j hj => by omega, pr, HR.out, HR2.out⟩
    case round =>
      obtain ⟨k, hk, rfl, hf, hq, hr, hr2⟩ := hrel
      by_cases hlt : k < xs.length
      · obtain ⟨b, off, rfl, hb, hc⟩ := hr.at_ hlt
        obtain ⟨b2, off2, rfl, hb2, hc2⟩ := hr2.at_ (k := k) (by omega)
        have hcell := hc k hlt
        have hcell2 := hc2 k (by omega)
        have HF := Lib.hid hf
        have HX := Lib.hid (show ∀ nq, RowIn Value.string B (wr.drewN nq) (some ⟨b, off, none⟩) xs ∧ RowIn Value.string B (wr.drewN nq) (some ⟨b2, off2, none⟩) ys from fun nq => ⟨hr, hr2⟩)
        have k0 : (0 : Int) ≤ (k : Int) := by omega
        have k1 : (k : Int) < (xs.length : Int) := by omega
        have k2 : (k : Int) < (ys.length : Int) := by omega
        have HX0 := Lib.hid (show ∀ e, textsB xs ys = e ↔ decide (xs = ys) = e from fun _ => Iff.rfl)
        clear hc hc2 hf hr hr2
        by_cases hxy : xs.getD k default = ys.getD k default
        · have HXY := Lib.hid hxy
          have hbf : ((xs.getD k default).toList == (ys.getD k default).toList) = true := by rw [hxy]; exact beq_self_eq_true _
          clear hxy
          generalize hx : xs.getD k default = x at *
          generalize hy : ys.getD k default = y at *
          have HXx := Lib.hid hx
          have HYy := Lib.hid hy
          clear hx hy
          go_wp2
          go_quiet (fail)
          go_wp2
          go_roundw
          case rel => exact ⟨k + 1, by omega, by go_num, fun j hj => by
            rcases Nat.lt_or_ge j k with h | h
            · exact HF.out j h
            · obtain rfl : j = k := by omega
              rw [HXx.out, HYy.out, HXY.out], hq.trans (below_drewN' (Below.refl _ _) _), (HX.out _).1, (HX.out _).2⟩
          case measure => simp [intOf]; omega
        · have HN := Lib.hid (show textsB xs ys = false from decide_eq_false fun e => hxy (by rw [e]))
          have hbt : ((xs.getD k default).toList == (ys.getD k default).toList) = false := (Lib.bytes_beq_false_iff _ _).2 hxy
          clear hxy
          generalize xs.getD k default = x at *
          generalize ys.getD k default = y at *
          go_wp2
          go_quiet (fail)
          go_wp2
          go_ret
          exact ⟨ret_bool HN.out.symm, hq.trans (below_drewN' (Below.refl _ _) _)⟩
      · have HN := Lib.hid (show textsB xs ys = true from decide_eq_true (list_eq_of default HL.out fun j hj => hf j (by omega)))
        clear hf
        go_wp2
        go_ret
        exact ⟨ret_bool HN.out.symm, hq⟩
  · have hne : ((xs.length : Int) != (ys.length : Int)) = true := by simp; omega
    have HN := Lib.hid (show textsB xs ys = false from decide_eq_false fun e => hl (by rw [e]))
    clear hl
    go_enter Tryz.func30, Tryz.ntmps30
    go_wp2
    go_ret
    exact ⟨ret_bool HN.out.symm, pr⟩

end Go.Proofs.YtbojmcopagbheaaGreatDoor
end

section
namespace Go.Proofs.YtbojmcopagbheaaGreatDoor
open Go.RowKit
attribute [local go_sem ↓] Go.wp_at_zero Go.wp_at_succ

set_option maxHeartbeats 4000000 in
set_option maxRecDepth 100000 in
theorem refSameTask_any (m le re : Int) (xs : List Int) (A1 A2 : Option Addr) (c1 c2 : Nat) (w : World) (h1 : IntsIn w.heap.size w A1 xs) (h2 : IntsIn w.heap.size w A2 xs) (hl : xs.length ≤ 100000) :
    Calls Tryz.prog 40 #[.agg #[.int .i64 m, .int .i64 le, .int .i64 re, .slice A1 xs.length c1], .agg #[.int .i64 m, .int .i64 le, .int .i64 re, .slice A2 xs.length c2]] w fun e w' => e = .returned (.bool true) ∧ Below w.heap.size w w' := by
  have e0 : intsB xs xs = true := by simp [intsB]
  have HI := fun w' (hb : Below w.heap.size w w') => ints_any w.heap.size A1 A2 c1 c2 xs xs w' (h1.below hb) (h2.below hb) hl
  rw [e0] at HI
  have HI := Lib.hid HI
  clear e0 h1 h2 hl
  generalize xs.length = n at *
  go_enter Tryz.func40, Tryz.ntmps40
  go_wp2_with (go_at_call 78; (with_reducible refine (HI.out _ (by first | exact pa (pa pr) | exact pa pr | exact pr)).mono ?_); rintro e w1 ⟨rfl, hb1⟩)
  go_ret
  exact ⟨rfl, pt (by first | exact pa (pa pr) | exact pa pr | exact pr) hb1⟩

end Go.Proofs.YtbojmcopagbheaaGreatDoor
end
