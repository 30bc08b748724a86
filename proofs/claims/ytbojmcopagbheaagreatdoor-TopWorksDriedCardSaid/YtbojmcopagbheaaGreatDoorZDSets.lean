/- Contracts: the conditions on strings that are handed to slices.ContainsFunc, and ContainsFunc at them; words of the specification of lots. -/
import Derived.Test.YtbojmcopagbheaaGreatDoorZCFam
namespace Go.Proofs.YtbojmcopagbheaaGreatDoor
open Go.RowKit

/-- All that was there is as it was. -/
def Kept (W W' : World) : Prop := Below W.heap.size W W'

theorem first3' (b c : Nat) (x y z : Int) (w : World) (h0 : w.cell? ⟨b, 0, none⟩ = some (.int .i64 x)) (h1 : w.cell? ⟨b, 1, none⟩ = some (.int .i64 y)) (h2 : w.cell? ⟨b, 2, none⟩ = some (.int .i64 z)) (v : Int) (hv : firstV [x, y, z] = v) :
    Calls Tryz.prog 45 #[.slice (some ⟨b, 0, none⟩) 3 c] w fun e w' => e = .returned (.int .i64 v) ∧ w = w' :=
  hv ▸ first_any (b + 1) _ c [x, y, z] w (.inr ⟨b, 0, rfl, by omega, fun j hj => by
    have : j = 0 ∨ j = 1 ∨ j = 2 := by simp at hj; omega
    rcases this with rfl | rfl | rfl
    · simpa using h0
    · simpa using h1
    · simpa using h2⟩) (by simp)

set_option maxHeartbeats 400000 in
theorem indexFuncS_open (B : Nat) (A : Option Addr) (n c : Nat) (xs : List ByteArray) (p : ByteArray → Bool) (q1 : Value) (w : World) (hr : RowIn Value.string B w A xs) (hn : xs.length = n) (hm : n ≤ 1000)
    (hcb : ∀ j, j < xs.length → Calls Tryz.prog 107 #[.string (xs.getD j default), q1] w fun e w' => e = .returned (.bool (p (xs.getD j default))) ∧ w = w') :
    Calls Tryz.prog 108 #[.slice A n c, .func (.func 107) #[] #[q1]] w fun e w' => e = .returned (.int .i64 (findG p xs 0)) ∧ w = w' := by
  subst hn
  have HC := Lib.hid hcb
  clear hcb
  go_enter Tryz.func108, Tryz.ntmps108
  go_wp2
  go_loop [8] (fun i => ∃ k : Nat, k ≤ xs.length ∧ i = .int .i64 k ∧ findG p xs 0 = findG p xs k) (fun i => xs.length - (intOf i).toNat)
  case atStart => exact ⟨0, Nat.zero_le _, rfl, rfl⟩
  case round =>
    obtain ⟨k, hk, rfl, hf⟩ := hrel
    by_cases hlt : k < xs.length
    · obtain ⟨b, off, rfl, hb, hc⟩ := hr.at_ hlt
      have hcell := hc k hlt
      have HF := Lib.hid (hf.trans (findG_step p xs k default hlt))
      have HCall := Lib.hid (HC.out k hlt)
      clear hc hf hr
      generalize xs.getD k default = y at *
      cases hxy : p y
      · have HX := Lib.hid hxy
        go_wp2_with (go_at_call 107; refine HCall.out.mono ?_; rintro e w' ⟨rfl, rfl⟩)
        go_round
        case rel => exact ⟨k + 1, by omega, by go_num, by rw [HF.out, HX.out]; simp⟩
        case measure => simp [intOf]; omega
      · have HX := Lib.hid hxy
        go_wp2_with (go_at_call 107; refine HCall.out.mono ?_; rintro e w' ⟨rfl, rfl⟩)
        go_ret
        exact ⟨ret_int (by rw [HF.out, HX.out]; simp), rfl⟩
    · have HF := Lib.hid (show findG p xs 0 = -1 by rw [hf]; exact findG_end _ _ _ (by omega))
      clear hf
      go_wp2
      go_ret
      exact ⟨ret_int HF.out.symm, rfl⟩

theorem containsFuncS_open (B : Nat) (A : Option Addr) (n c : Nat) (xs : List ByteArray) (p : ByteArray → Bool) (q1 : Value) (w : World) (hr : RowIn Value.string B w A xs) (hn : xs.length = n) (hm : n ≤ 1000)
    (hcb : ∀ j, j < xs.length → Calls Tryz.prog 107 #[.string (xs.getD j default), q1] w fun e w' => e = .returned (.bool (p (xs.getD j default))) ∧ w = w') :
    Calls Tryz.prog 72 #[.slice A n c, .func (.func 107) #[] #[q1]] w fun e w' => e = .returned (.bool (anyG p xs)) ∧ w = w' := by
  have H := Lib.hid (findG_any p xs)
  have HI := Lib.hid (indexFuncS_open B A n c xs p q1 w hr hn hm hcb)
  clear hcb hr hn
  go_enter Tryz.func72, Tryz.ntmps72
  go_wp2_with (go_at_call 108; refine HI.out.mono ?_; rintro e w' ⟨rfl, rfl⟩)
  go_ret
  exact ⟨ret_bool H.out, rfl⟩
set_option maxHeartbeats 400000 in
theorem indexFuncS_suspect (B : Nat) (A : Option Addr) (n c : Nat) (xs : List ByteArray) (p : ByteArray → Bool) (q1 q2 : Value) (w : World) (hr : RowIn Value.string B w A xs) (hn : xs.length = n) (hm : n ≤ 1000)
    (hcb : ∀ j, j < xs.length → Calls Tryz.prog 73 #[.string (xs.getD j default), q1, q2] w fun e w' => e = .returned (.bool (p (xs.getD j default))) ∧ w = w') :
    Calls Tryz.prog 108 #[.slice A n c, .func (.func 73) #[] #[q1, q2]] w fun e w' => e = .returned (.int .i64 (findG p xs 0)) ∧ w = w' := by
  subst hn
  have HC := Lib.hid hcb
  clear hcb
  go_enter Tryz.func108, Tryz.ntmps108
  go_wp2
  go_loop [8] (fun i => ∃ k : Nat, k ≤ xs.length ∧ i = .int .i64 k ∧ findG p xs 0 = findG p xs k) (fun i => xs.length - (intOf i).toNat)
  case atStart => exact ⟨0, Nat.zero_le _, rfl, rfl⟩
  case round =>
    obtain ⟨k, hk, rfl, hf⟩ := hrel
    by_cases hlt : k < xs.length
    · obtain ⟨b, off, rfl, hb, hc⟩ := hr.at_ hlt
      have hcell := hc k hlt
      have HF := Lib.hid (hf.trans (findG_step p xs k default hlt))
      have HCall := Lib.hid (HC.out k hlt)
      clear hc hf hr
      generalize xs.getD k default = y at *
      cases hxy : p y
      · have HX := Lib.hid hxy
        go_wp2_with (go_at_call 73; refine HCall.out.mono ?_; rintro e w' ⟨rfl, rfl⟩)
        go_round
        case rel => exact ⟨k + 1, by omega, by go_num, by rw [HF.out, HX.out]; simp⟩
        case measure => simp [intOf]; omega
      · have HX := Lib.hid hxy
        go_wp2_with (go_at_call 73; refine HCall.out.mono ?_; rintro e w' ⟨rfl, rfl⟩)
        go_ret
        exact ⟨ret_int (by rw [HF.out, HX.out]; simp), rfl⟩
    · have HF := Lib.hid (show findG p xs 0 = -1 by rw [hf]; exact findG_end _ _ _ (by omega))
      clear hf
      go_wp2
      go_ret
      exact ⟨ret_int HF.out.symm, rfl⟩

theorem containsFuncS_suspect (B : Nat) (A : Option Addr) (n c : Nat) (xs : List ByteArray) (p : ByteArray → Bool) (q1 q2 : Value) (w : World) (hr : RowIn Value.string B w A xs) (hn : xs.length = n) (hm : n ≤ 1000)
    (hcb : ∀ j, j < xs.length → Calls Tryz.prog 73 #[.string (xs.getD j default), q1, q2] w fun e w' => e = .returned (.bool (p (xs.getD j default))) ∧ w = w') :
    Calls Tryz.prog 72 #[.slice A n c, .func (.func 73) #[] #[q1, q2]] w fun e w' => e = .returned (.bool (anyG p xs)) ∧ w = w' := by
  have H := Lib.hid (findG_any p xs)
  have HI := Lib.hid (indexFuncS_suspect B A n c xs p q1 q2 w hr hn hm hcb)
  clear hcb hr hn
  go_enter Tryz.func72, Tryz.ntmps72
  go_wp2_with (go_at_call 108; refine HI.out.mono ?_; rintro e w' ⟨rfl, rfl⟩)
  go_ret
  exact ⟨ret_bool H.out, rfl⟩

/-- Whether a name is missing. -/
def goneB (F : Fam) (z : ByteArray) : Bool := (F z).isNone
/-- The ingredients of a name. -/
def innerOf (F : Fam) (z : ByteArray) : ByteArray → Bool := (F z).getD fun _ => false

theorem openLots1_any (b fm B k cap : Nat) (F : Fam) (z : ByteArray) (w : World) (h1 : w.cell? ⟨b, 1, none⟩ = some (.map (some fm))) (hF : FromIs B w fm F k cap) (hz : z.size ≤ 1000) :
    Calls Tryz.prog 107 #[.string z, .pointer (some ⟨b, 0, none⟩)] w fun e w' => e = .returned (.bool (goneB F z)) ∧ w = w' := by
  have hnil := fun (W : World) (r : Option Nat) => run_eql_map_nil (P := Tryz.prog) W 125 9 4 r Tryz.underlying125
  cases h : F z with
  | none =>
    have hl := hF.look_none hz h
    have HR := Lib.hid (show goneB F z = true by unfold goneB; rw [h]; rfl)
    clear hF h
    go_enter Tryz.func107, Tryz.ntmps107
    go_wp2
    go_ret
    exact ⟨ret_bool HR.out.symm, rfl⟩
  | some own =>
    obtain ⟨ib, hl0, _⟩ := hF.look_some hz h
    have hl := hl0 w (Below.refl _ _)
    have HR := Lib.hid (show goneB F z = false by unfold goneB; rw [h]; rfl)
    clear hF h hl0
    go_enter Tryz.func107, Tryz.ntmps107
    go_wp2
    go_ret
    exact ⟨ret_bool HR.out.symm, rfl⟩

/-- Whether z is the lot itself, or an ingredient. -/
def touchB (F : Fam) (n z : ByteArray) : Bool := sameS z n || innerOf F n z

theorem suspect1_any (xb fb fm B k cap : Nat) (F : Fam) (n z : ByteArray) (w : World) (h0 : w.cell? ⟨xb, 0, none⟩ = some (.string n)) (h1 : w.cell? ⟨fb, 1, none⟩ = some (.map (some fm))) (hF : FromIs B w fm F k cap) (hn : n.size ≤ 1000) (hz : z.size ≤ 1000) (hin : goneB F n = false) :
    Calls Tryz.prog 73 #[.string z, .pointer (some ⟨xb, 0, none⟩), .pointer (some ⟨fb, 0, none⟩)] w fun e w' => e = .returned (.bool (touchB F n z)) ∧ w = w' := by
  cases h : F n with
  | none => unfold goneB at hin; rw [h] at hin; cases hin
  | some own =>
    obtain ⟨ib, hl0, hs, _⟩ := hF.look_some hn h
    have hl := hl0 w (Below.refl _ _)
    have hl2 := hs.look hz
    have hR : touchB F n z = (sameS z n || own z) := by unfold touchB innerOf; rw [h]; rfl
    cases hsame : sameS z n with
    | true =>
      have hb : (z.toList == n.toList) = true := by rw [← sameS_list]; exact hsame
      rw [hsame] at hR
      have HR := Lib.hid hR
      clear hF h hl0 hR hsame
      go_enter Tryz.func73, Tryz.ntmps73
      go_wp2
      go_ret
      exact ⟨ret_bool (by rw [HR.out]; rfl), rfl⟩
    | false =>
      have hb : (z.toList == n.toList) = false := by rw [← sameS_list]; exact hsame
      rw [hsame] at hR
      have HR := Lib.hid hR
      clear hF h hl0 hR hsame
      go_enter Tryz.func73, Tryz.ntmps73
      go_wp2
      go_ret
      exact ⟨ret_bool (by rw [HR.out]; rfl), rfl⟩

/-- What has been made from some, with what these were made from. -/
def ownV (F : Fam) (made : List ByteArray) : ByteArray → Bool := made.foldl (fun own y z => own z || sameS z y || innerOf F y z) fun _ => false
theorem ownV_succ (F : Fam) (made : List ByteArray) (j : Nat) (h : j < made.length) : ownV F (made.take (j + 1)) = fun z => ownV F (made.take j) z || sameS z (made.getD j default) || innerOf F (made.getD j default) z := by
  unfold ownV
  have e : made.getD j default = made[j] := by simp [List.getD, h]
  rw [List.take_succ_eq_append_getElem h, List.foldl_append, e]
  rfl
/-- The families of the first lots. -/
def fromV (xs : List Lot) : Nat → Fam
  | 0 => fun _ => none
  | i + 1 => fun z => if sameS z (xs.getD i default).name then some (ownV (fromV xs i) (xs.getD i default).made) else fromV xs i z
def lotsE1 (xs : List Lot) (i : Nat) : Int := firstV [lotE (xs.getD i default), unlessV (goneB (fromV xs i) (xs.getD i default).name) 5, unlessV (!anyG (goneB (fromV xs i)) (xs.getD i default).made) 6]
def openLotsV (xs : List Lot) : Nat × Int := if 20 < xs.length then (0, 8) else scan (lotsE1 xs) xs.length 0

/-- How many entries a set has at most. -/
def capV (i : Nat) : Nat := 6 * 7 ^ i
theorem capV_succ (i : Nat) : capV (i + 1) = 7 * capV i := by unfold capV; rw [Nat.pow_succ]; omega
theorem capV_six (i : Nat) : 6 ≤ capV i := by unfold capV; have := Nat.pow_pos (n := i) (show 0 < 7 by decide); omega
theorem roomy {i k : Nat} (hi : i ≤ 19) (hk : k ≤ 7 * capV i + 7) : k < 1000000000000000000 := by
  have h : (7 : Nat) ^ i ≤ 7 ^ 19 := Nat.pow_le_pow_right (by decide) hi
  have h2 : (7 : Nat) ^ 19 = 11398895185373143 := by decide
  unfold capV at hk
  omega

theorem lotE_made {x : Lot} (h : lotE x = 0) : x.made.length ≤ 6 ∧ nameB x.name = true := by
  unfold lotE at h
  by_cases h1 : lotE1 x = 0
  · obtain ⟨h2, h3⟩ := firstV_zero.1 h1
    have h4 := (unless_ne (by decide)).1 (firstV_zero.1 h3).1
    have h5 := (unless_ne (by decide)).1 h2
    exact ⟨by have := of_decide_eq_true h4; omega, h5⟩
  · rw [if_pos h1] at h
    exact absurd h h1

end Go.Proofs.YtbojmcopagbheaaGreatDoor
