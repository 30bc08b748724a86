/- Contracts: which pattern a string begins with; the winding of a string.
Plain facts for the specification's Cut.
Contract of the specification's Number: a number of at most seven digits, or none. -/
import Derived.Test.YtpdkbhjcpddnpaaGreatDoorNF
import Derived.Test.YtpdkbhjcpddnpaaGreatDoorN5
import Derived.Deep.DrawnRows

section
namespace Go.Proofs.YtpdkbhjcpddnpaaGreatDoor
open Go.RowKit
attribute [local go_sem ↓] Go.wp_at_zero Go.wp_at_succ

theorem prefix_one (l : List UInt8) (c : UInt8) : Lib.hasPrefix l [c] = (l.head? == some c) := by
  cases l with
  | nil => rfl
  | cons b r => unfold Lib.hasPrefix; simp [List.isPrefixOf, Bool.beq_comm]

set_option maxHeartbeats 1000000 in
set_option maxRecDepth 100000 in
theorem wclos_any (l : List UInt8) (c : UInt8) (x y z : Int) (b : Nat) (w : World) (hc : w.cell? ⟨b, 0, none⟩ = some (.string ⟨l.toArray⟩)) :
    Calls Tryz.prog 112 #[.agg #[.string ⟨#[c]⟩, .int .i64 x, .int .i64 y, .int .i64 z], .pointer (some ⟨b, 0, none⟩)] w fun e w' => e = .returned (.bool (l.head? == some c)) ∧ Below w.heap.size w w' := by
  have hp := prefix_one l c
  have hb : b < w.heap.size := World.block_lt_of_cell? w _ hc
  generalize (l.head? == some c) = V at *
  have HP := Lib.hid hp
  clear hp
  go_enter Tryz.func112, Tryz.ntmps112
  go_wp2_with (go_at_call 113; (with_reducible refine (Tryz.strings_HasPrefix _ _ _).mono ?_); rintro e w1 ⟨rfl, rfl⟩)
  go_ret
  exact ⟨by rw [← HP.out]; rfl, pa pr⟩

/-- The number of the pattern, or -1. -/
def patR (l : List UInt8) : Int := if l.head? = some 121 then 0 else if l.head? = some 100 then 1 else if l.head? = some 122 then 2 else -1
theorem patR_cases (l : List UInt8) : ((l.head? == some 121) = true ∧ patR l = 0) ∨ ((l.head? == some 121) = false ∧ (l.head? == some 100) = true ∧ patR l = 1) ∨ ((l.head? == some 121) = false ∧ (l.head? == some 100) = false ∧ (l.head? == some 122) = true ∧ patR l = 2) ∨ ((l.head? == some 121) = false ∧ (l.head? == some 100) = false ∧ (l.head? == some 122) = false ∧ patR l = -1) := by
  unfold patR
  by_cases h1 : l.head? = some 121
  · exact .inl ⟨by simp [h1], by rw [if_pos h1]⟩
  · by_cases h2 : l.head? = some 100
    · exact .inr (.inl ⟨by simp [h2], by simp [h2], by rw [if_neg h1, if_pos h2]⟩)
    · by_cases h3 : l.head? = some 122
      · exact .inr (.inr (.inl ⟨by simp [h3], by simp [h3], by simp [h3], by rw [if_neg h1, if_neg h2, if_pos h3]⟩))
      · exact .inr (.inr (.inr ⟨by simp [h1], by simp [h2], by simp [h3], by rw [if_neg h1, if_neg h2, if_neg h3]⟩))
theorem pat_all {w : World} (h : PatIn w) : w.cell? ⟨0, 0, none⟩ = some (.string ⟨#[121]⟩) ∧ w.cell? ⟨0, 1, none⟩ = some (.int .i64 1) ∧ w.cell? ⟨0, 2, none⟩ = some (.int .i64 (-1)) ∧ w.cell? ⟨0, 3, none⟩ = some (.int .i64 0) ∧ w.cell? ⟨0, 4, none⟩ = some (.string ⟨#[100]⟩) ∧ w.cell? ⟨0, 5, none⟩ = some (.int .i64 1) ∧ w.cell? ⟨0, 6, none⟩ = some (.int .i64 0) ∧ w.cell? ⟨0, 7, none⟩ = some (.int .i64 0) ∧ w.cell? ⟨0, 8, none⟩ = some (.string ⟨#[122]⟩) ∧ w.cell? ⟨0, 9, none⟩ = some (.int .i64 1) ∧ w.cell? ⟨0, 10, none⟩ = some (.int .i64 (-2)) ∧ w.cell? ⟨0, 11, none⟩ = some (.int .i64 1) :=
  ⟨h.2 0 (by decide), h.2 1 (by decide), h.2 2 (by decide), h.2 3 (by decide), h.2 4 (by decide), h.2 5 (by decide), h.2 6 (by decide), h.2 7 (by decide), h.2 8 (by decide), h.2 9 (by decide), h.2 10 (by decide), h.2 11 (by decide)⟩

set_option maxHeartbeats 2000000 in
set_option maxRecDepth 100000 in
theorem patIndex_any (l : List UInt8) (b : Nat) (w : World) (hP : PatIn w) (hb : b < w.heap.size) (hc : w.cell? ⟨b, 0, none⟩ = some (.string ⟨l.toArray⟩)) :
    Calls Tryz.prog 111 #[.slice (some ⟨0, 0, none⟩) 3 3, .func (.func 112) #[] #[.pointer (some ⟨b, 0, none⟩)]] w fun e w' => e = .returned (.int .i64 (patR l)) ∧ Below w.heap.size w w' := by
  have hcase := patR_cases l
  have HC1 := fun w' (h : Below w.heap.size w w') c x y z (q : Bool) (hq : (l.head? == some c) = q) => show Calls Tryz.prog 112 #[.agg #[.string ⟨#[c]⟩, .int .i64 x, .int .i64 y, .int .i64 z], .pointer (some ⟨b, 0, none⟩)] w' fun e w'' => e = .returned (.bool q) ∧ Below w.heap.size w w'' from (wclos_any l c x y z b w' (((bcell h).1 _ _ hb).trans hc)).mono fun e w'' ⟨h1, h2⟩ => ⟨by rw [h1, hq], h.trans (h2.mono h.size)⟩
  have HW := Lib.hid HC1
  have HP := Lib.hid (fun w' (h : Below w.heap.size w w') => hP.below h)
  generalize patR l = R at *
  generalize hp0 : (l.head? == some 121) = p0 at *
  generalize hp1 : (l.head? == some 100) = p1 at *
  generalize hp2 : (l.head? == some 122) = p2 at *
  have H0 := Lib.hid hp0
  have H1 := Lib.hid hp1
  have H2 := Lib.hid hp2
  obtain ⟨c0, c1, c2, c3, c4, c5, c6, c7, c8, c9, c10, c11⟩ := pat_all hP
  clear HC1 hp0 hp1 hp2 hc hP
  have HB0 := Lib.hid (Below.refl w.heap.size w)
  rcases hcase with ⟨rfl, rfl⟩ | ⟨rfl, rfl, rfl⟩ | ⟨rfl, rfl, rfl, rfl⟩ | ⟨rfl, rfl, rfl, rfl⟩
  · go_enter Tryz.func111, Tryz.ntmps111
    go_wp2
    refine wp_loop_rounds 5 ?_
    rw [rounds_succ]
    go_wp2_with (go_at_call 112; (with_reducible refine (HW.out _ HB0.out _ _ _ _ _ H0.out).mono ?_); rintro e w1 ⟨rfl, hB1⟩)
    go_ret
    exact ⟨rfl, hB1⟩
  · go_enter Tryz.func111, Tryz.ntmps111
    go_wp2
    refine wp_loop_rounds 5 ?_
    rw [rounds_succ]
    go_wp2_with (go_at_call 112; (with_reducible refine (HW.out _ HB0.out _ _ _ _ _ H0.out).mono ?_); rintro e w1 ⟨rfl, hB1⟩)
    have HB1 := Lib.hid hB1
    clear hB1 c0 c1 c2 c3 c4 c5 c6 c7 c8 c9 c10 c11
    obtain ⟨c0, c1, c2, c3, c4, c5, c6, c7, c8, c9, c10, c11⟩ := pat_all (HP.out _ HB1.out)
    rw [rounds_succ]
    go_wp2_with (go_at_call 112; (with_reducible refine (HW.out _ HB1.out _ _ _ _ _ H1.out).mono ?_); rintro e w2 ⟨rfl, hB2⟩)
    go_ret
    exact ⟨rfl, hB2⟩
  · go_enter Tryz.func111, Tryz.ntmps111
    go_wp2
    refine wp_loop_rounds 5 ?_
    rw [rounds_succ]
    go_wp2_with (go_at_call 112; (with_reducible refine (HW.out _ HB0.out _ _ _ _ _ H0.out).mono ?_); rintro e w1 ⟨rfl, hB1⟩)
    have HB1 := Lib.hid hB1
    clear hB1 c0 c1 c2 c3 c4 c5 c6 c7 c8 c9 c10 c11
    obtain ⟨c0, c1, c2, c3, c4, c5, c6, c7, c8, c9, c10, c11⟩ := pat_all (HP.out _ HB1.out)
    rw [rounds_succ]
    go_wp2_with (go_at_call 112; (with_reducible refine (HW.out _ HB1.out _ _ _ _ _ H1.out).mono ?_); rintro e w2 ⟨rfl, hB2⟩)
    have HB2 := Lib.hid hB2
    clear hB2 c0 c1 c2 c3 c4 c5 c6 c7 c8 c9 c10 c11
    obtain ⟨c0, c1, c2, c3, c4, c5, c6, c7, c8, c9, c10, c11⟩ := pat_all (HP.out _ HB2.out)
    rw [rounds_succ]
    go_wp2_with (go_at_call 112; (with_reducible refine (HW.out _ HB2.out _ _ _ _ _ H2.out).mono ?_); rintro e w3 ⟨rfl, hB3⟩)
    go_ret
    exact ⟨rfl, hB3⟩
  · go_enter Tryz.func111, Tryz.ntmps111
    go_wp2
    refine wp_loop_rounds 5 ?_
    rw [rounds_succ]
    go_wp2_with (go_at_call 112; (with_reducible refine (HW.out _ HB0.out _ _ _ _ _ H0.out).mono ?_); rintro e w1 ⟨rfl, hB1⟩)
    have HB1 := Lib.hid hB1
    clear hB1 c0 c1 c2 c3 c4 c5 c6 c7 c8 c9 c10 c11
    obtain ⟨c0, c1, c2, c3, c4, c5, c6, c7, c8, c9, c10, c11⟩ := pat_all (HP.out _ HB1.out)
    rw [rounds_succ]
    go_wp2_with (go_at_call 112; (with_reducible refine (HW.out _ HB1.out _ _ _ _ _ H1.out).mono ?_); rintro e w2 ⟨rfl, hB2⟩)
    have HB2 := Lib.hid hB2
    clear hB2 c0 c1 c2 c3 c4 c5 c6 c7 c8 c9 c10 c11
    obtain ⟨c0, c1, c2, c3, c4, c5, c6, c7, c8, c9, c10, c11⟩ := pat_all (HP.out _ HB2.out)
    rw [rounds_succ]
    go_wp2_with (go_at_call 112; (with_reducible refine (HW.out _ HB2.out _ _ _ _ _ H2.out).mono ?_); rintro e w3 ⟨rfl, hB3⟩)
    have HB3 := Lib.hid hB3
    clear hB3 c0 c1 c2 c3 c4 c5 c6 c7 c8 c9 c10 c11
    rw [rounds_succ]
    go_wp2
    go_ret
    exact ⟨rfl, HB3.out⟩

end Go.Proofs.YtpdkbhjcpddnpaaGreatDoor
end

section
namespace Go.Proofs.YtpdkbhjcpddnpaaGreatDoor
open Go.Lib

/-- What stands ahead is put to the first piece. -/
def addHead (x : List UInt8) : List (List UInt8) → List (List UInt8)
  | [] => [x]
  | y :: r => (x ++ y) :: r
theorem extract_list (l : List UInt8) (a b : Nat) : (⟨l.toArray⟩ : ByteArray).extract a b = ⟨((l.drop a).take (b - a)).toArray⟩ := Go.ByteArray.extract_mk l a b

end Go.Proofs.YtpdkbhjcpddnpaaGreatDoor
end

section
namespace Go.Proofs.YtpdkbhjcpddnpaaGreatDoor
open Go.RowKit
attribute [local go_sem ↓] Go.wp_at_zero Go.wp_at_succ

def numRes (o : Option Int) : Value := match o with
  | none => .tuple #[.int .i64 0, .bool false]
  | some k => .tuple #[.int .i64 k, .bool true]
theorem index_lit (l : List UInt8) (k : Nat) (hk : k < l.length) (i : Int) (hi : i = (k : Int)) (W : World) : (Instr.index 9 (.string ⟨l.toArray⟩) (.int .i64 i)).run Tryz.prog W = .ok (.int .u8 (byteL l k)) W := by
  subst hi
  exact index_byteL l k hk W
theorem drop_head {l : List UInt8} {k : Nat} (hk : k < l.length) {c : Nat} (hc : c < 256) : (l.drop k).head? = some (UInt8.ofNat c) ↔ byteL l k = (c : Int) := by
  rw [drop_byte hk, List.head?_cons, Option.some.injEq, byte_is hc]

end Go.Proofs.YtpdkbhjcpddnpaaGreatDoor
end
