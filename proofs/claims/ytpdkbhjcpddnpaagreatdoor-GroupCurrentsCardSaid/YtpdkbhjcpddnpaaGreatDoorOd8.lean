/- Contracts of lines: their sequence.
Contracts: exported functions on windings, lines and phasors. Printed by a program (gen_exp.py).
Contracts: exported functions on phasors: products, squares, hours; the zero voltage; the sequence.
Contracts of the specification on phasors: errors, products, squares, hours. -/
import Derived.Test.YtpdkbhjcpddnpaaGreatDoorOc3
import Derived.Test.YtpdkbhjcpddnpaaGreatDoorOc4
import Derived.Deep.QuietTactic
import Derived.BigQuiet

section
namespace Go.Proofs.YtpdkbhjcpddnpaaGreatDoor
open Go.RowKit
attribute [local go_sem ↓] Go.wp_at_zero Go.wp_at_succ

def phB (p q r s : Int) : Bool := p == r && q == s
theorem ph_eql (p q r s : Int) (W : World) : (binOp .eql 157 (.agg #[.int .i64 p, .int .i64 q]) (.agg #[.int .i64 r, .int .i64 s])).run Tryz.prog W = .ok (.bool (phB p q r s)) W := by
  simp [go_sem, phB]
  by_cases h1 : p = r <;> by_cases h2 : q = s <;> simp [h1, h2]
attribute [local go_sem ↓ high] ph_eql


end Go.Proofs.YtpdkbhjcpddnpaaGreatDoor
end

section
namespace Go.Proofs.YtpdkbhjcpddnpaaGreatDoor
open Go.RowKit
attribute [local go_sem ↓] Go.wp_at_zero Go.wp_at_succ

theorem apiPhasor_size : (Tryz.prog.info? 24).map (·.size) = some 2 := by kernel_rfl
set_option maxHeartbeats 4000000 in
theorem LinesOf_ok (k t s : Int) (r : Bool) (hu : (Wind.mk k t s r).ok) (L : L3) (hL : linesV ⟨k, t, s, r⟩ = L) (w : World) (hP : PatIn w) :
    Calls Tryz.prog 36 #[.agg #[.int .i64 k, .int .i64 t, .int .i64 s, .bool r]] w fun z w' => z = .returned (.tuple #[.agg #[.int .i64 L.x.a, .int .i64 L.x.b, .int .i64 L.x.c, .int .i64 L.y.a, .int .i64 L.y.b, .int .i64 L.y.c, .int .i64 L.z.a, .int .i64 L.z.b, .int .i64 L.z.c], .int .i64 0]) ∧ Below w.heap.size w w' := by
  have h0 := windE_of hu
  have HC := Lib.hid (checkWinding_any k t s r)
  rw [h0] at HC
  have HL := Lib.hid (lines_any k t s r hu L hL)
  have HP := Lib.hid hP
  clear hu hL hP h0
  go_enter Tryz.func36, Tryz.ntmps36
  go_wp2_with (first
    | (go_at_call 77; refine (HC.out _).mono ?_; rintro e w1 ⟨rfl, hb1⟩; have P1 : Blk w1 w.heap.size 45 #[.int .i64 k, .int .i64 t, .int .i64 s, .bool r] := (Blk.newAt rfl).alloc.past hb1; have R1 : Blk w1 (w.heap.size + 1) 96 #[.int .i64 0, .int .i64 0, .int .i64 0, .int .i64 0, .int .i64 0, .int .i64 0, .int .i64 0, .int .i64 0, .int .i64 0] := (Blk.newAt (by simp)).past hb1; have p0 := P1.cellAt 0 rfl; have p1 := P1.cellAt 1 rfl; have p2 := P1.cellAt 2 rfl; have p3 := P1.cellAt 3 rfl; have pl := P1.lt)
    | (go_at_call 78; refine (HL.out _ (HP.out.below (pt (pa (pa pr)) hb1))).mono ?_; rintro e w2 ⟨rfl, hb2⟩)
    | ((with_reducible refine store_blk (T := 96) (x := .tmp 2) (y := .tmp 12) (vs := #[.int .i64 L.x.a, .int .i64 L.x.b, .int .i64 L.x.c, .int .i64 L.y.a, .int .i64 L.y.b, .int .i64 L.y.c, .int .i64 L.z.a, .int .i64 L.z.b, .int .i64 L.z.c]) (R1.past hb2) ?_ ?_ ?_ ?_ ?_ ?_); (focus rfl); (focus exact apiLines_size); (focus (simp [Value.oneCell']; done)); (focus rfl); (focus rfl); intro WF RF PF))
  have g0 := RF.cellAt 0 rfl
  have g1 := RF.cellAt 1 rfl
  have g2 := RF.cellAt 2 rfl
  have g3 := RF.cellAt 3 rfl
  have g4 := RF.cellAt 4 rfl
  have g5 := RF.cellAt 5 rfl
  have g6 := RF.cellAt 6 rfl
  have g7 := RF.cellAt 7 rfl
  have g8 := RF.cellAt 8 rfl
  exact bodyPost_ret (v := .tuple #[.agg #[.int .i64 L.x.a, .int .i64 L.x.b, .int .i64 L.x.c, .int .i64 L.y.a, .int .i64 L.y.b, .int .i64 L.y.c, .int .i64 L.z.a, .int .i64 L.z.b, .int .i64 L.z.c], .int .i64 0]) (by simp [results, Tryz.results36, go_sem, g0, g1, g2, g3, g4, g5, g6, g7, g8]) rfl ⟨rfl, pp (pt (pt (pa (pa pr)) hb1) hb2) PF (by omega)⟩

theorem lineE_sm {x1 x2 x3 x4 x5 x6 x7 x8 x9 : Int} (h : lineE x1 x2 x3 x4 x5 x6 x7 x8 x9 = 0) : Sm 10000 x1 ∧ Sm 10000 x2 ∧ Sm 10000 x3 ∧ Sm 10000 x4 ∧ Sm 10000 x5 ∧ Sm 10000 x6 ∧ Sm 10000 x7 ∧ Sm 10000 x8 ∧ Sm 10000 x9 := by
  unfold lineE at h
  have h1 : great3 x1 x2 x3 = false := by cases h1 : great3 x1 x2 x3 <;> simp [h1] at h ⊢
  have h2 : great3 x4 x5 x6 = false := by cases h2 : great3 x4 x5 x6 <;> simp [h1, h2] at h ⊢
  have h3 : great3 x7 x8 x9 = false := by cases h3 : great3 x7 x8 x9 <;> simp [h1, h2, h3] at h ⊢
  simp only [great3, withinB, Bool.not_eq_false', Bool.and_eq_true, decide_eq_true_eq] at h1 h2 h3
  unfold Sm
  omega
set_option maxHeartbeats 4000000 in
theorem PhasorOf_ok (x1 x2 x3 x4 x5 x6 x7 x8 x9 : Int) (he : lineE x1 x2 x3 x4 x5 x6 x7 x8 x9 = 0) (w : World) :
    Calls Tryz.prog 37 #[.agg #[.int .i64 x1, .int .i64 x2, .int .i64 x3, .int .i64 x4, .int .i64 x5, .int .i64 x6, .int .i64 x7, .int .i64 x8, .int .i64 x9]] w fun z w' => z = .returned (.tuple #[.agg #[.int .i64 (x1 - x2), .int .i64 (x3 - x2)], .int .i64 0]) ∧ Below w.heap.size w w' := by
  have HC := Lib.hid (checkLines_any x1 x2 x3 x4 x5 x6 x7 x8 x9)
  obtain ⟨h1, h2, h3, _⟩ := lineE_sm he
  rw [he] at HC
  have HL := Lib.hid (linesPhasor_0 x1 x2 x3 x4 x5 x6 x7 x8 x9 h1 h2 h3)
  clear h1 h2 h3 he
  go_enter Tryz.func37, Tryz.ntmps37
  go_wp2_with (first
    | (go_at_call 79; refine (HC.out _).mono ?_; rintro e w1 ⟨rfl, hb1⟩; have P1 : Blk w1 w.heap.size 96 #[.int .i64 x1, .int .i64 x2, .int .i64 x3, .int .i64 x4, .int .i64 x5, .int .i64 x6, .int .i64 x7, .int .i64 x8, .int .i64 x9] := (Blk.newAt rfl).alloc.past hb1; have R1 : Blk w1 (w.heap.size + 1) 24 #[.int .i64 0, .int .i64 0] := (Blk.newAt (by simp)).past hb1)
    | ((with_reducible refine load_blk (T := 96) (x := .tmp 1) P1 Tryz.underlying96 ?_ ?_ ?_ ?_); (focus rfl); (focus exact apiLines_size); (focus rfl))
    | (go_at_call 80; refine (HL.out _).mono ?_; rintro e w2 ⟨rfl, hb2⟩)
    | ((with_reducible refine store_blk (T := 24) (x := .tmp 2) (y := .tmp 12) (vs := #[.int .i64 (x1 - x2), .int .i64 (x3 - x2)]) (R1.past hb2) ?_ ?_ ?_ ?_ ?_ ?_); (focus rfl); (focus exact apiPhasor_size); (focus (simp [Value.oneCell']; done)); (focus rfl); (focus rfl); intro WF RF PF))
  have g0 := RF.cellAt 0 rfl
  have g1 := RF.cellAt 1 rfl
  exact bodyPost_ret (v := .tuple #[.agg #[.int .i64 (x1 - x2), .int .i64 (x3 - x2)], .int .i64 0]) (by simp [results, Tryz.results37, go_sem, g0, g1]) rfl ⟨rfl, pp (pt (pt (pa (pa pr)) hb1) hb2) PF (by omega)⟩

end Go.Proofs.YtpdkbhjcpddnpaaGreatDoor
end

section
namespace Go.Proofs.YtpdkbhjcpddnpaaGreatDoor
open Go.RowKit
attribute [local go_sem ↓] Go.wp_at_zero Go.wp_at_succ

theorem apiph_eql (p q r s : Int) (W : World) : (binOp .eql 24 (.agg #[.int .i64 p, .int .i64 q]) (.agg #[.int .i64 r, .int .i64 s])).run Tryz.prog W = .ok (.bool (phB p q r s)) W := by
  simp [go_sem, phB]
  by_cases h1 : p = r <;> by_cases h2 : q = s <;> simp [h1, h2]
theorem apiph_neq (p q r s : Int) (W : World) : (binOp .neq 24 (.agg #[.int .i64 p, .int .i64 q]) (.agg #[.int .i64 r, .int .i64 s])).run Tryz.prog W = .ok (.bool (!phB p q r s)) W := by
  simp [go_sem, phB]
  by_cases h1 : p = r <;> by_cases h2 : q = s <;> simp [h1, h2]
attribute [local go_sem ↓ high] apiph_eql apiph_neq ph_eql

def hourE (p q : Int) : Int := firstV [phE p q, unlessV (!phB p q 0 0) 11]
end Go.Proofs.YtpdkbhjcpddnpaaGreatDoor
end

section
namespace Go.Proofs.YtpdkbhjcpddnpaaGreatDoor
open Go.RowKit
attribute [local go_sem ↓] Go.wp_at_zero Go.wp_at_succ
attribute [local go_sem ↓ high] apiph_eql apiph_neq ph_eql

set_option maxHeartbeats 1000000 in
theorem refPhasorErr_any (p q : Int) (w : World) :
    Calls Tryz.prog 12 #[.agg #[.int .i64 p, .int .i64 q]] w fun e w' => e = .returned (.int .i64 (phE p q)) ∧ Below w.heap.size w w' := by
  have C1 := Lib.hid (fun w => refWithin_any p (-1000000) 1000000 w)
  have C2 := Lib.hid (fun w => refWithin_any q (-1000000) 1000000 w)
  have hv : unlessV (withinB p (-1000000) 1000000 && withinB q (-1000000) 1000000) 2 = phE p q := rfl
  generalize phE p q = E at *
  generalize withinB p (-1000000) 1000000 = a at *
  generalize withinB q (-1000000) 1000000 = b at *
  cases a <;> cases b
  all_goals
    simp only [Bool.false_and, Bool.true_and] at hv
    subst hv
    go_enter Tryz.func12, Tryz.ntmps12
    go_wp2_with (go_at_call 20; (first | (with_reducible refine (C1.out _).mono ?_) | (with_reducible refine (C2.out _).mono ?_)); rintro e w' ⟨rfl, rfl⟩)
    go_ret
    exact ⟨rfl, pa pr⟩

def upRes : Option Int → Value
  | some h => .tuple #[.int .i64 h, .int .i64 0]
  | none => .tuple #[.int .i64 0, .int .i64 12]
def hoursE (p q : Int) : Int := if p = 0 ∧ q = 0 then 11 else if (hoursV p q).isSome then 0 else 12
end Go.Proofs.YtpdkbhjcpddnpaaGreatDoor
end
