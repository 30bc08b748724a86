/- Contract: the reference's comparison of a row of currents with itself, in two places. -/
import Derived.Test.YtpdkbhjcpddnpaaGreatDoorOb7
import Derived.Test.YtpdkbhjcpddnpaaGreatDoorOc5
import Derived.BigQuiet

section
namespace Go.Proofs.YtpdkbhjcpddnpaaGreatDoor
open Go.RowKit
attribute [local go_sem ↓] Go.wp_at_zero Go.wp_at_succ

theorem cur_neqS (a b c d : Int) (W : World) : (binOp .neq 90 (.agg #[.int .i64 a, .int .i64 b, .int .i64 c, .int .i64 d]) (.agg #[.int .i64 a, .int .i64 b, .int .i64 c, .int .i64 d])).run Tryz.prog W = .ok (.bool false) W := by
  simp [go_sem]
attribute [local go_sem ↓ high] cur_neqS

set_option maxHeartbeats 4000000 in
set_option maxRecDepth 100000 in
theorem sameCurrents_any (cs : List Cu) (A A2 : Option Addr) (c c2 : Nat) (w : World) (h1 : CusIn w.heap.size w A cs) (h2 : CusIn w.heap.size w A2 cs) (hl : cs.length ≤ 4) :
    Calls Tryz.prog 15 #[.slice A cs.length c, .slice A2 cs.length c2] w fun e w' => e = .returned (.bool true) ∧ Below w.heap.size w w' := by
  have HA := Lib.hid (fun W (hW : Below w.heap.size w W) => h1.below hW)
  have HB := Lib.hid (fun W (hW : Below w.heap.size w W) => h2.below hW)
  clear h1 h2
  have n9 : (cs.length : Int) ≤ 4 := by omega
  go_enter Tryz.func15, Tryz.ntmps15
  go_wp2
  go_loopw [5] (fun iv wr => ∃ k : Nat, iv = .int .i64 (k : Int) ∧ k ≤ cs.length ∧ Below w.heap.size w wr) (fun iv _ => cs.length - (intOf iv).toNat)
  case atStart => exact ⟨0, rfl, Nat.zero_le _, pr⟩
  case round =>
    obtain ⟨k, rfl, hk, hq⟩ := hrel
    have HQ := Lib.hid hq
    clear hq
    have i0 := src_cast k
    by_cases hlt : k < cs.length
    · have i1 := src_lt hlt
      have hz := hlt
      obtain ⟨b, off, rfl, hb, ha⟩ := (HA.out _ HQ.out).at_ hlt
      obtain ⟨b2, off2, rfl, hb2, ha2⟩ := (HB.out _ HQ.out).at_ hlt
      obtain ⟨x0, x1, x2, x3⟩ := ha k hlt
      obtain ⟨y0, y1, y2, y3⟩ := ha2 k hlt
      clear HA HB ha ha2
      generalize cs.getD k default = u at *
      obtain ⟨pn, pd, qn, qd⟩ := u
      dsimp only at x0 x1 x2 x3 y0 y1 y2 y3
      go_wp2
      go_quiet (fail)
      go_wp2
      go_roundw
      case rel => exact ⟨k + 1, src_succ _, hlt, by first | exact pd HQ.out | exact below_drewN' HQ.out _⟩
      case measure => exact src_meas hlt
    · have hkn : cs.length = k := by omega
      have i1 : ¬ (k : Int) < (cs.length : Int) := by omega
      go_wp2
      go_ret
      exact ⟨rfl, HQ.out⟩

end Go.Proofs.YtpdkbhjcpddnpaaGreatDoor
end
