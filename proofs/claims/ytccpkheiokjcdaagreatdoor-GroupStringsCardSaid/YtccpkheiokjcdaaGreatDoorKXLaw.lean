/- The law on strings of units returns true for any unit of ints and any string. -/
import Derived.Test.YtccpkheiokjcdaaGreatDoorKWLaw
namespace Go.Proofs.YtccpkheiokjcdaaGreatDoor
open Go.RowKit

theorem strlaw_any (x y : Wind) (n : Int) (hx1 : I64 x.turns) (hx2 : I64 x.shift) (hy1 : I64 y.turns) (hy2 : I64 y.shift) (hn : I64 n) (l : List UInt8) (w : World) (hT : TwIn w) (hP : PatIn w) (hS : StrIn w) :
    Calls Tryz.prog 3 #[.agg #[.int .i64 x.kind, .int .i64 x.turns, .int .i64 x.shift, .bool x.rev, .int .i64 y.kind, .int .i64 y.turns, .int .i64 y.shift, .bool y.rev, .int .i64 n], .string ⟨l.toArray⟩] w fun e w' => e = .returned (.bool true) ∧ Below w.heap.size w w' := by
  by_cases hl : 60 < l.length
  · exact strlaw_long x y n hx1 hx2 hy1 hy2 hn l hl w hT hP hS
  · by_cases hE : unitE x.kind x.turns x.shift y.kind y.turns y.shift n = 0
    · have h1 := fmtW_len x hx1 hx2
      have h2 := fmtW_len y hy1 hy2
      have h3 := itoa_len hn.1 hn.2
      have e0 : firstV [windE x.kind x.turns x.shift, windE y.kind y.turns y.shift, unlessV (withinB n 0 100) 2] = 0 := hE
      obtain ⟨e1, e2⟩ := firstV_zero.1 e0
      obtain ⟨e2, e3⟩ := firstV_zero.1 e2
      obtain ⟨e3, _⟩ := firstV_zero.1 e3
      have hk := (unless_ne (by decide)).1 e3
      simp only [withinB, Bool.and_eq_true, decide_eq_true_eq] at hk
      refine strlaw_good x y n hx1 hx2 hy1 hy2 hn l (by omega) hE (by unfold fmtU; simp; omega) ?_ w hT hP hS
      rw [parse_unit (windE_ok x.rev e1) (windE_ok y.rev e2) hk.1 (by omega)]
      unfold unitOut
      dsimp only
      rw [if_pos hE]
    · exact strlaw_bad x y n hx1 hx2 hy1 hy2 hn l (by omega) _ rfl (by simpa using hE) w hT hP hS

end Go.Proofs.YtccpkheiokjcdaaGreatDoor
