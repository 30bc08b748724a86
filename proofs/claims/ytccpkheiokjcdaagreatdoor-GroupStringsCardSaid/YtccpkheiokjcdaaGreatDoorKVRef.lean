/- Contract: the specification's unit of any string, joined from its leaves. -/
import Derived.Test.YtccpkheiokjcdaaGreatDoorKURef
namespace Go.Proofs.YtccpkheiokjcdaaGreatDoor
open Go.RowKit

theorem refParseUnit_any (l : List UInt8) (hl : l.length ≤ 1000) (w : World) :
    Calls Tryz.prog 7 #[.string ⟨l.toArray⟩] w fun e w' => e = .returned (.tuple #[(unitOut (parseU l)).1, .int .i64 (unitOut (parseU l)).2]) ∧ Below w.heap.size w w' := by
  by_cases h3 : (splitL 32 l).length = 3
  · obtain ⟨a, b, c, hs⟩ := list_three h3
    have ha : a.length ≤ 1000 := Nat.le_trans (splitL_mem (l := l) (c := 32) (by rw [hs]; simp)) hl
    have hb : b.length ≤ 1000 := Nat.le_trans (splitL_mem (l := l) (c := 32) (by rw [hs]; simp)) hl
    have hc : c.length ≤ 1000 := Nat.le_trans (splitL_mem (l := l) (c := 32) (by rw [hs]; simp)) hl
    rw [parseU_three hs]
    cases h1 : parseW a with
    | none => exact refU_no1 l a b c hl ha hb hc hs (by rw [h1]; rfl) _ _ rfl rfl w
    | some x =>
      cases h2 : parseW b with
      | none => exact refU_no2 l a b c hl ha hb hc hs x h1 (by rw [h2]; rfl) _ rfl w
      | some y =>
        cases h4 : numP c with
        | none => exact refU_no3 l a b c hl ha hb hc hs x y h1 h2 (by rw [h4]; rfl) w
        | some n =>
          by_cases hE : unitE x.kind x.turns x.shift y.kind y.turns y.shift n = 0
          · have q := refU_good l a b c hl ha hb hc hs x y n h1 h2 h4 hE w
            show Calls _ _ _ _ fun e w' => e = .returned (.tuple #[(unitOut (some (x, y, n))).1, .int .i64 (unitOut (some (x, y, n))).2]) ∧ _
            unfold unitOut
            dsimp only
            rw [if_pos hE]
            exact q
          · have q := refU_bad l a b c hl ha hb hc hs x y n h1 h2 h4 _ rfl (by simpa using hE) w
            show Calls _ _ _ _ fun e w' => e = .returned (.tuple #[(unitOut (some (x, y, n))).1, .int .i64 (unitOut (some (x, y, n))).2]) ∧ _
            unfold unitOut
            dsimp only
            rw [if_neg hE]
            exact q
  · rw [parseU_else h3]
    exact refU_len l hl h3 w

end Go.Proofs.YtccpkheiokjcdaaGreatDoor
