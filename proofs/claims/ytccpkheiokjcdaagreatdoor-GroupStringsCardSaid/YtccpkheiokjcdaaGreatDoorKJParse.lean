/- Contract: the unit of any string, joined from its leaves. -/
import Derived.Test.YtccpkheiokjcdaaGreatDoorKIParse
namespace Go.Proofs.YtccpkheiokjcdaaGreatDoor
open Go.RowKit

theorem splitL_mem {c : UInt8} : ∀ {l x : List UInt8}, x ∈ splitL c l → x.length ≤ l.length
  | [], x, h => by rw [splitL, List.mem_singleton] at h; subst h; exact Nat.le_refl _
  | b :: l, x, h => by
    rw [splitL] at h
    split at h
    · rcases List.mem_cons.1 h with h | h
      · subst h; exact Nat.zero_le _
      · have := splitL_mem h; simp; omega
    · split at h
      · rw [List.mem_singleton] at h; subst h; simp
      · rename_i y r e
        rcases List.mem_cons.1 h with h | h
        · have := splitL_mem (c := c) (l := l) (x := y) (by rw [e]; exact List.mem_cons_self)
          subst h; simp; omega
        · have := splitL_mem (c := c) (l := l) (x := x) (by rw [e]; exact List.mem_cons_of_mem _ h)
          simp; omega

/-- What a unit of a string is, as the results' values. -/
def unitV (x y : Wind) (n : Int) : Value := .agg #[.int .i64 x.kind, .int .i64 x.turns, .int .i64 x.shift, .bool x.rev, .int .i64 y.kind, .int .i64 y.turns, .int .i64 y.shift, .bool y.rev, .int .i64 n]
def unit0 : Value := .agg #[.int .i64 0, .int .i64 0, .int .i64 0, .bool false, .int .i64 0, .int .i64 0, .int .i64 0, .bool false, .int .i64 0]
def unitOut (o : Option (Wind × Wind × Int)) : Value × Int := match o with
  | none => (unit0, 7)
  | some (x, y, n) => if unitE x.kind x.turns x.shift y.kind y.turns y.shift n = 0 then (unitV x y n, 0) else (unit0, unitE x.kind x.turns x.shift y.kind y.turns y.shift n)
theorem parseU_three {l a b c : List UInt8} (h : splitL 32 l = [a, b, c]) : parseU l = (parseW a).bind fun x => (parseW b).bind fun y => (numP c).map fun n => (x, y, n) := by
  unfold parseU
  rw [h]
theorem parseU_else {l : List UInt8} (h : (splitL 32 l).length ≠ 3) : parseU l = none := by
  unfold parseU
  split
  · rename_i e
    rw [e] at h
    exact absurd rfl h
  · rfl
theorem list_three {α : Type} : ∀ {l : List α}, l.length = 3 → ∃ a b c, l = [a, b, c]
  | [a, b, c], _ => ⟨a, b, c, rfl⟩

theorem ParseUnit_any (l : List UInt8) (hl : l.length ≤ 1000) (w : World) (hS : StrIn w) (hP : PatIn w) :
    Calls Tryz.prog 6 #[.string ⟨l.toArray⟩] w fun e w' => e = .returned (.tuple #[(unitOut (parseU l)).1, .int .i64 (unitOut (parseU l)).2]) ∧ Below w.heap.size w w' := by
  by_cases h3 : (splitL 32 l).length = 3
  · obtain ⟨a, b, c, hs⟩ := list_three h3
    have ha : a.length ≤ 1000 := Nat.le_trans (splitL_mem (l := l) (c := 32) (by rw [hs]; simp)) hl
    have hb : b.length ≤ 1000 := Nat.le_trans (splitL_mem (l := l) (c := 32) (by rw [hs]; simp)) hl
    have hc : c.length ≤ 1000 := Nat.le_trans (splitL_mem (l := l) (c := 32) (by rw [hs]; simp)) hl
    rw [parseU_three hs]
    cases h1 : parseW a with
    | none => exact parse_no1 l a b c hl ha hb hc hs (by rw [h1]; rfl) _ _ rfl rfl w hS hP
    | some x =>
      cases h2 : parseW b with
      | none => exact parse_no2 l a b c hl ha hb hc hs x h1 (by rw [h2]; rfl) _ rfl w hS hP
      | some y =>
        cases h4 : numP c with
        | none => exact parse_no3 l a b c hl ha hb hc hs x y h1 h2 (by rw [h4]; rfl) w hS hP
        | some n =>
          by_cases hE : unitE x.kind x.turns x.shift y.kind y.turns y.shift n = 0
          · have q := parse_good l a b c hl ha hb hc hs x y n h1 h2 h4 hE w hS hP
            show Calls _ _ _ _ fun e w' => e = .returned (.tuple #[(unitOut (some (x, y, n))).1, .int .i64 (unitOut (some (x, y, n))).2]) ∧ _
            unfold unitOut
            dsimp only
            rw [if_pos hE]
            exact q
          · have q := parse_bad l a b c hl ha hb hc hs x y n h1 h2 h4 _ rfl (by simpa using hE) w hS hP
            show Calls _ _ _ _ fun e w' => e = .returned (.tuple #[(unitOut (some (x, y, n))).1, .int .i64 (unitOut (some (x, y, n))).2]) ∧ _
            unfold unitOut
            dsimp only
            rw [if_neg hE]
            exact q
  · rw [parseU_else h3]
    exact parse_len l hl h3 w hS

end Go.Proofs.YtccpkheiokjcdaaGreatDoor
