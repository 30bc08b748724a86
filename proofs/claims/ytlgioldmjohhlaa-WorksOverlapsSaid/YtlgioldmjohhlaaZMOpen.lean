/- Arguments of the chapter's laws, opened: ovens, ranges, pairs of numbers. -/
import Derived.Test.YtlgioldmjohhlaaZKLaw
namespace Go.Proofs.Ytlgioldmjohhlaa
open Go.ChangeShapes Go.WideShapes Go.ChangeAt Go.RowKit Go.Joins

theorem cells_range : Try.prog.cellsOf 59 = 2 := by kernel_rfl
theorem cells_int : Try.prog.cellsOf 3 = 1 := by kernel_rfl
theorem cells_oven : Try.prog.cellsOf 67 = 3 := by kernel_rfl
theorem cells_two : Try.prog.cellsOf 68 = 2 := by kernel_rfl

section
variable {H : Type} {enc : TypeId × Value → H} {w : World} {base b0 : Nat} {spare : Nat → Bool} {held : Bool} {r : Reach}

theorem is_int {fuel : Nat} {cs : List Value} {x : DataW H × List MemPlace} (h : DataW.trod enc Try.prog w base spare held fuel 3 cs = some x) : IntCells cs := (intCells_int Try.underlying3 h).2
theorem is_range {fuel : Nat} {cs : List Value} {x : DataW H × List MemPlace} (h : DataW.trod enc Try.prog w base spare held fuel 59 cs = some x) : cs.length = 2 ∧ IntCells cs := by
  rw [← cells_range]
  refine intCells_struct Try.underlying59 (fun i f hi {_ _ _} hf => ?_) (fun k hk => ?_) h
  · match i, hi with
    | 0, hi => injection hi with hi; subst hi; exact is_int hf
    | 1, hi => injection hi with hi; subst hi; exact is_int hf
  · rw [cells_range] at hk
    rcases (show k = 0 ∨ k = 1 by omega) with rfl | rfl
    · exact ⟨0, _, 1, rfl, cells_int, by decide, by decide⟩
    · exact ⟨1, _, 1, rfl, cells_int, by decide, by decide⟩
theorem is_oven {fuel : Nat} {cs : List Value} {x : DataW H × List MemPlace} (h : DataW.trod enc Try.prog w base spare held fuel 67 cs = some x) : cs.length = 3 ∧ IntCells cs := by
  rw [← cells_oven]
  refine intCells_struct Try.underlying67 (fun i f hi {_ _ _} hf => ?_) (fun k hk => ?_) h
  · match i, hi with
    | 0, hi => injection hi with hi; subst hi; exact (is_range hf).2
    | 1, hi => injection hi with hi; subst hi; exact is_int hf
  · rw [cells_oven] at hk
    rcases (show k = 0 ∨ k = 1 ∨ k = 2 by omega) with rfl | rfl | rfl
    · exact ⟨0, _, 2, rfl, cells_range, by decide, by decide⟩
    · exact ⟨0, _, 2, rfl, cells_range, by decide, by decide⟩
    · exact ⟨1, _, 1, rfl, cells_int, by decide, by decide⟩
theorem is_two {fuel : Nat} {cs : List Value} {x : DataW H × List MemPlace} (h : DataW.trod enc Try.prog w base spare held fuel 68 cs = some x) : cs.length = 2 ∧ IntCells cs := by
  rw [← cells_two]
  exact intCells_array Try.underlying68 (fun {_ _ _} hf => is_int hf) (by rw [cells_two, cells_int]) (by rw [cells_int]; decide) h

set_option maxRecDepth 100000 in
theorem open_oven {v : Value} {d : DataW H} {p : List MemPlace} (hv : Value.okWide Try.prog w r b0 67 v) (h : DataW.Trod enc Try.prog w base spare held 67 v d p) : ∃ a b c, v = .agg #[.int .i64 a, .int .i64 b, .int .i64 c] ∧ (Lit.int .i64 a).wf = true ∧ (Lit.int .i64 b).wf = true ∧ (Lit.int .i64 c).wf = true := open_struct3 Try.underlying67 is_oven hv h
set_option maxRecDepth 100000 in
theorem open_range {v : Value} {d : DataW H} {p : List MemPlace} (hv : Value.okWide Try.prog w r b0 59 v) (h : DataW.Trod enc Try.prog w base spare held 59 v d p) : ∃ a b, v = .agg #[.int .i64 a, .int .i64 b] ∧ (Lit.int .i64 a).wf = true ∧ (Lit.int .i64 b).wf = true := open_struct2 Try.underlying59 is_range hv h
set_option maxRecDepth 100000 in
theorem open_two {v : Value} {d : DataW H} {p : List MemPlace} (hv : Value.okWide Try.prog w r b0 68 v) (h : DataW.Trod enc Try.prog w base spare held 68 v d p) : ∃ a b, v = .agg #[.int .i64 a, .int .i64 b] ∧ (Lit.int .i64 a).wf = true ∧ (Lit.int .i64 b).wf = true := open_array2 Try.underlying68 is_two hv h
end

end Go.Proofs.Ytlgioldmjohhlaa
