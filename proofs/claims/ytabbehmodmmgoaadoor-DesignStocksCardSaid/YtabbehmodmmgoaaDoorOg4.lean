/- Arguments of chapter 2's laws, opened: pairs of numbers; tables of words, read. -/
import Derived.Test.YtabbehmodmmgoaaDoorOf6
import Derived.Test.YtabbehmodmmgoaaDoorOg1

section
namespace Go.Proofs.YtabbehmodmmgoaaDoor
open Go.ChangeShapes Go.WideShapes Go.ChangeAt Go.RowKit Go.Joins

theorem cells_string : Tryd.prog.cellsOf 9 = 1 := by kernel_rfl
set_option maxRecDepth 100000 in
theorem tab_strs {w : World} {n : String} {T : List (List UInt8)} {g : Nat} {t : TypeId} {m : Nat} (h : Lib.VarReads Tryd.prog w n (.agg (T.map fun b => .lit (.string b)))) (hg : Tryd.prog.globalNamed n = some g) (ht : (Tryd.prog.globals[g]?).map (·.type) = some t) (hu : Tryd.prog.underlying t = some (.array m 9)) (hm : T.length = m) (h0 : 0 < m) : TabS g T w := by
  obtain ⟨g', t', cs, fuel, p, h1, h2, h3, h4⟩ := h
  obtain rfl := Option.some.inj (hg.symm.trans h1)
  obtain rfl := Option.some.inj (ht.symm.trans h2)
  have all : ∀ i, i < T.length → w.cell? ⟨g, i, none⟩ = some (strV (T.getD i [])) := by
    intro i hi
    obtain ⟨fuel', d, q, hd, htr⟩ := Lib.array_elem hu h4 i (by omega)
    rw [List.getElem?_map, List.getElem?_eq_getElem hi] at hd
    rw [cells_string, Nat.mul_one] at htr
    obtain ⟨s, e1, e2, _⟩ := DataW.trod_string Tryd.underlying9 htr
    have e3 : cs.toList[i]? = some (.string s) := by
      have := congrArg (·[0]?) e1
      simpa [List.getElem?_take, List.getElem?_drop] using this
    have e4 : T[i] = s.data.toList := by
      have e5 := (Option.some.inj hd).trans (congrArg Prod.fst e2)
      injection e5 with e6
      injection e6
    have e7 : T.getD i [] = s.data.toList := by rw [← e4]; simp [List.getD, hi]
    rw [World.var?_cell h1 h3 i, ← Array.getElem?_toList, e3, e7]
  exact ⟨World.block_lt_of_cell? w ⟨_, 0, none⟩ (all 0 (by omega)), all⟩
theorem qwords_read {w : World} (h : Lib.VarReads Tryd.prog w "buchholz/design.quantityWords" Rows.laid_buchholz_design_quantityWords) : TabS 2 qWords w :=
  tab_strs (T := qWords) (m := 6) (t := 134) h (by kernel_rfl) (by kernel_rfl) Tryd.underlying134 rfl (by decide)
theorem uwords_read {w : World} (h : Lib.VarReads Tryd.prog w "buchholz/design.unitWords" Rows.laid_buchholz_design_unitWords) : TabS 0 uWords w :=
  tab_strs (T := uWords) (m := 3) (t := 114) h (by kernel_rfl) (by kernel_rfl) Tryd.underlying114 rfl (by decide)
section
variable {H : Type} {enc : TypeId × Value → H} {w : World} {base b0 : Nat} {spare : Nat → Bool} {held : Bool} {r : Reach}
theorem cells_pair : Tryd.prog.cellsOf 40 = 2 := by kernel_rfl
set_option maxRecDepth 100000 in
theorem open_pair {v : Value} {d : DataW H} {p : List MemPlace} (hv : Value.okWide Tryd.prog w r b0 40 v) (h : DataW.Trod enc Tryd.prog w base spare held 40 v d p) : ∃ x1 x2, v = .agg #[.int .i64 x1, .int .i64 x2] := by
  obtain ⟨cs, rfl⟩ := okWide_array' Tryd.underlying40 hv
  obtain ⟨fuel, hf⟩ := agg_cells h
  have hi := intCells_array Tryd.underlying40 (fun hf => is_int hf) (by kernel_rfl) (by rw [cells_int]; decide) hf
  rw [cells_pair] at hi
  obtain ⟨l⟩ := cs
  match l, hi with
  | [v1, v2], ⟨_, h⟩ =>
    obtain ⟨x1, rfl, _⟩ := h v1 (by simp)
    obtain ⟨x2, rfl, _⟩ := h v2 (by simp)
    exact ⟨x1, x2, rfl⟩
end

end Go.Proofs.YtabbehmodmmgoaaDoor
end
