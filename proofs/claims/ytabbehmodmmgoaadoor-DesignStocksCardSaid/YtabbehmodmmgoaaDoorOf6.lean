/- How a law's statement follows from the walk of its function: the arguments read behind the call as before. Arguments that are made of integers, opened. No condition.
Arguments that are slices of integers, opened.
Arguments of the design chapter's laws, opened: windings; the table of the units, read. -/
import Derived.Test.YtabbehmodmmgoaaDoorOa2
import Derived.ChangeSame
import Derived.JoinedOf
import Derived.JoinedAt
import Derived.Carry
import Derived.ProofKit
import Derived.OpenShut
import Derived.Lib.SmallJoins
import Derived.WideKeyArgs
import Derived.ChangeSlices
import Derived.Deep.AppendLies
import Derived.Test.YtabbehmodmmgoaaDoorOa7
import Derived.Test.YtabbehmodmmgoaaDoorRows
import Derived.Lib.LaidTab
import Derived.Lib.LaidU8

section
namespace Go.Proofs.YtabbehmodmmgoaaDoor
open Go.ChangeShapes Go.WideShapes Go.ChangeAt Go.RowKit Go.Joins

theorem own_knob : ownKnob Tryd.prog.godebug = none := by kernel_rfl
theorem laid_out : laidOutB Tryd.prog = true := by kernel_rfl

section
variable {H : Type} {enc : TypeId × Value → H} {P : Program}
theorem trodAll_stays (hl : laidOutB P = true) {W W' : World} {sp : Nat → Bool} (hb : Below W.heap.size W W') : ∀ (ts : List TypeId) (vs : List Value) (ds : List (DataW H)) (ps : List MemPlace), (∀ t ∈ ts, P.readableRec t = true ∧ t < P.types.size) →
    DataW.TrodAll enc P W 0 (fun _ => true) true ts vs ds ps → (∀ x ∈ ps, x.block < W.heap.size) → (∀ x ∈ ps, sp x.block = true) → DataW.TrodAll enc P W' 0 sp true ts vs ds ps
  | [], [], [], _, _, h, _, _ => h
  | t :: ts, v :: vs, d :: ds, ps, hr, ⟨p, q, h1, h2, hp⟩, hlt, hs => by
    subst hp
    refine ⟨p, q, ?_, trodAll_stays hl hb ts vs ds q (fun t ht => hr t (by simp [ht])) h2 (fun x hx => hlt x (by simp [hx])) (fun x hx => hs x (by simp [hx])), rfl⟩
    obtain ⟨g1, g2⟩ := hr t (by simp)
    exact WideElems.Trod_stays hl g1 g2 h1 (fun x hx => hb.same (hlt x (by simp [hx]))) (fun x hx => hs x (by simp [hx]))
  | [], [], _ :: _, _, _, h, _, _ => h.elim
  | [], _ :: _, _, _, _, h, _, _ => by cases ‹List (DataW H)› <;> exact h.elim
  | _ :: _, [], _, _, _, h, _, _ => by cases ‹List (DataW H)› <;> exact h.elim
  | _ :: _, _ :: _, [], _, _, h, _, _ => h.elim

theorem post_of_below {f : Func} {s : ChangeSpec} {apart fresh handsOn again : Bool} {W W' : World} {args : Array Value} {v : Value} {ds gs : List (DataW H)} {before pa pv : List MemPlace}
    (hW : DataW.Whole enc P f.params.toList s.vars apart W args.toList ds gs before)
    (hres : ∀ (b : Nat) (sp : Nat → Bool) (hd : Bool), DataW.TrodAll enc P W' b sp hd f.resultTypes.toList (v.resultList f.resultTypes.size) (s.fn H (ds ++ gs)).results [])
    (hargs : ∀ sp : Nat → Bool, (∀ p ∈ before, sp p.block = true) → DataW.TrodAll enc P W' 0 sp true f.params.toList args.toList (s.fn H (ds ++ gs)).args pa)
    (hvars : ∀ sp : Nat → Bool, (∀ p ∈ before, sp p.block = true) → DataW.TrodVars enc P W' sp s.vars (s.fn H (ds ++ gs)).vars pv)
    (hps : before = pa ++ pv) (hb : Below W.heap.size W W')
    (hok : ∀ (j : Nat) (t : TypeId) (r : Value), f.resultTypes[j]? = some t → (v.resultList f.resultTypes.size)[j]? = some r → Value.okWide P W' .any 0 t r) :
    s.post enc P f apart fresh handsOn again W args v W' := by
  have hlt : ∀ p ∈ before, p.block < W.heap.size := fun p hp => hW.lt p hp
  have hold : ∀ p ∈ before, (fun b => decide (b < W.heap.size)) p.block = true := fun p hp => by simpa using hlt p hp
  refine ⟨ds, gs, before, [], pa, pv, hW, hres _ _ _, hargs _ hold, hvars _ hold, World.keptBut_mono (fun p hp => ⟨hp, ?_⟩) (hb.frame (· ∈ before)), fun _ => ?_⟩
  · rw [hps, List.mem_append] at hp
    exact Or.inr hp
  · obtain ⟨_, _, _, _, _, hz, hn⟩ := hW
    refine ⟨hok, _, _, ([] ++ pa) ++ pv, ⟨[] ++ pa, pv, trodAll_append (hargs _ (fun _ _ => rfl)) (hres _ _ _), hvars _ (fun _ _ => rfl), rfl, ?_, ?_⟩, ?_⟩
    · intro b off hp
      have hin : MemPlace.cell b off ∈ before := by rw [hps]; simpa using hp
      rw [hb.frozen (hlt _ hin)]
      exact hz b off hin
    · intro ha
      have := hn ha
      rw [hps] at this
      simpa using this
    · intro p hp _
      rw [hps]
      simpa using hp

/-- The law's end: it returned true, and nothing that was there has turned. -/
theorem law_end (hl : laidOutB P = true) {f : Func} {s : ChangeSpec} {tb : TypeId} {W W' : World} {args : Array Value} {ds gs : List (DataW H)} {before : List MemPlace}
    (hread : ∀ t ∈ f.params.toList, P.readableRec t = true ∧ t < P.types.size) (hrt : f.resultTypes = #[tb]) (hbool : P.underlying tb = some .bool) (hsv : s.vars = [])
    (hfn : s.fn H ds = { results := [.lit (.bool true)], args := ds }) (hW : DataW.Whole enc P f.params.toList s.vars false W args.toList ds gs before) (hB : Below W.heap.size W W') :
    ∃ v, Ending.returned (.bool true) = .returned v ∧ s.post enc P f false true false false W args v W' := by
  have hW2 := hW
  obtain ⟨p, q, hA, hV, rfl, _, _⟩ := hW
  rw [hsv] at hV
  obtain ⟨rfl, rfl⟩ := trodVars_none hV
  rw [List.append_nil] at hW2
  have hlt : ∀ x ∈ p, x.block < W.heap.size := fun x hx => hW2.lt x hx
  refine ⟨_, rfl, post_of_below (pa := p) (pv := []) hW2 (fun b sp hd => ?_) (fun sp hsp => ?_) (fun sp _ => ?_) (by simp) hB ?_⟩
  · rw [List.append_nil, hfn, hrt]
    exact trodAll_cons_mk (shut_bool hbool true) trodAll_mk0
  · rw [List.append_nil, hfn]
    exact trodAll_stays hl hB _ _ _ _ hread hA hlt (fun x hx => hsp x hx)
  · rw [List.append_nil, hfn, hsv]
    rfl
  · exact ok_one hrt rfl (okWide_bool_mk hbool true)
end

/-- A list of integers as cells. -/
def IntCells (cs : List Value) : Prop := ∀ v ∈ cs, ∃ n, v = .int .i64 n ∧ (Lit.int .i64 n).wf = true
theorem wf_bd {n : Int} (h : (Lit.int .i64 n).wf = true) : -9223372036854775808 ≤ n ∧ n ≤ 9223372036854775807 := bounds_i64 h

section
variable {H : Type} {enc : TypeId × Value → H} {P : Program} {w : World} {base : Nat} {spare : Nat → Bool} {held : Bool}

theorem intCells_int {e : TypeId} (he : P.underlying e = some (.int .i64)) {fuel : Nat} {cs : List Value} {x : DataW H × List MemPlace} (h : DataW.trod enc P w base spare held fuel e cs = some x) : cs.length = 1 ∧ IntCells cs := by
  obtain ⟨a, e0, _, wa⟩ := DataW.trod_int he h
  subst e0
  exact ⟨rfl, fun v hv => by
    obtain rfl : v = .int .i64 a := by simpa using hv
    exact ⟨a, rfl, wa⟩⟩
/-- A struct whose fields are made of integers is made of integers: the fields' cells, one after the other. -/
theorem intCells_struct {t : TypeId} {fs : Array Field} (hs : P.underlying t = some (.struct fs)) (hf : ∀ (i : Nat) (f : Field), fs[i]? = some f → ∀ {fuel : Nat} {cs : List Value} {x : DataW H × List MemPlace}, DataW.trod enc P w base spare held fuel f.type cs = some x → IntCells cs)
    (hcov : ∀ k, k < P.cellsOf t → ∃ (i : Nat) (f : Field) (n : Nat), fs[i]? = some f ∧ P.cellsOf f.type = n ∧ f.offset ≤ k ∧ k < f.offset + n) {fuel : Nat} {cs : List Value} {x : DataW H × List MemPlace} (h : DataW.trod enc P w base spare held fuel t cs = some x) : cs.length = P.cellsOf t ∧ IntCells cs := by
  obtain ⟨xs, n, _, _, hl, hxl, hg⟩ := DataW.trod_struct hs h
  refine ⟨hl, fun v hv => ?_⟩
  obtain ⟨k, hk, he⟩ := List.getElem_of_mem hv
  obtain ⟨i, f, m, hi, hm, h1, h2⟩ := hcov k (by omega)
  subst hm
  have hlt : i < xs.length := by rw [hxl]; exact (Array.getElem?_eq_some_iff.1 hi).1
  have hy := hg i f hi
  rw [List.getElem?_eq_getElem hlt] at hy
  refine hf i f hi hy v ?_
  rw [List.mem_iff_getElem?]
  refine ⟨k - f.offset, ?_⟩
  rw [List.getElem?_take_of_lt (by omega), List.getElem?_drop, show f.offset + (k - f.offset) = k by omega, List.getElem?_eq_getElem hk, he]
theorem intCells_array {t e : TypeId} {m : Nat} (hs : P.underlying t = some (.array m e)) (he : ∀ {fuel : Nat} {cs : List Value} {x : DataW H × List MemPlace}, DataW.trod enc P w base spare held fuel e cs = some x → IntCells cs) (hc : P.cellsOf t = m * P.cellsOf e)
    (hpos : 0 < P.cellsOf e) {fuel : Nat} {cs : List Value} {x : DataW H × List MemPlace} (h : DataW.trod enc P w base spare held fuel t cs = some x) : cs.length = P.cellsOf t ∧ IntCells cs := by
  obtain ⟨xs, n, _, _, hl, hxl, hg⟩ := DataW.trod_array hs h
  refine ⟨hl, fun v hv => ?_⟩
  obtain ⟨k, hk, hke⟩ := List.getElem_of_mem hv
  have hi : k / P.cellsOf e < m := by
    rw [Nat.div_lt_iff_lt_mul hpos]
    omega
  have hlt : k / P.cellsOf e < xs.length := by omega
  have hy := hg _ hi
  rw [List.getElem?_eq_getElem hlt] at hy
  have hm := Nat.mod_lt k hpos
  have hd := Nat.div_add_mod k (P.cellsOf e)
  rw [Nat.mul_comm] at hd
  refine he hy v ?_
  rw [List.mem_iff_getElem?]
  refine ⟨k % P.cellsOf e, ?_⟩
  rw [List.getElem?_take_of_lt hm, List.getElem?_drop, hd, List.getElem?_eq_getElem hk, hke]

/-- Integers, written out. -/
theorem ints1 {cs : Array Value} (h : cs.toList.length = 1 ∧ IntCells cs.toList) : ∃ a, cs = #[.int .i64 a] ∧ (Lit.int .i64 a).wf = true := by
  obtain ⟨l⟩ := cs
  match l, h with
  | [v0], ⟨_, h⟩ =>
    obtain ⟨a, rfl, wa⟩ := h v0 (by simp)
    exact ⟨a, rfl, wa⟩
theorem ints2 {cs : Array Value} (h : cs.toList.length = 2 ∧ IntCells cs.toList) : ∃ a b, cs = #[.int .i64 a, .int .i64 b] ∧ (Lit.int .i64 a).wf = true ∧ (Lit.int .i64 b).wf = true := by
  obtain ⟨l⟩ := cs
  match l, h with
  | [v0, v1], ⟨_, h⟩ =>
    obtain ⟨a, rfl, wa⟩ := h v0 (by simp)
    obtain ⟨b, rfl, wb⟩ := h v1 (by simp)
    exact ⟨a, b, rfl, wa, wb⟩
theorem ints3 {cs : Array Value} (h : cs.toList.length = 3 ∧ IntCells cs.toList) : ∃ a b c, cs = #[.int .i64 a, .int .i64 b, .int .i64 c] ∧ (Lit.int .i64 a).wf = true ∧ (Lit.int .i64 b).wf = true ∧ (Lit.int .i64 c).wf = true := by
  obtain ⟨l⟩ := cs
  match l, h with
  | [v0, v1, v2], ⟨_, h⟩ =>
    obtain ⟨a, rfl, wa⟩ := h v0 (by simp)
    obtain ⟨b, rfl, wb⟩ := h v1 (by simp)
    obtain ⟨c, rfl, wc⟩ := h v2 (by simp)
    exact ⟨a, b, c, rfl, wa, wb, wc⟩

theorem agg_cells {cs : Array Value} {d : DataW H} {p : List MemPlace} {t : TypeId} (h : DataW.Trod enc P w base spare held t (.agg cs) d p) : ∃ fuel, DataW.trod enc P w base spare held fuel t cs.toList = some (d, p) := h
theorem okWide_array' {t e : TypeId} {m : Nat} {r : Reach} {b : Nat} {v : Value} (ht : P.underlying t = some (.array m e)) (h : Value.okWide P w r b t v) : ∃ cs, v = .agg cs := by
  simp only [Value.okWide, ht] at h
  obtain ⟨cs, h1, _⟩ := h
  exact ⟨cs, h1⟩

theorem open_struct2 {t : TypeId} {fs : Array Field} {r : Reach} {b0 : Nat} {v : Value} {d : DataW H} {p : List MemPlace} (ht : P.underlying t = some (.struct fs)) (his : ∀ {fuel : Nat} {cs : List Value} {x : DataW H × List MemPlace}, DataW.trod enc P w base spare held fuel t cs = some x → cs.length = 2 ∧ IntCells cs)
    (hv : Value.okWide P w r b0 t v) (h : DataW.Trod enc P w base spare held t v d p) : ∃ a b, v = .agg #[.int .i64 a, .int .i64 b] ∧ (Lit.int .i64 a).wf = true ∧ (Lit.int .i64 b).wf = true := by
  obtain ⟨cs, rfl, _⟩ := okWide_struct ht hv
  obtain ⟨fuel, hf⟩ := agg_cells h
  obtain ⟨a, b, rfl, h1, h2⟩ := ints2 (his hf)
  exact ⟨a, b, rfl, h1, h2⟩
theorem open_struct3 {t : TypeId} {fs : Array Field} {r : Reach} {b0 : Nat} {v : Value} {d : DataW H} {p : List MemPlace} (ht : P.underlying t = some (.struct fs)) (his : ∀ {fuel : Nat} {cs : List Value} {x : DataW H × List MemPlace}, DataW.trod enc P w base spare held fuel t cs = some x → cs.length = 3 ∧ IntCells cs)
    (hv : Value.okWide P w r b0 t v) (h : DataW.Trod enc P w base spare held t v d p) : ∃ a b c, v = .agg #[.int .i64 a, .int .i64 b, .int .i64 c] ∧ (Lit.int .i64 a).wf = true ∧ (Lit.int .i64 b).wf = true ∧ (Lit.int .i64 c).wf = true := by
  obtain ⟨cs, rfl, _⟩ := okWide_struct ht hv
  obtain ⟨fuel, hf⟩ := agg_cells h
  obtain ⟨a, b, c, rfl, h1, h2, h3⟩ := ints3 (his hf)
  exact ⟨a, b, c, rfl, h1, h2, h3⟩
theorem open_array2 {t e : TypeId} {m : Nat} {r : Reach} {b0 : Nat} {v : Value} {d : DataW H} {p : List MemPlace} (ht : P.underlying t = some (.array m e)) (his : ∀ {fuel : Nat} {cs : List Value} {x : DataW H × List MemPlace}, DataW.trod enc P w base spare held fuel t cs = some x → cs.length = 2 ∧ IntCells cs)
    (hv : Value.okWide P w r b0 t v) (h : DataW.Trod enc P w base spare held t v d p) : ∃ a b, v = .agg #[.int .i64 a, .int .i64 b] ∧ (Lit.int .i64 a).wf = true ∧ (Lit.int .i64 b).wf = true := by
  obtain ⟨cs, rfl⟩ := okWide_array' ht hv
  obtain ⟨fuel, hf⟩ := agg_cells h
  obtain ⟨a, b, rfl, h1, h2⟩ := ints2 (his hf)
  exact ⟨a, b, rfl, h1, h2⟩
end

end Go.Proofs.YtabbehmodmmgoaaDoor
end

section
namespace Go.Proofs.YtabbehmodmmgoaaDoor
open Go.ChangeShapes Go.WideShapes Go.ChangeAt Go.RowKit Go.Joins

section
variable {H : Type} {enc : TypeId × Value → H} {P : Program} {w : World} {base : Nat} {spare : Nat → Bool} {held : Bool}

theorem open_slice_ints {t e : TypeId} (ht : P.underlying t = some (.slice e)) (he : P.underlying e = some (.int .i64)) (hc : P.cellsOf e = 1) {fuel : Nat} {cs : List Value} {x : DataW H × List MemPlace} (h : DataW.trod enc P w base spare held fuel t cs = some x) :
    ∃ (A : Option Addr) (c : Nat) (xs : List Int), cs = [.slice A xs.length c] ∧ IntsIn w.heap.size w A xs ∧ xs.length ≤ c ∧ c ≤ maxLen ∧ ∀ y ∈ xs, (Lit.int .i64 y).wf = true := by
  rcases open_ints ht he hc h with ⟨hcs, _⟩ | ⟨a, len, cap, zs, hcs, _, hl, hm, hz, _, hcell, hwf⟩
  · exact ⟨none, 0, [], hcs, .inl rfl, Nat.le_refl _, by unfold maxLen; omega, fun y hy => by cases hy⟩
  · have hlen : len ≤ zs.length := by rw [hz]; split <;> omega
    have htl : (zs.take len).length = len := by rw [List.length_take]; omega
    refine ⟨some a, cap, zs.take len, by rw [hcs, htl], ?_, by omega, hm, fun y hy => hwf y (List.mem_of_mem_take hy)⟩
    rcases Nat.eq_zero_or_pos len with h0 | h0
    · exact .inl (by rw [h0]; rfl)
    · obtain ⟨b, off, rfl, hc2⟩ := ints_at hcell (by omega)
      refine .inr ⟨b, off, rfl, ?_, fun j hj => ?_⟩
      · exact World.block_lt_of_cell? w ⟨b, off + 0, none⟩ (hc2 0 (by omega))
      · rw [htl] at hj
        rw [hc2 j (by omega)]
        simp [List.getD, hj]
end

end Go.Proofs.YtabbehmodmmgoaaDoor
end

section
namespace Go.Proofs.YtabbehmodmmgoaaDoor
open Go.ChangeShapes Go.WideShapes Go.ChangeAt Go.RowKit Go.Joins

theorem cells_int : Tryd.prog.cellsOf 3 = 1 := by kernel_rfl
theorem cells_dwind : Tryd.prog.cellsOf 24 = 4 := by kernel_rfl
section
variable {H : Type} {enc : TypeId × Value → H} {w : World} {base b0 : Nat} {spare : Nat → Bool} {held : Bool} {r : Reach}
theorem is_int {fuel : Nat} {cs : List Value} {x : DataW H × List MemPlace} (h : DataW.trod enc Tryd.prog w base spare held fuel 3 cs = some x) : IntCells cs := (intCells_int Tryd.underlying3 h).2
theorem is_dwind {fuel : Nat} {cs : List Value} {x : DataW H × List MemPlace} (h : DataW.trod enc Tryd.prog w base spare held fuel 24 cs = some x) : cs.length = 4 ∧ IntCells cs := by
  rw [← cells_dwind]
  refine intCells_struct Tryd.underlying24 (fun i f hi {_ _ _} hf => ?_) (fun k hk => ?_) h
  · match i, hi with
    | 0, hi => injection hi with hi; subst hi; exact is_int hf
    | 1, hi => injection hi with hi; subst hi; exact is_int hf
    | 2, hi => injection hi with hi; subst hi; exact is_int hf
    | 3, hi => injection hi with hi; subst hi; exact is_int hf
  · rw [cells_dwind] at hk
    rcases (show k = 0 ∨ k = 1 ∨ k = 2 ∨ k = 3 by omega) with rfl | rfl | rfl | rfl
    · exact ⟨0, _, 1, rfl, cells_int, by decide, by decide⟩
    · exact ⟨1, _, 1, rfl, cells_int, by decide, by decide⟩
    · exact ⟨2, _, 1, rfl, cells_int, by decide, by decide⟩
    · exact ⟨3, _, 1, rfl, cells_int, by decide, by decide⟩
set_option maxRecDepth 100000 in
theorem open_dwind {v : Value} {d : DataW H} {p : List MemPlace} (hv : Value.okWide Tryd.prog w r b0 24 v) (h : DataW.Trod enc Tryd.prog w base spare held 24 v d p) : ∃ x1 x2 x3 x4, v = .agg #[.int .i64 x1, .int .i64 x2, .int .i64 x3, .int .i64 x4] := by
  obtain ⟨cs, rfl, _⟩ := okWide_struct Tryd.underlying24 hv
  obtain ⟨fuel, hf⟩ := agg_cells h
  have hi := is_dwind hf
  obtain ⟨l⟩ := cs
  match l, hi with
  | [v1, v2, v3, v4], ⟨_, h⟩ =>
    obtain ⟨x1, rfl, _⟩ := h v1 (by simp)
    obtain ⟨x2, rfl, _⟩ := h v2 (by simp)
    obtain ⟨x3, rfl, _⟩ := h v3 (by simp)
    obtain ⟨x4, rfl, _⟩ := h v4 (by simp)
    exact ⟨x1, x2, x3, x4, rfl⟩
theorem open_ints_arg {P : Program} {t e : TypeId} {v : Value} {d : DataW H} {p : List MemPlace} (ht : P.underlying t = some (.slice e)) (he : P.underlying e = some (.int .i64)) (hc : P.cellsOf e = 1) (hv : Value.okWide P w r b0 t v) (h : DataW.Trod enc P w base spare held t v d p) :
    ∃ (A : Option Addr) (c : Nat) (xs : List Int), v = .slice A xs.length c ∧ IntsIn w.heap.size w A xs ∧ xs.length ≤ c ∧ xs.length ≤ maxLen := by
  obtain ⟨a, len, cap, rfl⟩ := okWide_slice ht hv
  obtain ⟨fuel, hf⟩ := h
  obtain ⟨A, c, xs, e1, hi, hl, hm, _⟩ := open_slice_ints ht he hc hf
  have e2 : Value.slice a len cap = .slice A xs.length c := by simpa [Value.cells] using e1
  exact ⟨A, c, xs, e2, hi, hl, by omega⟩
end
theorem unit_reads {w : World} (h : Lib.VarReads Tryd.prog w "buchholz/design.unitOf" Rows.laid_buchholz_design_unitOf) : UnitIn w := by
  obtain ⟨g, t, cs, fuel, p, h1, h2, h3, h4⟩ := h
  obtain rfl := Option.some.inj ((show Tryd.prog.globalNamed "buchholz/design.unitOf" = some 3 by kernel_rfl).symm.trans h1)
  obtain rfl := Option.some.inj ((show (Tryd.prog.globals[3]?).map (·.type) = some 168 by kernel_rfl).symm.trans h2)
  have e := Lib.cells_of_tab (k := .i64) (zs := unitT) Tryd.underlying168 Tryd.underlying3 cells_int (by kernel_rfl) h4
  have all : ∀ i, i < 6 → w.cell? ⟨3, i, none⟩ = some (.int .i64 (unitT.getD i 0)) := by
    intro i hi
    rw [World.var?_cell h1 h3 i, ← Array.getElem?_toList, e]
    rcases (by omega : i = 0 ∨ i = 1 ∨ i = 2 ∨ i = 3 ∨ i = 4 ∨ i = 5) with rfl | rfl | rfl | rfl | rfl | rfl <;> rfl
  exact ⟨World.block_lt_of_cell? w ⟨_, 0, none⟩ (all 0 (by decide)), all⟩

end Go.Proofs.YtabbehmodmmgoaaDoor
end
