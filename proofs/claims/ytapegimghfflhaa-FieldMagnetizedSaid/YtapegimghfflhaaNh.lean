/- How a law's statement follows from the walk of its function: the arguments read behind the call as before. Arguments that are made of integers, opened. No condition.
Arguments of the law FieldMagnetized, opened: a curve, a drive, a number.
FieldMagnetized: the statement. For every input the law returns true, and each argument reads afterwards as it read before. No condition. -/
import Derived.Test.YtapegimghfflhaaM4
import Derived.ChangeSame
import Derived.JoinedOf
import Derived.JoinedAt
import Derived.Carry
import Derived.ProofKit
import Derived.OpenShut
import Derived.Lib.SmallJoins
import Derived.WideKeyArgs
import Derived.Test.YtapegimghfflhaaMd
import Derived.Deep.Slices
import Derived.Test.YtapegimghfflhaaNg

section
namespace Go.Proofs.Ytapegimghfflhaa
open Go.ChangeShapes Go.WideShapes Go.ChangeAt Go.RowKit Go.Joins

theorem own_knob : ownKnob Try.prog.godebug = none := by kernel_rfl
theorem laid_out : laidOutB Try.prog = true := by kernel_rfl

section
variable {H : Type} {enc : TypeId × Value → H} {P : Program}
theorem trodAll_stays (hl : laidOutB P = true) {W W' : World} {sp : Nat → Bool} (hb : Below W.heap.size W W') : ∀ (ts : List TypeId) (vs : List Value) (ds : List (DataW H)) (ps : List MemPlace), (∀ t ∈ ts, P.readableRec t = true ∧ t < P.types.size) →
    DataW.TrodAll enc P W 0 (fun _ => true) true ts vs ds ps → (∀ x ∈ ps, x.block < W.heap.size) → (∀ x ∈ ps, sp x.block = true) → DataW.TrodAll enc P W' 0 sp true ts vs ds ps
  | [], [], [], _, _, h, _, _ => h
  | t :: ts, v :: vs, d :: ds, ps, hr, ⟨p, q, h1, h2, hp⟩, hlt, hs => by
    subst hp
    refine ⟨p, q, ?_, trodAll_stays hl hb ts vs ds q (fun t ht => hr t (by simp [ht])) h2 (fun x hx => hlt x (by simp [hx])) (fun x hx => hs x (by simp [hx])), rfl⟩
    obtain ⟨g1, g2⟩ := hr t (by simp)
    exact WideElems.Trod_stays hl g1 g2 h1 (fun x hx => hb.same (hlt x (by simp [hx]))) (fun x hx => hs x (by simp [hx]))
  | [], [], _ :: _, _, _, h, _, _ => h.elim
  | [], _ :: _, _, _, _, h, _, _ => by cases ‹List (DataW H)› <;> exact h.elim
  | _ :: _, [], _, _, _, h, _, _ => by cases ‹List (DataW H)› <;> exact h.elim
  | _ :: _, _ :: _, [], _, _, h, _, _ => h.elim

theorem post_of_below {f : Func} {s : ChangeSpec} {apart fresh handsOn again : Bool} {W W' : World} {args : Array Value} {v : Value} {ds gs : List (DataW H)} {before pa pv : List MemPlace}
    (hW : DataW.Whole enc P f.params.toList s.vars apart W args.toList ds gs before)
    (hres : ∀ (b : Nat) (sp : Nat → Bool) (hd : Bool), DataW.TrodAll enc P W' b sp hd f.resultTypes.toList (v.resultList f.resultTypes.size) (s.fn H (ds ++ gs)).results [])
    (hargs : ∀ sp : Nat → Bool, (∀ p ∈ before, sp p.block = true) → DataW.TrodAll enc P W' 0 sp true f.params.toList args.toList (s.fn H (ds ++ gs)).args pa)
    (hvars : ∀ sp : Nat → Bool, (∀ p ∈ before, sp p.block = true) → DataW.TrodVars enc P W' sp s.vars (s.fn H (ds ++ gs)).vars pv)
    (hps : before = pa ++ pv) (hb : Below W.heap.size W W')
    (hok : ∀ (j : Nat) (t : TypeId) (r : Value), f.resultTypes[j]? = some t → (v.resultList f.resultTypes.size)[j]? = some r → Value.okWide P W' .any 0 t r) :
    s.post enc P f apart fresh handsOn again W args v W' := by
  have hlt : ∀ p ∈ before, p.block < W.heap.size := fun p hp => hW.lt p hp
  have hold : ∀ p ∈ before, (fun b => decide (b < W.heap.size)) p.block = true := fun p hp => by simpa using hlt p hp
  refine ⟨ds, gs, before, [], pa, pv, hW, hres _ _ _, hargs _ hold, hvars _ hold, World.keptBut_mono (fun p hp => ⟨hp, ?_⟩) (hb.frame (· ∈ before)), fun _ => ?_⟩
  · rw [hps, List.mem_append] at hp
    exact Or.inr hp
  · obtain ⟨_, _, _, _, _, hz, hn⟩ := hW
    refine ⟨hok, _, _, ([] ++ pa) ++ pv, ⟨[] ++ pa, pv, trodAll_append (hargs _ (fun _ _ => rfl)) (hres _ _ _), hvars _ (fun _ _ => rfl), rfl, ?_, ?_⟩, ?_⟩
    · intro b off hp
      have hin : MemPlace.cell b off ∈ before := by rw [hps]; simpa using hp
      rw [hb.frozen (hlt _ hin)]
      exact hz b off hin
    · intro ha
      have := hn ha
      rw [hps] at this
      simpa using this
    · intro p hp _
      rw [hps]
      simpa using hp

/-- The law's end: it returned true, and nothing that was there has turned. -/
theorem law_end (hl : laidOutB P = true) {f : Func} {s : ChangeSpec} {tb : TypeId} {W W' : World} {args : Array Value} {ds gs : List (DataW H)} {before : List MemPlace}
    (hread : ∀ t ∈ f.params.toList, P.readableRec t = true ∧ t < P.types.size) (hrt : f.resultTypes = #[tb]) (hbool : P.underlying tb = some .bool) (hsv : s.vars = [])
    (hfn : s.fn H ds = { results := [.lit (.bool true)], args := ds }) (hW : DataW.Whole enc P f.params.toList s.vars false W args.toList ds gs before) (hB : Below W.heap.size W W') :
    ∃ v, Ending.returned (.bool true) = .returned v ∧ s.post enc P f false true false false W args v W' := by
  have hW2 := hW
  obtain ⟨p, q, hA, hV, rfl, _, _⟩ := hW
  rw [hsv] at hV
  obtain ⟨rfl, rfl⟩ := trodVars_none hV
  rw [List.append_nil] at hW2
  have hlt : ∀ x ∈ p, x.block < W.heap.size := fun x hx => hW2.lt x hx
  refine ⟨_, rfl, post_of_below (pa := p) (pv := []) hW2 (fun b sp hd => ?_) (fun sp hsp => ?_) (fun sp _ => ?_) (by simp) hB ?_⟩
  · rw [List.append_nil, hfn, hrt]
    exact trodAll_cons_mk (shut_bool hbool true) trodAll_mk0
  · rw [List.append_nil, hfn]
    exact trodAll_stays hl hB _ _ _ _ hread hA hlt (fun x hx => hsp x hx)
  · rw [List.append_nil, hfn, hsv]
    rfl
  · exact ok_one hrt rfl (okWide_bool_mk hbool true)
end

/-- A list of integers as cells. -/
def IntCells (cs : List Value) : Prop := ∀ v ∈ cs, ∃ n, v = .int .i64 n ∧ (Lit.int .i64 n).wf = true
theorem wf_bd {n : Int} (h : (Lit.int .i64 n).wf = true) : -9223372036854775808 ≤ n ∧ n ≤ 9223372036854775807 := bounds_i64 h

section
variable {H : Type} {enc : TypeId × Value → H} {P : Program} {w : World} {base : Nat} {spare : Nat → Bool} {held : Bool}

theorem intCells_int {e : TypeId} (he : P.underlying e = some (.int .i64)) {fuel : Nat} {cs : List Value} {x : DataW H × List MemPlace} (h : DataW.trod enc P w base spare held fuel e cs = some x) : cs.length = 1 ∧ IntCells cs := by
  obtain ⟨a, e0, _, wa⟩ := DataW.trod_int he h
  subst e0
  exact ⟨rfl, fun v hv => by
    obtain rfl : v = .int .i64 a := by simpa using hv
    exact ⟨a, rfl, wa⟩⟩
/-- A struct whose fields are made of integers is made of integers: the fields' cells, one after the other. -/
theorem intCells_struct {t : TypeId} {fs : Array Field} (hs : P.underlying t = some (.struct fs)) (hf : ∀ (i : Nat) (f : Field), fs[i]? = some f → ∀ {fuel : Nat} {cs : List Value} {x : DataW H × List MemPlace}, DataW.trod enc P w base spare held fuel f.type cs = some x → IntCells cs)
    (hcov : ∀ k, k < P.cellsOf t → ∃ (i : Nat) (f : Field) (n : Nat), fs[i]? = some f ∧ P.cellsOf f.type = n ∧ f.offset ≤ k ∧ k < f.offset + n) {fuel : Nat} {cs : List Value} {x : DataW H × List MemPlace} (h : DataW.trod enc P w base spare held fuel t cs = some x) : cs.length = P.cellsOf t ∧ IntCells cs := by
  obtain ⟨xs, n, _, _, hl, hxl, hg⟩ := DataW.trod_struct hs h
  refine ⟨hl, fun v hv => ?_⟩
  obtain ⟨k, hk, he⟩ := List.getElem_of_mem hv
  obtain ⟨i, f, m, hi, hm, h1, h2⟩ := hcov k (by omega)
  subst hm
  have hlt : i < xs.length := by rw [hxl]; exact (Array.getElem?_eq_some_iff.1 hi).1
  have hy := hg i f hi
  rw [List.getElem?_eq_getElem hlt] at hy
  refine hf i f hi hy v ?_
  rw [List.mem_iff_getElem?]
  refine ⟨k - f.offset, ?_⟩
  rw [List.getElem?_take_of_lt (by omega), List.getElem?_drop, show f.offset + (k - f.offset) = k by omega, List.getElem?_eq_getElem hk, he]
theorem intCells_array {t e : TypeId} {m : Nat} (hs : P.underlying t = some (.array m e)) (he : ∀ {fuel : Nat} {cs : List Value} {x : DataW H × List MemPlace}, DataW.trod enc P w base spare held fuel e cs = some x → IntCells cs) (hc : P.cellsOf t = m * P.cellsOf e)
    (hpos : 0 < P.cellsOf e) {fuel : Nat} {cs : List Value} {x : DataW H × List MemPlace} (h : DataW.trod enc P w base spare held fuel t cs = some x) : cs.length = P.cellsOf t ∧ IntCells cs := by
  obtain ⟨xs, n, _, _, hl, hxl, hg⟩ := DataW.trod_array hs h
  refine ⟨hl, fun v hv => ?_⟩
  obtain ⟨k, hk, hke⟩ := List.getElem_of_mem hv
  have hi : k / P.cellsOf e < m := by
    rw [Nat.div_lt_iff_lt_mul hpos]
    omega
  have hlt : k / P.cellsOf e < xs.length := by omega
  have hy := hg _ hi
  rw [List.getElem?_eq_getElem hlt] at hy
  have hm := Nat.mod_lt k hpos
  have hd := Nat.div_add_mod k (P.cellsOf e)
  rw [Nat.mul_comm] at hd
  refine he hy v ?_
  rw [List.mem_iff_getElem?]
  refine ⟨k % P.cellsOf e, ?_⟩
  rw [List.getElem?_take_of_lt hm, List.getElem?_drop, hd, List.getElem?_eq_getElem hk, hke]

/-- Integers, written out. -/
theorem ints1 {cs : Array Value} (h : cs.toList.length = 1 ∧ IntCells cs.toList) : ∃ a, cs = #[.int .i64 a] ∧ (Lit.int .i64 a).wf = true := by
  obtain ⟨l⟩ := cs
  match l, h with
  | [v0], ⟨_, h⟩ =>
    obtain ⟨a, rfl, wa⟩ := h v0 (by simp)
    exact ⟨a, rfl, wa⟩
theorem ints2 {cs : Array Value} (h : cs.toList.length = 2 ∧ IntCells cs.toList) : ∃ a b, cs = #[.int .i64 a, .int .i64 b] ∧ (Lit.int .i64 a).wf = true ∧ (Lit.int .i64 b).wf = true := by
  obtain ⟨l⟩ := cs
  match l, h with
  | [v0, v1], ⟨_, h⟩ =>
    obtain ⟨a, rfl, wa⟩ := h v0 (by simp)
    obtain ⟨b, rfl, wb⟩ := h v1 (by simp)
    exact ⟨a, b, rfl, wa, wb⟩
theorem ints3 {cs : Array Value} (h : cs.toList.length = 3 ∧ IntCells cs.toList) : ∃ a b c, cs = #[.int .i64 a, .int .i64 b, .int .i64 c] ∧ (Lit.int .i64 a).wf = true ∧ (Lit.int .i64 b).wf = true ∧ (Lit.int .i64 c).wf = true := by
  obtain ⟨l⟩ := cs
  match l, h with
  | [v0, v1, v2], ⟨_, h⟩ =>
    obtain ⟨a, rfl, wa⟩ := h v0 (by simp)
    obtain ⟨b, rfl, wb⟩ := h v1 (by simp)
    obtain ⟨c, rfl, wc⟩ := h v2 (by simp)
    exact ⟨a, b, c, rfl, wa, wb, wc⟩

theorem agg_cells {cs : Array Value} {d : DataW H} {p : List MemPlace} {t : TypeId} (h : DataW.Trod enc P w base spare held t (.agg cs) d p) : ∃ fuel, DataW.trod enc P w base spare held fuel t cs.toList = some (d, p) := h
theorem okWide_array' {t e : TypeId} {m : Nat} {r : Reach} {b : Nat} {v : Value} (ht : P.underlying t = some (.array m e)) (h : Value.okWide P w r b t v) : ∃ cs, v = .agg cs := by
  simp only [Value.okWide, ht] at h
  obtain ⟨cs, h1, _⟩ := h
  exact ⟨cs, h1⟩

theorem open_struct2 {t : TypeId} {fs : Array Field} {r : Reach} {b0 : Nat} {v : Value} {d : DataW H} {p : List MemPlace} (ht : P.underlying t = some (.struct fs)) (his : ∀ {fuel : Nat} {cs : List Value} {x : DataW H × List MemPlace}, DataW.trod enc P w base spare held fuel t cs = some x → cs.length = 2 ∧ IntCells cs)
    (hv : Value.okWide P w r b0 t v) (h : DataW.Trod enc P w base spare held t v d p) : ∃ a b, v = .agg #[.int .i64 a, .int .i64 b] ∧ (Lit.int .i64 a).wf = true ∧ (Lit.int .i64 b).wf = true := by
  obtain ⟨cs, rfl, _⟩ := okWide_struct ht hv
  obtain ⟨fuel, hf⟩ := agg_cells h
  obtain ⟨a, b, rfl, h1, h2⟩ := ints2 (his hf)
  exact ⟨a, b, rfl, h1, h2⟩
theorem open_struct3 {t : TypeId} {fs : Array Field} {r : Reach} {b0 : Nat} {v : Value} {d : DataW H} {p : List MemPlace} (ht : P.underlying t = some (.struct fs)) (his : ∀ {fuel : Nat} {cs : List Value} {x : DataW H × List MemPlace}, DataW.trod enc P w base spare held fuel t cs = some x → cs.length = 3 ∧ IntCells cs)
    (hv : Value.okWide P w r b0 t v) (h : DataW.Trod enc P w base spare held t v d p) : ∃ a b c, v = .agg #[.int .i64 a, .int .i64 b, .int .i64 c] ∧ (Lit.int .i64 a).wf = true ∧ (Lit.int .i64 b).wf = true ∧ (Lit.int .i64 c).wf = true := by
  obtain ⟨cs, rfl, _⟩ := okWide_struct ht hv
  obtain ⟨fuel, hf⟩ := agg_cells h
  obtain ⟨a, b, c, rfl, h1, h2, h3⟩ := ints3 (his hf)
  exact ⟨a, b, c, rfl, h1, h2, h3⟩
theorem open_array2 {t e : TypeId} {m : Nat} {r : Reach} {b0 : Nat} {v : Value} {d : DataW H} {p : List MemPlace} (ht : P.underlying t = some (.array m e)) (his : ∀ {fuel : Nat} {cs : List Value} {x : DataW H × List MemPlace}, DataW.trod enc P w base spare held fuel t cs = some x → cs.length = 2 ∧ IntCells cs)
    (hv : Value.okWide P w r b0 t v) (h : DataW.Trod enc P w base spare held t v d p) : ∃ a b, v = .agg #[.int .i64 a, .int .i64 b] ∧ (Lit.int .i64 a).wf = true ∧ (Lit.int .i64 b).wf = true := by
  obtain ⟨cs, rfl⟩ := okWide_array' ht hv
  obtain ⟨fuel, hf⟩ := agg_cells h
  obtain ⟨a, b, rfl, h1, h2⟩ := ints2 (his hf)
  exact ⟨a, b, rfl, h1, h2⟩
end

end Go.Proofs.Ytapegimghfflhaa
end

section
namespace Go.Proofs.Ytapegimghfflhaa
open Go.ChangeShapes Go.WideShapes Go.ChangeAt Go.RowKit Go.Joins Go.Deep

theorem cells_int : Try.prog.cellsOf 3 = 1 := by kernel_rfl
theorem cells_point : Try.prog.cellsOf 89 = 2 := by kernel_rfl
theorem cells_points : Try.prog.cellsOf 22 = 1 := by kernel_rfl
theorem cells_curve : Try.prog.cellsOf 24 = 1 := by kernel_rfl
theorem cells_at : Try.prog.cellsOf 26 = 3 := by kernel_rfl
theorem choose_ltD {α : Type} [Inhabited α] {n : Nat} {p : Nat → α → Prop} (h : ∀ i, i < n → ∃ y, p i y) : ∃ F : Nat → α, ∀ i, i < n → p i (F i) := by
  classical
  refine ⟨fun i => if hi : i < n then Classical.choose (h i hi) else default, fun i hi => ?_⟩
  simp only [hi, dif_pos]
  exact Classical.choose_spec (h i hi)

section
variable {H : Type} {enc : TypeId × Value → H} {w : World} {base b0 : Nat} {spare : Nat → Bool} {held : Bool} {r : Reach}
theorem is_int {fuel : Nat} {cs : List Value} {x : DataW H × List MemPlace} (h : DataW.trod enc Try.prog w base spare held fuel 3 cs = some x) : IntCells cs := (intCells_int Try.underlying3 h).2
theorem is_at {fuel : Nat} {cs : List Value} {x : DataW H × List MemPlace} (h : DataW.trod enc Try.prog w base spare held fuel 26 cs = some x) : cs.length = 3 ∧ IntCells cs := by
  rw [← cells_at]
  refine intCells_struct Try.underlying26 (fun i f hi {_ _ _} hf => ?_) (fun k hk => ?_) h
  · match i, hi with
    | 0, hi => injection hi with hi; subst hi; exact is_int hf
    | 1, hi => injection hi with hi; subst hi; exact is_int hf
    | 2, hi => injection hi with hi; subst hi; exact is_int hf
  · rw [cells_at] at hk
    rcases (show k = 0 ∨ k = 1 ∨ k = 2 by omega) with rfl | rfl | rfl
    · exact ⟨0, _, 1, rfl, cells_int, by decide, by decide⟩
    · exact ⟨1, _, 1, rfl, cells_int, by decide, by decide⟩
    · exact ⟨2, _, 1, rfl, cells_int, by decide, by decide⟩
theorem is_point {fuel : Nat} {cs : List Value} {x : DataW H × List MemPlace} (h : DataW.trod enc Try.prog w base spare held fuel 89 cs = some x) : ∃ y : DTerm, cs = termU y := by
  have h2 : cs.length = 2 ∧ IntCells cs := by
    rw [← cells_point]
    refine intCells_struct Try.underlying89 (fun i f hi {_ _ _} hf => ?_) (fun k hk => ?_) h
    · match i, hi with
      | 0, hi => injection hi with hi; subst hi; exact is_int hf
      | 1, hi => injection hi with hi; subst hi; exact is_int hf
    · rw [cells_point] at hk
      rcases (show k = 0 ∨ k = 1 by omega) with rfl | rfl
      · exact ⟨0, _, 1, rfl, cells_int, by decide, by decide⟩
      · exact ⟨1, _, 1, rfl, cells_int, by decide, by decide⟩
  match cs, h2 with
  | [v0, v1], ⟨_, hi⟩ =>
    obtain ⟨a0, rfl, _⟩ := hi v0 (by simp)
    obtain ⟨a1, rfl, _⟩ := hi v1 (by simp)
    exact ⟨⟨a0, a1⟩, rfl⟩
set_option maxRecDepth 100000 in
theorem open_points {fuel : Nat} {cs : List Value} {x : DataW H × List MemPlace} (hf : DataW.trod enc Try.prog w base spare held fuel 22 cs = some x) :
    ∃ (A : Option Addr) (c : Nat) (ts : List DTerm), cs = [.slice A ts.length c] ∧ CellsIn w.heap.size w A (termsC ts) ∧ ts.length ≤ c := by
  rcases open_slice Try.underlying22 hf with ⟨hcs, _⟩ | ⟨a, len, cap, m, n, D, Pl, hcs, _, hl, hm, hmm, _, hx⟩
  · exact ⟨none, 0, [], hcs, .inl rfl, Nat.le_refl _⟩
  · have hlm : len ≤ m := by rw [hmm]; split <;> omega
    rw [cells_point] at hx
    obtain ⟨F, hF⟩ := choose_ltD (n := len) (p := fun i (y : DTerm) => w.cells? base (a.add (i * 2)) 2 = some (termU y)) fun i hi => by
      obtain ⟨cs', h1, h2⟩ := hx i (by omega)
      obtain ⟨y, rfl⟩ := is_point h2
      exact ⟨y, h1⟩
    have hlen : ((List.range len).map F).length = len := by simp
    refine ⟨some a, cap, (List.range len).map F, by rw [hlen]; exact hcs, ?_, by omega⟩
    rcases Nat.eq_zero_or_pos len with h0 | h0
    · exact .inl (by rw [h0]; rfl)
    · obtain ⟨b, off, spot⟩ := a
      have hspot : spot = none := by
        have h2 := (World.cells?_some (hF 0 h0)).2.2 0 (by omega)
        have h3 : (termU (F 0))[0]? = some (.int .i64 (F 0).f) := rfl
        rw [h3] at h2
        simpa [Addr.add] using World.cell?_spot h2
      subst hspot
      have hat : ∀ i, i < len → ∀ q, q < 2 → w.cell? ⟨b, off + i * 2 + q, none⟩ = (termU (F i))[q]? := fun i hi q hq => by
        have h4 := (World.cells?_some (hF i hi)).2.2 q hq
        rw [Go.WideShapes.add_plain, Go.WideShapes.add_plain] at h4
        exact h4
      refine .inr ⟨b, off, rfl, World.block_lt_of_cell? w ⟨b, off + 0 * 2 + 0, none⟩ (u := .int .i64 (F 0).f) ((hat 0 h0 0 (by decide)).trans rfl), fun q hq => ?_⟩
      have hq2 : q < len * 2 := by
        have := flat_len term_len ((List.range len).map F)
        rw [hlen] at this
        unfold termsC at hq
        omega
      have hi : q / 2 < len := by omega
      have e := flat_at term_len (l := (List.range len).map F) (j := q / 2) (k := q % 2) (by rw [hlen]; exact hi) (by omega)
      have e2 : ((List.range len).map F).getD (q / 2) default = F (q / 2) := by simp [List.getD, hi]
      rw [e2, show q / 2 * 2 + q % 2 = q by omega] at e
      have h5 := hat (q / 2) hi (q % 2) (by omega)
      rw [Nat.add_assoc, show q / 2 * 2 + q % 2 = q by omega] at h5
      exact h5.trans e.symm
set_option maxRecDepth 100000 in
theorem open_curve {v : Value} {d : DataW H} {p : List MemPlace} (hv : Value.okWide Try.prog w r b0 24 v) (h : DataW.Trod enc Try.prog w base spare held 24 v d p) :
    ∃ (A : Option Addr) (c : Nat) (ts : List DTerm), v = .agg #[.slice A ts.length c] ∧ CellsIn w.heap.size w A (termsC ts) := by
  obtain ⟨cs0, rfl, _⟩ := okWide_struct Try.underlying24 hv
  obtain ⟨fuel, hf⟩ := agg_cells h
  obtain ⟨xs, n, _, _, hl, hxl, hg⟩ := DataW.trod_struct Try.underlying24 hf
  rw [cells_curve] at hl
  have hxl1 : xs.length = 1 := hxl
  have h0 : DataW.trod enc Try.prog w base spare held n 22 ((cs0.toList.drop 0).take (Try.prog.cellsOf 22)) = xs[0]? := hg 0 _ rfl
  rw [List.getElem?_eq_getElem (by omega)] at h0
  rw [cells_points] at h0
  obtain ⟨A, c, ts, e1, hi, _⟩ := open_points h0
  obtain ⟨l⟩ := cs0
  match l, hl with
  | [v0], _ =>
    refine ⟨A, c, ts, ?_, hi⟩
    simp only [List.drop_zero, List.take_succ_cons, List.take_zero, List.cons.injEq, and_true] at e1
    rw [e1]
set_option maxRecDepth 100000 in
theorem open_at {v : Value} {d : DataW H} {p : List MemPlace} (hv : Value.okWide Try.prog w r b0 26 v) (h : DataW.Trod enc Try.prog w base spare held 26 v d p) : ∃ a b c, v = .agg #[.int .i64 a, .int .i64 b, .int .i64 c] ∧ (Lit.int .i64 a).wf = true ∧ (Lit.int .i64 b).wf = true ∧ (Lit.int .i64 c).wf = true := open_struct3 Try.underlying26 is_at hv h
end

end Go.Proofs.Ytapegimghfflhaa
end

section
namespace Go.Proofs.Ytapegimghfflhaa
open Go.ChangeShapes Go.WideShapes Go.ChangeAt Go.RowKit Go.Joins

theorem within_le {x lo hi : Int} (h : withinB x lo hi = true) : lo ≤ x ∧ x ≤ hi := by
  unfold withinB at h
  simpa using h
theorem mag_any (cv : List DTerm) (A : Option Addr) (c : Nat) (f g t more : Int) (w : World) (hr : CellsIn w.heap.size w A (termsC cv)) :
    Calls Try.prog 3 #[.agg #[.slice A cv.length c], .agg #[.int .i64 f, .int .i64 g, .int .i64 t], .int .i64 more] w fun e w' => e = .returned (.bool true) ∧ Below w.heap.size w w' := by
  rcases Nat.lt_or_ge 10 cv.length with h | h
  · exact mag_skip w.heap.size cv A cv.length c f g t more w hr (Nat.le_refl _) rfl (.inl h)
  · by_cases hc : (curveC cv).2 = 0
    · by_cases hw : withinB f (-2000) 2000 = true ∧ withinB g 0 19 = true ∧ withinB t 0 99000 = true ∧ withinB more 0 1000 = true
      · obtain ⟨h1, h2, h3, h4⟩ := hw
        exact mag_main w.heap.size cv A cv.length c f g t more w hr (Nat.le_refl _) rfl h hc (within_le h1) (within_le h2) (within_le h3) (within_le h4)
      · exact mag_skip w.heap.size cv A cv.length c f g t more w hr (Nat.le_refl _) rfl (.inr ⟨h, .inr hw⟩)
    · exact mag_skip w.heap.size cv A cv.length c f g t more w hr (Nat.le_refl _) rfl (.inr ⟨h, .inl hc⟩)

set_option maxRecDepth 100000 in
theorem mag_lifted (os : Os) (started : os.Started) (H : Type) (enc : TypeId × Value → H) :
    ReturnsInHanded {} Try.checked os 3 .any (Rows.fieldMagnetizedSpec.pre6 enc Try.prog Try.f3 Rows.fieldMagnetizedRow.domain false) (Rows.fieldMagnetizedSpec.post enc Try.prog Try.f3 false true false false) := by
  refine returnsInHanded_of_change (C := Try.checked) own_knob started (by kernel_rfl) Try.func3
    (ChangeSpec.witness6 (enc := enc) (C := Try.checked) false ⟨#[], #[.agg #[.slice none 0 0], .agg #[.int .i64 0, .int .i64 0, .int .i64 0], .int .i64 0], []⟩ 8 (by kernel_rfl) (by kernel_rfl) (by kernel_rfl) (by kernel_rfl)) ?_
  intro W base args ds gs before hval0 hW _ _
  have hval : ∀ (j : Nat) t v, Try.f3.params[j]? = some t → args[j]? = some v → Value.okWide Try.prog W .any base t v := hval0
  have hW' := hW
  obtain ⟨p, q, hA0, hV, rfl, hfz, hnd⟩ := hW
  have hA : DataW.TrodAll enc Try.prog W 0 (fun _ => true) true Try.f3.params.toList args.toList ds p := hA0
  rw [Try.params3] at hA hval
  obtain ⟨v0, vs0, d0, ds0, p0, q0, hargs, rfl, rfl, h0, r0⟩ := trodAll_cons hA
  obtain ⟨v1, vs1, d1, ds1, p1, q1, rfl, rfl, rfl, h1, r1⟩ := trodAll_cons r0
  obtain ⟨v2, vs2, d2, ds2, p2, q2, rfl, rfl, rfl, h2, r2⟩ := trodAll_cons r1
  obtain ⟨rfl, rfl, rfl⟩ := trodAll_nil r2
  obtain rfl : args = #[v0, v1, v2] := by cases args; simp_all
  obtain ⟨A, c, cv, rfl, hi⟩ := open_curve (hval 0 _ v0 rfl rfl) h0
  obtain ⟨f, g, t, rfl, _, _, _⟩ := open_at (hval 1 _ v1 rfl rfl) h1
  obtain ⟨more, rfl⟩ := okWide_int Try.underlying3 (hval 2 _ v2 rfl rfl)
  clear hA0 hval0 hval hA h0 h1 h2 r0 r1 r2
  refine (mag_any cv A c f g t more W hi).mono fun e W' ⟨he, hb⟩ => ?_
  subst he
  exact law_end laid_out (fun t ht => (by decide +kernel : ∀ t ∈ Try.f3.params.toList, Try.prog.readableRec t = true ∧ t < Try.prog.types.size) t ht) rfl Try.underlying4 rfl rfl hW' hb

theorem mag_over : Rows.fieldMagnetizedRow.holds Try.pinned (OpenSpec.ofChange Rows.fieldMagnetizedSpec) :=
  OpenClaim.holds_of_wide 3 Try.f3 rfl rfl rfl rfl rfl rfl rfl ⟨rfl, rfl, rfl, rfl, rfl⟩ rfl rfl rfl rfl rfl (by kernel_rfl) Try.func3 (by kernel_rfl)
    (of_decide_eq_true (by kernel_rfl)) (by unfold Func.isWrapper; first | (rw [if_pos (by decide +kernel)]; kernel_rfl) | (rw [if_neg (by decide +kernel)]; exact ⟨rfl, rfl⟩))
    (fun os started H enc _ => mag_lifted os started H enc)

theorem fieldMagnetized_holds : Rows.FieldMagnetizedSaid := mag_over
#print axioms fieldMagnetized_holds

end Go.Proofs.Ytapegimghfflhaa
end
