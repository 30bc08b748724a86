/- How a law's statement follows from the walk of its function: the arguments read behind the call as before. Arguments that are made of integers, opened. No condition. -/
import Derived.Test.YtpdkbhjcpddnpaaDoorAWords
import Derived.ChangeSame
import Derived.JoinedOf
import Derived.JoinedAt
import Derived.Carry
import Derived.ProofKit
import Derived.OpenShut
import Derived.Lib.SmallJoins
import Derived.WideKeyArgs
namespace Go.Proofs.YtpdkbhjcpddnpaaDoor
open Go.ChangeShapes Go.WideShapes Go.ChangeAt Go.RowKit Go.Joins

theorem own_knob : ownKnob Tryd.prog.godebug = none := by kernel_rfl
theorem laid_out : laidOutB Tryd.prog = true := by kernel_rfl

section
variable {H : Type} {enc : TypeId × Value → H} {P : Program}
theorem trodAll_stays (hl : laidOutB P = true) {W W' : World} {sp : Nat → Bool} (hb : Below W.heap.size W W') : ∀ (ts : List TypeId) (vs : List Value) (ds : List (DataW H)) (ps : List MemPlace), (∀ t ∈ ts, P.readableRec t = true ∧ t < P.types.size) →
    DataW.TrodAll enc P W 0 (fun _ => true) true ts vs ds ps → (∀ x ∈ ps, x.block < W.heap.size) → (∀ x ∈ ps, sp x.block = true) → DataW.TrodAll enc P W' 0 sp true ts vs ds ps
  | [], [], [], _, _, h, _, _ => h
  | t :: ts, v :: vs, d :: ds, ps, hr, ⟨p, q, h1, h2, hp⟩, hlt, hs => by
    subst hp
    refine ⟨p, q, ?_, trodAll_stays hl hb ts vs ds q (fun t ht => hr t (by simp [ht])) h2 (fun x hx => hlt x (by simp [hx])) (fun x hx => hs x (by simp [hx])), rfl⟩
    obtain ⟨g1, g2⟩ := hr t (by simp)
    exact WideElems.Trod_stays hl g1 g2 h1 (fun x hx => hb.same (hlt x (by simp [hx]))) (fun x hx => hs x (by simp [hx]))
  | [], [], _ :: _, _, _, h, _, _ => h.elim
  | [], _ :: _, _, _, _, h, _, _ => by cases ‹List (DataW H)› <;> exact h.elim
  | _ :: _, [], _, _, _, h, _, _ => by cases ‹List (DataW H)› <;> exact h.elim
  | _ :: _, _ :: _, [], _, _, h, _, _ => h.elim

theorem post_of_below {f : Func} {s : ChangeSpec} {apart fresh handsOn again : Bool} {W W' : World} {args : Array Value} {v : Value} {ds gs : List (DataW H)} {before pa pv : List MemPlace}
    (hW : DataW.Whole enc P f.params.toList s.vars apart W args.toList ds gs before)
    (hres : ∀ (b : Nat) (sp : Nat → Bool) (hd : Bool), DataW.TrodAll enc P W' b sp hd f.resultTypes.toList (v.resultList f.resultTypes.size) (s.fn H (ds ++ gs)).results [])
    (hargs : ∀ sp : Nat → Bool, (∀ p ∈ before, sp p.block = true) → DataW.TrodAll enc P W' 0 sp true f.params.toList args.toList (s.fn H (ds ++ gs)).args pa)
    (hvars : ∀ sp : Nat → Bool, (∀ p ∈ before, sp p.block = true) → DataW.TrodVars enc P W' sp s.vars (s.fn H (ds ++ gs)).vars pv)
    (hps : before = pa ++ pv) (hb : Below W.heap.size W W')
    (hok : ∀ (j : Nat) (t : TypeId) (r : Value), f.resultTypes[j]? = some t → (v.resultList f.resultTypes.size)[j]? = some r → Value.okWide P W' .any 0 t r) :
    s.post enc P f apart fresh handsOn again W args v W' := by
  have hlt : ∀ p ∈ before, p.block < W.heap.size := fun p hp => hW.lt p hp
  have hold : ∀ p ∈ before, (fun b => decide (b < W.heap.size)) p.block = true := fun p hp => by simpa using hlt p hp
  refine ⟨ds, gs, before, [], pa, pv, hW, hres _ _ _, hargs _ hold, hvars _ hold, World.keptBut_mono (fun p hp => ⟨hp, ?_⟩) (hb.frame (· ∈ before)), fun _ => ?_⟩
  · rw [hps, List.mem_append] at hp
    exact Or.inr hp
  · obtain ⟨_, _, _, _, _, hz, hn⟩ := hW
    refine ⟨hok, _, _, ([] ++ pa) ++ pv, ⟨[] ++ pa, pv, trodAll_append (hargs _ (fun _ _ => rfl)) (hres _ _ _), hvars _ (fun _ _ => rfl), rfl, ?_, ?_⟩, ?_⟩
    · intro b off hp
      have hin : MemPlace.cell b off ∈ before := by rw [hps]; simpa using hp
      rw [hb.frozen (hlt _ hin)]
      exact hz b off hin
    · intro ha
      have := hn ha
      rw [hps] at this
      simpa using this
    · intro p hp _
      rw [hps]
      simpa using hp

/-- The law's end: it returned true, and nothing that was there has turned. -/
theorem law_end (hl : laidOutB P = true) {f : Func} {s : ChangeSpec} {tb : TypeId} {W W' : World} {args : Array Value} {ds gs : List (DataW H)} {before : List MemPlace}
    (hread : ∀ t ∈ f.params.toList, P.readableRec t = true ∧ t < P.types.size) (hrt : f.resultTypes = #[tb]) (hbool : P.underlying tb = some .bool) (hsv : s.vars = [])
    (hfn : s.fn H ds = { results := [.lit (.bool true)], args := ds }) (hW : DataW.Whole enc P f.params.toList s.vars false W args.toList ds gs before) (hB : Below W.heap.size W W') :
    ∃ v, Ending.returned (.bool true) = .returned v ∧ s.post enc P f false true false false W args v W' := by
  have hW2 := hW
  obtain ⟨p, q, hA, hV, rfl, _, _⟩ := hW
  rw [hsv] at hV
  obtain ⟨rfl, rfl⟩ := trodVars_none hV
  rw [List.append_nil] at hW2
  have hlt : ∀ x ∈ p, x.block < W.heap.size := fun x hx => hW2.lt x hx
  refine ⟨_, rfl, post_of_below (pa := p) (pv := []) hW2 (fun b sp hd => ?_) (fun sp hsp => ?_) (fun sp _ => ?_) (by simp) hB ?_⟩
  · rw [List.append_nil, hfn, hrt]
    exact trodAll_cons_mk (shut_bool hbool true) trodAll_mk0
  · rw [List.append_nil, hfn]
    exact trodAll_stays hl hB _ _ _ _ hread hA hlt (fun x hx => hsp x hx)
  · rw [List.append_nil, hfn, hsv]
    rfl
  · exact ok_one hrt rfl (okWide_bool_mk hbool true)
end

/-- A list of integers as cells. -/
def IntCells (cs : List Value) : Prop := ∀ v ∈ cs, ∃ n, v = .int .i64 n ∧ (Lit.int .i64 n).wf = true
theorem wf_bd {n : Int} (h : (Lit.int .i64 n).wf = true) : -9223372036854775808 ≤ n ∧ n ≤ 9223372036854775807 := bounds_i64 h

section
variable {H : Type} {enc : TypeId × Value → H} {P : Program} {w : World} {base : Nat} {spare : Nat → Bool} {held : Bool}

theorem intCells_int {e : TypeId} (he : P.underlying e = some (.int .i64)) {fuel : Nat} {cs : List Value} {x : DataW H × List MemPlace} (h : DataW.trod enc P w base spare held fuel e cs = some x) : cs.length = 1 ∧ IntCells cs := by
  obtain ⟨a, e0, _, wa⟩ := DataW.trod_int he h
  subst e0
  exact ⟨rfl, fun v hv => by
    obtain rfl : v = .int .i64 a := by simpa using hv
    exact ⟨a, rfl, wa⟩⟩
/-- A struct whose fields are made of integers is made of integers: the fields' cells, one after the other. -/
theorem intCells_struct {t : TypeId} {fs : Array Field} (hs : P.underlying t = some (.struct fs)) (hf : ∀ (i : Nat) (f : Field), fs[i]? = some f → ∀ {fuel : Nat} {cs : List Value} {x : DataW H × List MemPlace}, DataW.trod enc P w base spare held fuel f.type cs = some x → IntCells cs)
    (hcov : ∀ k, k < P.cellsOf t → ∃ (i : Nat) (f : Field) (n : Nat), fs[i]? = some f ∧ P.cellsOf f.type = n ∧ f.offset ≤ k ∧ k < f.offset + n) {fuel : Nat} {cs : List Value} {x : DataW H × List MemPlace} (h : DataW.trod enc P w base spare held fuel t cs = some x) : cs.length = P.cellsOf t ∧ IntCells cs := by
  obtain ⟨xs, n, _, _, hl, hxl, hg⟩ := DataW.trod_struct hs h
  refine ⟨hl, fun v hv => ?_⟩
  obtain ⟨k, hk, he⟩ := List.getElem_of_mem hv
  obtain ⟨i, f, m, hi, hm, h1, h2⟩ := hcov k (by omega)
  subst hm
  have hlt : i < xs.length := by rw [hxl]; exact (Array.getElem?_eq_some_iff.1 hi).1
  have hy := hg i f hi
  rw [List.getElem?_eq_getElem hlt] at hy
  refine hf i f hi hy v ?_
  rw [List.mem_iff_getElem?]
  refine ⟨k - f.offset, ?_⟩
  rw [List.getElem?_take_of_lt (by omega), List.getElem?_drop, show f.offset + (k - f.offset) = k by omega, List.getElem?_eq_getElem hk, he]
theorem intCells_array {t e : TypeId} {m : Nat} (hs : P.underlying t = some (.array m e)) (he : ∀ {fuel : Nat} {cs : List Value} {x : DataW H × List MemPlace}, DataW.trod enc P w base spare held fuel e cs = some x → IntCells cs) (hc : P.cellsOf t = m * P.cellsOf e)
    (hpos : 0 < P.cellsOf e) {fuel : Nat} {cs : List Value} {x : DataW H × List MemPlace} (h : DataW.trod enc P w base spare held fuel t cs = some x) : cs.length = P.cellsOf t ∧ IntCells cs := by
  obtain ⟨xs, n, _, _, hl, hxl, hg⟩ := DataW.trod_array hs h
  refine ⟨hl, fun v hv => ?_⟩
  obtain ⟨k, hk, hke⟩ := List.getElem_of_mem hv
  have hi : k / P.cellsOf e < m := by
    rw [Nat.div_lt_iff_lt_mul hpos]
    omega
  have hlt : k / P.cellsOf e < xs.length := by omega
  have hy := hg _ hi
  rw [List.getElem?_eq_getElem hlt] at hy
  have hm := Nat.mod_lt k hpos
  have hd := Nat.div_add_mod k (P.cellsOf e)
  rw [Nat.mul_comm] at hd
  refine he hy v ?_
  rw [List.mem_iff_getElem?]
  refine ⟨k % P.cellsOf e, ?_⟩
  rw [List.getElem?_take_of_lt hm, List.getElem?_drop, hd, List.getElem?_eq_getElem hk, hke]

/-- Integers, written out. -/
theorem ints1 {cs : Array Value} (h : cs.toList.length = 1 ∧ IntCells cs.toList) : ∃ a, cs = #[.int .i64 a] ∧ (Lit.int .i64 a).wf = true := by
  obtain ⟨l⟩ := cs
  match l, h with
  | [v0], ⟨_, h⟩ =>
    obtain ⟨a, rfl, wa⟩ := h v0 (by simp)
    exact ⟨a, rfl, wa⟩
theorem ints2 {cs : Array Value} (h : cs.toList.length = 2 ∧ IntCells cs.toList) : ∃ a b, cs = #[.int .i64 a, .int .i64 b] ∧ (Lit.int .i64 a).wf = true ∧ (Lit.int .i64 b).wf = true := by
  obtain ⟨l⟩ := cs
  match l, h with
  | [v0, v1], ⟨_, h⟩ =>
    obtain ⟨a, rfl, wa⟩ := h v0 (by simp)
    obtain ⟨b, rfl, wb⟩ := h v1 (by simp)
    exact ⟨a, b, rfl, wa, wb⟩
theorem ints3 {cs : Array Value} (h : cs.toList.length = 3 ∧ IntCells cs.toList) : ∃ a b c, cs = #[.int .i64 a, .int .i64 b, .int .i64 c] ∧ (Lit.int .i64 a).wf = true ∧ (Lit.int .i64 b).wf = true ∧ (Lit.int .i64 c).wf = true := by
  obtain ⟨l⟩ := cs
  match l, h with
  | [v0, v1, v2], ⟨_, h⟩ =>
    obtain ⟨a, rfl, wa⟩ := h v0 (by simp)
    obtain ⟨b, rfl, wb⟩ := h v1 (by simp)
    obtain ⟨c, rfl, wc⟩ := h v2 (by simp)
    exact ⟨a, b, c, rfl, wa, wb, wc⟩

theorem agg_cells {cs : Array Value} {d : DataW H} {p : List MemPlace} {t : TypeId} (h : DataW.Trod enc P w base spare held t (.agg cs) d p) : ∃ fuel, DataW.trod enc P w base spare held fuel t cs.toList = some (d, p) := h
theorem okWide_array' {t e : TypeId} {m : Nat} {r : Reach} {b : Nat} {v : Value} (ht : P.underlying t = some (.array m e)) (h : Value.okWide P w r b t v) : ∃ cs, v = .agg cs := by
  simp only [Value.okWide, ht] at h
  obtain ⟨cs, h1, _⟩ := h
  exact ⟨cs, h1⟩

theorem open_struct2 {t : TypeId} {fs : Array Field} {r : Reach} {b0 : Nat} {v : Value} {d : DataW H} {p : List MemPlace} (ht : P.underlying t = some (.struct fs)) (his : ∀ {fuel : Nat} {cs : List Value} {x : DataW H × List MemPlace}, DataW.trod enc P w base spare held fuel t cs = some x → cs.length = 2 ∧ IntCells cs)
    (hv : Value.okWide P w r b0 t v) (h : DataW.Trod enc P w base spare held t v d p) : ∃ a b, v = .agg #[.int .i64 a, .int .i64 b] ∧ (Lit.int .i64 a).wf = true ∧ (Lit.int .i64 b).wf = true := by
  obtain ⟨cs, rfl, _⟩ := okWide_struct ht hv
  obtain ⟨fuel, hf⟩ := agg_cells h
  obtain ⟨a, b, rfl, h1, h2⟩ := ints2 (his hf)
  exact ⟨a, b, rfl, h1, h2⟩
theorem open_struct3 {t : TypeId} {fs : Array Field} {r : Reach} {b0 : Nat} {v : Value} {d : DataW H} {p : List MemPlace} (ht : P.underlying t = some (.struct fs)) (his : ∀ {fuel : Nat} {cs : List Value} {x : DataW H × List MemPlace}, DataW.trod enc P w base spare held fuel t cs = some x → cs.length = 3 ∧ IntCells cs)
    (hv : Value.okWide P w r b0 t v) (h : DataW.Trod enc P w base spare held t v d p) : ∃ a b c, v = .agg #[.int .i64 a, .int .i64 b, .int .i64 c] ∧ (Lit.int .i64 a).wf = true ∧ (Lit.int .i64 b).wf = true ∧ (Lit.int .i64 c).wf = true := by
  obtain ⟨cs, rfl, _⟩ := okWide_struct ht hv
  obtain ⟨fuel, hf⟩ := agg_cells h
  obtain ⟨a, b, c, rfl, h1, h2, h3⟩ := ints3 (his hf)
  exact ⟨a, b, c, rfl, h1, h2, h3⟩
theorem open_array2 {t e : TypeId} {m : Nat} {r : Reach} {b0 : Nat} {v : Value} {d : DataW H} {p : List MemPlace} (ht : P.underlying t = some (.array m e)) (his : ∀ {fuel : Nat} {cs : List Value} {x : DataW H × List MemPlace}, DataW.trod enc P w base spare held fuel t cs = some x → cs.length = 2 ∧ IntCells cs)
    (hv : Value.okWide P w r b0 t v) (h : DataW.Trod enc P w base spare held t v d p) : ∃ a b, v = .agg #[.int .i64 a, .int .i64 b] ∧ (Lit.int .i64 a).wf = true ∧ (Lit.int .i64 b).wf = true := by
  obtain ⟨cs, rfl⟩ := okWide_array' ht hv
  obtain ⟨fuel, hf⟩ := agg_cells h
  obtain ⟨a, b, rfl, h1, h2⟩ := ints2 (his hf)
  exact ⟨a, b, rfl, h1, h2⟩
end

end Go.Proofs.YtpdkbhjcpddnpaaDoor
