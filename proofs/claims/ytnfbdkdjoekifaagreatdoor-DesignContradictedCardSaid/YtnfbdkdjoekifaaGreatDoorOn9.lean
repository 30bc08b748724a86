/- How a law's statement follows from the walk of its function: the arguments read behind the call as before. Arguments that are made of integers, opened. No condition.
Arguments that are slices of integers, opened.
Arguments of the design chapter's laws, opened: windings; the table of the units, read.
Arguments of chapter 2's laws, opened: pairs of numbers; tables of words, read.
Arguments that are stocks, opened.
Arguments that are specifications, opened; stocks whose parts have six values. Printed by a program (gen_d8opena.py). -/
import Derived.Test.YtnfbdkdjoekifaaGreatDoorOa2
import Derived.ChangeSame
import Derived.JoinedOf
import Derived.JoinedAt
import Derived.Carry
import Derived.ProofKit
import Derived.OpenShut
import Derived.Lib.SmallJoins
import Derived.WideKeyArgs
import Derived.ChangeSlices
import Derived.Deep.AppendLies
import Derived.Test.YtnfbdkdjoekifaaGreatDoorOa7
import Derived.Test.YtnfbdkdjoekifaaGreatDoorRows
import Derived.Lib.LaidTab
import Derived.Lib.LaidU8
import Derived.Test.YtnfbdkdjoekifaaGreatDoorOg1
import Derived.Test.YtnfbdkdjoekifaaGreatDoorOa3
import Derived.Deep.Slices
import Derived.Test.YtnfbdkdjoekifaaGreatDoorOn2

section
namespace Go.Proofs.YtnfbdkdjoekifaaGreatDoor
open Go.ChangeShapes Go.WideShapes Go.ChangeAt Go.RowKit Go.Joins

theorem own_knob : ownKnob Tryz.prog.godebug = none := by kernel_rfl
theorem laid_out : laidOutB Tryz.prog = true := by kernel_rfl

section
variable {H : Type} {enc : TypeId × Value → H} {P : Program}
theorem trodAll_stays (hl : laidOutB P = true) {W W' : World} {sp : Nat → Bool} (hb : Below W.heap.size W W') : ∀ (ts : List TypeId) (vs : List Value) (ds : List (DataW H)) (ps : List MemPlace), (∀ t ∈ ts, P.readableRec t = true ∧ t < P.types.size) →
    DataW.TrodAll enc P W 0 (fun _ => true) true ts vs ds ps → (∀ x ∈ ps, x.block < W.heap.size) → (∀ x ∈ ps, sp x.block = true) → DataW.TrodAll enc P W' 0 sp true ts vs ds ps
  | [], [], [], _, _, h, _, _ => h
  | t :: ts, v :: vs, d :: ds, ps, hr, ⟨p, q, h1, h2, hp⟩, hlt, hs => by
    subst hp
    refine ⟨p, q, ?_, trodAll_stays hl hb ts vs ds q (fun t ht => hr t (by simp [ht])) h2 (fun x hx => hlt x (by simp [hx])) (fun x hx => hs x (by simp [hx])), rfl⟩
    obtain ⟨g1, g2⟩ := hr t (by simp)
    exact WideElems.Trod_stays hl g1 g2 h1 (fun x hx => hb.same (hlt x (by simp [hx]))) (fun x hx => hs x (by simp [hx]))
  | [], [], _ :: _, _, _, h, _, _ => h.elim
  | [], _ :: _, _, _, _, h, _, _ => by cases ‹List (DataW H)› <;> exact h.elim
  | _ :: _, [], _, _, _, h, _, _ => by cases ‹List (DataW H)› <;> exact h.elim
  | _ :: _, _ :: _, [], _, _, h, _, _ => h.elim

theorem post_of_below {f : Func} {s : ChangeSpec} {apart fresh handsOn again : Bool} {W W' : World} {args : Array Value} {v : Value} {ds gs : List (DataW H)} {before pa pv : List MemPlace}
    (hW : DataW.Whole enc P f.params.toList s.vars apart W args.toList ds gs before)
    (hres : ∀ (b : Nat) (sp : Nat → Bool) (hd : Bool), DataW.TrodAll enc P W' b sp hd f.resultTypes.toList (v.resultList f.resultTypes.size) (s.fn H (ds ++ gs)).results [])
    (hargs : ∀ sp : Nat → Bool, (∀ p ∈ before, sp p.block = true) → DataW.TrodAll enc P W' 0 sp true f.params.toList args.toList (s.fn H (ds ++ gs)).args pa)
    (hvars : ∀ sp : Nat → Bool, (∀ p ∈ before, sp p.block = true) → DataW.TrodVars enc P W' sp s.vars (s.fn H (ds ++ gs)).vars pv)
    (hps : before = pa ++ pv) (hb : Below W.heap.size W W')
    (hok : ∀ (j : Nat) (t : TypeId) (r : Value), f.resultTypes[j]? = some t → (v.resultList f.resultTypes.size)[j]? = some r → Value.okWide P W' .any 0 t r) :
    s.post enc P f apart fresh handsOn again W args v W' := by
  have hlt : ∀ p ∈ before, p.block < W.heap.size := fun p hp => hW.lt p hp
  have hold : ∀ p ∈ before, (fun b => decide (b < W.heap.size)) p.block = true := fun p hp => by simpa using hlt p hp
  refine ⟨ds, gs, before, [], pa, pv, hW, hres _ _ _, hargs _ hold, hvars _ hold, World.keptBut_mono (fun p hp => ⟨hp, ?_⟩) (hb.frame (· ∈ before)), fun _ => ?_⟩
  · rw [hps, List.mem_append] at hp
    exact Or.inr hp
  · obtain ⟨_, _, _, _, _, hz, hn⟩ := hW
    refine ⟨hok, _, _, ([] ++ pa) ++ pv, ⟨[] ++ pa, pv, trodAll_append (hargs _ (fun _ _ => rfl)) (hres _ _ _), hvars _ (fun _ _ => rfl), rfl, ?_, ?_⟩, ?_⟩
    · intro b off hp
      have hin : MemPlace.cell b off ∈ before := by rw [hps]; simpa using hp
      rw [hb.frozen (hlt _ hin)]
      exact hz b off hin
    · intro ha
      have := hn ha
      rw [hps] at this
      simpa using this
    · intro p hp _
      rw [hps]
      simpa using hp

/-- The law's end: it returned true, and nothing that was there has turned. -/
theorem law_end (hl : laidOutB P = true) {f : Func} {s : ChangeSpec} {tb : TypeId} {W W' : World} {args : Array Value} {ds gs : List (DataW H)} {before : List MemPlace}
    (hread : ∀ t ∈ f.params.toList, P.readableRec t = true ∧ t < P.types.size) (hrt : f.resultTypes = #[tb]) (hbool : P.underlying tb = some .bool) (hsv : s.vars = [])
    (hfn : s.fn H ds = { results := [.lit (.bool true)], args := ds }) (hW : DataW.Whole enc P f.params.toList s.vars false W args.toList ds gs before) (hB : Below W.heap.size W W') :
    ∃ v, Ending.returned (.bool true) = .returned v ∧ s.post enc P f false true false false W args v W' := by
  have hW2 := hW
  obtain ⟨p, q, hA, hV, rfl, _, _⟩ := hW
  rw [hsv] at hV
  obtain ⟨rfl, rfl⟩ := trodVars_none hV
  rw [List.append_nil] at hW2
  have hlt : ∀ x ∈ p, x.block < W.heap.size := fun x hx => hW2.lt x hx
  refine ⟨_, rfl, post_of_below (pa := p) (pv := []) hW2 (fun b sp hd => ?_) (fun sp hsp => ?_) (fun sp _ => ?_) (by simp) hB ?_⟩
  · rw [List.append_nil, hfn, hrt]
    exact trodAll_cons_mk (shut_bool hbool true) trodAll_mk0
  · rw [List.append_nil, hfn]
    exact trodAll_stays hl hB _ _ _ _ hread hA hlt (fun x hx => hsp x hx)
  · rw [List.append_nil, hfn, hsv]
    rfl
  · exact ok_one hrt rfl (okWide_bool_mk hbool true)
end

/-- A list of integers as cells. -/
def IntCells (cs : List Value) : Prop := ∀ v ∈ cs, ∃ n, v = .int .i64 n ∧ (Lit.int .i64 n).wf = true
section
variable {H : Type} {enc : TypeId × Value → H} {P : Program} {w : World} {base : Nat} {spare : Nat → Bool} {held : Bool}

theorem intCells_int {e : TypeId} (he : P.underlying e = some (.int .i64)) {fuel : Nat} {cs : List Value} {x : DataW H × List MemPlace} (h : DataW.trod enc P w base spare held fuel e cs = some x) : cs.length = 1 ∧ IntCells cs := by
  obtain ⟨a, e0, _, wa⟩ := DataW.trod_int he h
  subst e0
  exact ⟨rfl, fun v hv => by
    obtain rfl : v = .int .i64 a := by simpa using hv
    exact ⟨a, rfl, wa⟩⟩
/-- A struct whose fields are made of integers is made of integers: the fields' cells, one after the other. -/
theorem intCells_struct {t : TypeId} {fs : Array Field} (hs : P.underlying t = some (.struct fs)) (hf : ∀ (i : Nat) (f : Field), fs[i]? = some f → ∀ {fuel : Nat} {cs : List Value} {x : DataW H × List MemPlace}, DataW.trod enc P w base spare held fuel f.type cs = some x → IntCells cs)
    (hcov : ∀ k, k < P.cellsOf t → ∃ (i : Nat) (f : Field) (n : Nat), fs[i]? = some f ∧ P.cellsOf f.type = n ∧ f.offset ≤ k ∧ k < f.offset + n) {fuel : Nat} {cs : List Value} {x : DataW H × List MemPlace} (h : DataW.trod enc P w base spare held fuel t cs = some x) : cs.length = P.cellsOf t ∧ IntCells cs := by
  obtain ⟨xs, n, _, _, hl, hxl, hg⟩ := DataW.trod_struct hs h
  refine ⟨hl, fun v hv => ?_⟩
  obtain ⟨k, hk, he⟩ := List.getElem_of_mem hv
  obtain ⟨i, f, m, hi, hm, h1, h2⟩ := hcov k (by omega)
  subst hm
  have hlt : i < xs.length := by rw [hxl]; exact (Array.getElem?_eq_some_iff.1 hi).1
  have hy := hg i f hi
  rw [List.getElem?_eq_getElem hlt] at hy
  refine hf i f hi hy v ?_
  rw [List.mem_iff_getElem?]
  refine ⟨k - f.offset, ?_⟩
  rw [List.getElem?_take_of_lt (by omega), List.getElem?_drop, show f.offset + (k - f.offset) = k by omega, List.getElem?_eq_getElem hk, he]
theorem intCells_array {t e : TypeId} {m : Nat} (hs : P.underlying t = some (.array m e)) (he : ∀ {fuel : Nat} {cs : List Value} {x : DataW H × List MemPlace}, DataW.trod enc P w base spare held fuel e cs = some x → IntCells cs) (hc : P.cellsOf t = m * P.cellsOf e)
    (hpos : 0 < P.cellsOf e) {fuel : Nat} {cs : List Value} {x : DataW H × List MemPlace} (h : DataW.trod enc P w base spare held fuel t cs = some x) : cs.length = P.cellsOf t ∧ IntCells cs := by
  obtain ⟨xs, n, _, _, hl, hxl, hg⟩ := DataW.trod_array hs h
  refine ⟨hl, fun v hv => ?_⟩
  obtain ⟨k, hk, hke⟩ := List.getElem_of_mem hv
  have hi : k / P.cellsOf e < m := by
    rw [Nat.div_lt_iff_lt_mul hpos]
    omega
  have hlt : k / P.cellsOf e < xs.length := by omega
  have hy := hg _ hi
  rw [List.getElem?_eq_getElem hlt] at hy
  have hm := Nat.mod_lt k hpos
  have hd := Nat.div_add_mod k (P.cellsOf e)
  rw [Nat.mul_comm] at hd
  refine he hy v ?_
  rw [List.mem_iff_getElem?]
  refine ⟨k % P.cellsOf e, ?_⟩
  rw [List.getElem?_take_of_lt hm, List.getElem?_drop, hd, List.getElem?_eq_getElem hk, hke]

theorem agg_cells {cs : Array Value} {d : DataW H} {p : List MemPlace} {t : TypeId} (h : DataW.Trod enc P w base spare held t (.agg cs) d p) : ∃ fuel, DataW.trod enc P w base spare held fuel t cs.toList = some (d, p) := h
end

end Go.Proofs.YtnfbdkdjoekifaaGreatDoor
end

section
namespace Go.Proofs.YtnfbdkdjoekifaaGreatDoor
open Go.ChangeShapes Go.WideShapes Go.ChangeAt Go.RowKit Go.Joins

section
variable {H : Type} {enc : TypeId × Value → H} {P : Program} {w : World} {base : Nat} {spare : Nat → Bool} {held : Bool}

end

end Go.Proofs.YtnfbdkdjoekifaaGreatDoor
end

section
namespace Go.Proofs.YtnfbdkdjoekifaaGreatDoor
open Go.ChangeShapes Go.WideShapes Go.ChangeAt Go.RowKit Go.Joins

theorem cells_int : Tryz.prog.cellsOf 3 = 1 := by kernel_rfl
section
variable {H : Type} {enc : TypeId × Value → H} {w : World} {base b0 : Nat} {spare : Nat → Bool} {held : Bool} {r : Reach}
theorem is_int {fuel : Nat} {cs : List Value} {x : DataW H × List MemPlace} (h : DataW.trod enc Tryz.prog w base spare held fuel 3 cs = some x) : IntCells cs := (intCells_int Tryz.underlying3 h).2
end
theorem unit_reads {w : World} (h : Lib.VarReads Tryz.prog w "buchholz/design.unitOf" Rows.laid_buchholz_design_unitOf) : UnitIn w := by
  obtain ⟨g, t, cs, fuel, p, h1, h2, h3, h4⟩ := h
  obtain rfl := Option.some.inj ((show Tryz.prog.globalNamed "buchholz/design.unitOf" = some 3 by kernel_rfl).symm.trans h1)
  obtain rfl := Option.some.inj ((show (Tryz.prog.globals[3]?).map (·.type) = some 46 by kernel_rfl).symm.trans h2)
  have e := Lib.cells_of_tab (k := .i64) (zs := unitT) Tryz.underlying46 Tryz.underlying3 cells_int (by kernel_rfl) h4
  have all : ∀ i, i < 6 → w.cell? ⟨3, i, none⟩ = some (.int .i64 (unitT.getD i 0)) := by
    intro i hi
    rw [World.var?_cell h1 h3 i, ← Array.getElem?_toList, e]
    rcases (by omega : i = 0 ∨ i = 1 ∨ i = 2 ∨ i = 3 ∨ i = 4 ∨ i = 5) with rfl | rfl | rfl | rfl | rfl | rfl <;> rfl
  exact ⟨World.block_lt_of_cell? w ⟨_, 0, none⟩ (all 0 (by decide)), all⟩

end Go.Proofs.YtnfbdkdjoekifaaGreatDoor
end

section
namespace Go.Proofs.YtnfbdkdjoekifaaGreatDoor
open Go.ChangeShapes Go.WideShapes Go.ChangeAt Go.RowKit Go.Joins

theorem cells_string : Tryz.prog.cellsOf 9 = 1 := by kernel_rfl
set_option maxRecDepth 100000 in
theorem tab_strs {w : World} {n : String} {T : List (List UInt8)} {g : Nat} {t : TypeId} {m : Nat} (h : Lib.VarReads Tryz.prog w n (.agg (T.map fun b => .lit (.string b)))) (hg : Tryz.prog.globalNamed n = some g) (ht : (Tryz.prog.globals[g]?).map (·.type) = some t) (hu : Tryz.prog.underlying t = some (.array m 9)) (hm : T.length = m) (h0 : 0 < m) : TabS g T w := by
  obtain ⟨g', t', cs, fuel, p, h1, h2, h3, h4⟩ := h
  obtain rfl := Option.some.inj (hg.symm.trans h1)
  obtain rfl := Option.some.inj (ht.symm.trans h2)
  have all : ∀ i, i < T.length → w.cell? ⟨g, i, none⟩ = some (strV (T.getD i [])) := by
    intro i hi
    obtain ⟨fuel', d, q, hd, htr⟩ := Lib.array_elem hu h4 i (by omega)
    rw [List.getElem?_map, List.getElem?_eq_getElem hi] at hd
    rw [cells_string, Nat.mul_one] at htr
    obtain ⟨s, e1, e2, _⟩ := DataW.trod_string Tryz.underlying9 htr
    have e3 : cs.toList[i]? = some (.string s) := by
      have := congrArg (·[0]?) e1
      simpa [List.getElem?_take, List.getElem?_drop] using this
    have e4 : T[i] = s.data.toList := by
      have e5 := (Option.some.inj hd).trans (congrArg Prod.fst e2)
      injection e5 with e6
      injection e6
    have e7 : T.getD i [] = s.data.toList := by rw [← e4]; simp [List.getD, hi]
    rw [World.var?_cell h1 h3 i, ← Array.getElem?_toList, e3, e7]
  exact ⟨World.block_lt_of_cell? w ⟨_, 0, none⟩ (all 0 (by omega)), all⟩
theorem qwords_read {w : World} (h : Lib.VarReads Tryz.prog w "buchholz/design.quantityWords" Rows.laid_buchholz_design_quantityWords) : TabS 1 qWords w :=
  tab_strs (T := qWords) (m := 6) (t := 127) h (by kernel_rfl) (by kernel_rfl) Tryz.underlying127 rfl (by decide)
theorem uwords_read {w : World} (h : Lib.VarReads Tryz.prog w "buchholz/design.unitWords" Rows.laid_buchholz_design_unitWords) : TabS 0 uWords w :=
  tab_strs (T := uWords) (m := 3) (t := 106) h (by kernel_rfl) (by kernel_rfl) Tryz.underlying106 rfl (by decide)

end Go.Proofs.YtnfbdkdjoekifaaGreatDoor
end

section
namespace Go.Proofs.YtnfbdkdjoekifaaGreatDoor
open Go.ChangeShapes Go.WideShapes Go.ChangeAt Go.RowKit Go.Joins Go.Deep

theorem cells_rangeS : Tryz.prog.cellsOf 57 = 2 := by kernel_rfl
theorem cells_ranges : Tryz.prog.cellsOf 58 = 12 := by kernel_rfl
theorem cells_part : Tryz.prog.cellsOf 60 = 14 := by kernel_rfl
theorem cells_parts : Tryz.prog.cellsOf 61 = 1 := by kernel_rfl
theorem cells_slots : Tryz.prog.cellsOf 25 = 1 := by kernel_rfl
theorem cells_stock : Tryz.prog.cellsOf 27 = 3 := by kernel_rfl
theorem choose_ltD {α : Type} [Inhabited α] {n : Nat} {p : Nat → α → Prop} (h : ∀ i, i < n → ∃ y, p i y) : ∃ F : Nat → α, ∀ i, i < n → p i (F i) := by
  classical
  refine ⟨fun i => if hi : i < n then Classical.choose (h i hi) else default, fun i hi => ?_⟩
  simp only [hi, dif_pos]
  exact Classical.choose_spec (h i hi)

section
variable {H : Type} {enc : TypeId × Value → H} {w : World} {base b0 : Nat} {spare : Nat → Bool} {held : Bool} {r : Reach}
theorem is_range {fuel : Nat} {cs : List Value} {x : DataW H × List MemPlace} (h : DataW.trod enc Tryz.prog w base spare held fuel 57 cs = some x) : cs.length = 2 ∧ IntCells cs := by
  rw [← cells_rangeS]
  refine intCells_struct Tryz.underlying57 (fun i f hi {_ _ _} hf => ?_) (fun k hk => ?_) h
  · match i, hi with
    | 0, hi => injection hi with hi; subst hi; exact is_int hf
    | 1, hi => injection hi with hi; subst hi; exact is_int hf
  · rw [cells_rangeS] at hk
    rcases (show k = 0 ∨ k = 1 by omega) with rfl | rfl
    · exact ⟨0, _, 1, rfl, cells_int, by decide, by decide⟩
    · exact ⟨1, _, 1, rfl, cells_int, by decide, by decide⟩
set_option maxRecDepth 100000 in
theorem is_part {fuel : Nat} {cs : List Value} {x : DataW H × List MemPlace} (h : DataW.trod enc Tryz.prog w base spare held fuel 60 cs = some x) : ∃ y : DPart, cs = partU y := by
  obtain ⟨xs, n, _, _, hl, hxl, hg⟩ := DataW.trod_struct Tryz.underlying60 h
  rw [cells_part] at hl
  have hxl3 : xs.length = 3 := hxl
  have h0 : DataW.trod enc Tryz.prog w base spare held n 9 ((cs.drop 0).take (Tryz.prog.cellsOf 9)) = xs[0]? := hg 0 _ rfl
  have h1 : DataW.trod enc Tryz.prog w base spare held n 3 ((cs.drop 1).take (Tryz.prog.cellsOf 3)) = xs[1]? := hg 1 _ rfl
  have h2 : DataW.trod enc Tryz.prog w base spare held n 58 ((cs.drop 2).take (Tryz.prog.cellsOf 58)) = xs[2]? := hg 2 _ rfl
  rw [List.getElem?_eq_getElem (by omega)] at h0 h1 h2
  rw [cells_string] at h0
  rw [cells_int] at h1
  rw [cells_ranges] at h2
  obtain ⟨-, hi⟩ := intCells_array Tryz.underlying58 (fun hf => (is_range hf).2) (by kernel_rfl) (by rw [cells_rangeS]; decide) h2
  match cs, hl with
  | [v0, v1, v2, v3, v4, v5, v6, v7, v8, v9, v10, v11, v12, v13], _ =>
    obtain ⟨s, e0, _, _⟩ := DataW.trod_string Tryz.underlying9 h0
    obtain ⟨a1, e1, _, _⟩ := DataW.trod_int Tryz.underlying3 h1
    have hi2 : IntCells [v2, v3, v4, v5, v6, v7, v8, v9, v10, v11, v12, v13] := hi
    obtain ⟨a2, rfl, _⟩ := hi2 v2 (by simp)
    obtain ⟨a3, rfl, _⟩ := hi2 v3 (by simp)
    obtain ⟨a4, rfl, _⟩ := hi2 v4 (by simp)
    obtain ⟨a5, rfl, _⟩ := hi2 v5 (by simp)
    obtain ⟨a6, rfl, _⟩ := hi2 v6 (by simp)
    obtain ⟨a7, rfl, _⟩ := hi2 v7 (by simp)
    obtain ⟨a8, rfl, _⟩ := hi2 v8 (by simp)
    obtain ⟨a9, rfl, _⟩ := hi2 v9 (by simp)
    obtain ⟨a10, rfl, _⟩ := hi2 v10 (by simp)
    obtain ⟨a11, rfl, _⟩ := hi2 v11 (by simp)
    obtain ⟨a12, rfl, _⟩ := hi2 v12 (by simp)
    obtain ⟨a13, rfl, _⟩ := hi2 v13 (by simp)
    simp only [List.drop_zero, List.take_succ_cons, List.take_zero, List.drop_succ_cons, List.cons.injEq, and_true] at e0 e1
    refine ⟨⟨s, a1, [(a2, a3), (a4, a5), (a6, a7), (a8, a9), (a10, a11), (a12, a13)]⟩, ?_⟩
    rw [e0, e1]
    rfl
set_option maxRecDepth 100000 in
theorem open_parts {fuel : Nat} {cs : List Value} {x : DataW H × List MemPlace} (hf : DataW.trod enc Tryz.prog w base spare held fuel 61 cs = some x) :
    ∃ (A : Option Addr) (c : Nat) (ts : List DPart), cs = [.slice A ts.length c] ∧ CellsIn w.heap.size w A (partsC ts) ∧ ts.length ≤ c := by
  rcases open_slice Tryz.underlying61 hf with ⟨hcs, _⟩ | ⟨a, len, cap, m, n, D, Pl, hcs, _, hl, hm, hmm, _, hx⟩
  · exact ⟨none, 0, [], hcs, .inl rfl, Nat.le_refl _⟩
  · have hlm : len ≤ m := by rw [hmm]; split <;> omega
    rw [cells_part] at hx
    obtain ⟨F, hF⟩ := choose_ltD (n := len) (p := fun i (y : DPart) => w.cells? base (a.add (i * 14)) 14 = some (partU y)) fun i hi => by
      obtain ⟨cs', h1, h2⟩ := hx i (by omega)
      obtain ⟨y, rfl⟩ := is_part h2
      exact ⟨y, h1⟩
    have hlen : ((List.range len).map F).length = len := by simp
    refine ⟨some a, cap, (List.range len).map F, by rw [hlen]; exact hcs, ?_, by omega⟩
    rcases Nat.eq_zero_or_pos len with h0 | h0
    · exact .inl (by rw [h0]; rfl)
    · obtain ⟨b, off, spot⟩ := a
      have hspot : spot = none := by
        have h2 := (World.cells?_some (hF 0 h0)).2.2 0 (by omega)
        have h3 : (partU (F 0))[0]? = some (.string (F 0).name) := rfl
        rw [h3] at h2
        simpa [Addr.add] using World.cell?_spot h2
      subst hspot
      have hat : ∀ i, i < len → ∀ q, q < 14 → w.cell? ⟨b, off + i * 14 + q, none⟩ = (partU (F i))[q]? := fun i hi q hq => by
        have h4 := (World.cells?_some (hF i hi)).2.2 q hq
        rw [Go.WideShapes.add_plain, Go.WideShapes.add_plain] at h4
        exact h4
      refine .inr ⟨b, off, rfl, World.block_lt_of_cell? w ⟨b, off + 0 * 14 + 0, none⟩ (u := .string (F 0).name) ((hat 0 h0 0 (by decide)).trans rfl), fun q hq => ?_⟩
      have hq2 : q < len * 14 := by
        have := flat_len part_len ((List.range len).map F)
        rw [hlen] at this
        unfold partsC at hq
        omega
      have hi : q / 14 < len := by omega
      have e := flat_at part_len (l := (List.range len).map F) (j := q / 14) (k := q % 14) (by rw [hlen]; exact hi) (by omega)
      have e2 : ((List.range len).map F).getD (q / 14) default = F (q / 14) := by simp [List.getD, hi]
      rw [e2, show q / 14 * 14 + q % 14 = q by omega] at e
      have h5 := hat (q / 14) hi (q % 14) (by omega)
      rw [Nat.add_assoc, show q / 14 * 14 + q % 14 = q by omega] at h5
      exact h5.trans e.symm
set_option maxRecDepth 100000 in
theorem open_slots {fuel : Nat} {cs : List Value} {x : DataW H × List MemPlace} (hf : DataW.trod enc Tryz.prog w base spare held fuel 25 cs = some x) :
    ∃ (A : Option Addr) (c : Nat) (sl : List (List DPart)), cs = [.slice A sl.length c] ∧ SlotsIn w.heap.size w A sl ∧ sl.length ≤ c := by
  rcases open_slice Tryz.underlying25 hf with ⟨hcs, _⟩ | ⟨a, len, cap, m, n, D, Pl, hcs, _, hl, hm, hmm, _, hx⟩
  · exact ⟨none, 0, [], hcs, .inl rfl, Nat.le_refl _⟩
  · have hlm : len ≤ m := by rw [hmm]; split <;> omega
    rw [cells_parts] at hx
    obtain ⟨F, hF⟩ := choose_ltD (n := len) (p := fun i (y : List DPart) => ∃ (A : Option Addr) (c : Nat), w.cells? base (a.add (i * 1)) 1 = some [.slice A y.length c] ∧ CellsIn w.heap.size w A (partsC y) ∧ y.length ≤ c) fun i hi => by
      obtain ⟨cs', h1, h2⟩ := hx i (by omega)
      obtain ⟨A, c, ts, rfl, h3, h4⟩ := open_parts h2
      exact ⟨ts, A, c, h1, h3, h4⟩
    have hlen : ((List.range len).map F).length = len := by simp
    refine ⟨some a, cap, (List.range len).map F, by rw [hlen]; exact hcs, ?_, by omega⟩
    rcases Nat.eq_zero_or_pos len with h0 | h0
    · exact .inl (by rw [h0]; rfl)
    · obtain ⟨b, off, spot⟩ := a
      have hspot : spot = none := by
        obtain ⟨A, c, h1, _⟩ := hF 0 h0
        have h2 := (World.cells?_some h1).2.2 0 (by omega)
        simpa [Addr.add] using World.cell?_spot h2
      subst hspot
      have hat : ∀ i, i < len → SlotAt w.heap.size w b (off + i) (F i) := fun i hi => by
        obtain ⟨A, c, h1, h2, h3⟩ := hF i hi
        have h4 := (World.cells?_some h1).2.2 0 (by omega)
        rw [Go.WideShapes.add_plain, Go.WideShapes.add_plain, Nat.mul_one, Nat.add_zero] at h4
        exact ⟨A, c, h4, h2, h3⟩
      obtain ⟨A0, c0, h00, _⟩ := hat 0 h0
      refine .inr ⟨b, off, rfl, World.block_lt_of_cell? w ⟨b, off + 0, none⟩ h00, fun i hi => ?_⟩
      rw [hlen] at hi
      have e2 : ((List.range len).map F).getD i [] = F i := by simp [List.getD, hi]
      rw [e2]
      exact hat i hi
set_option maxRecDepth 100000 in
theorem open_stock {v : Value} {d : DataW H} {p : List MemPlace} (hv : Value.okWide Tryz.prog w r b0 27 v) (h : DataW.Trod enc Tryz.prog w base spare held 27 v d p) :
    ∃ (A : Option Addr) (c : Nat) (sl : List (List DPart)) (y z : Int), v = .agg #[.slice A sl.length c, .int .i64 y, .int .i64 z] ∧ SlotsIn w.heap.size w A sl ∧ sl.length ≤ c := by
  obtain ⟨cs0, rfl, _⟩ := okWide_struct Tryz.underlying27 hv
  obtain ⟨fuel, hf⟩ := agg_cells h
  obtain ⟨xs, n, _, _, hl, hxl, hg⟩ := DataW.trod_struct Tryz.underlying27 hf
  rw [cells_stock] at hl
  have hxl3 : xs.length = 3 := hxl
  have h0 : DataW.trod enc Tryz.prog w base spare held n 25 ((cs0.toList.drop 0).take (Tryz.prog.cellsOf 25)) = xs[0]? := hg 0 _ rfl
  have h1 : DataW.trod enc Tryz.prog w base spare held n 3 ((cs0.toList.drop 1).take (Tryz.prog.cellsOf 3)) = xs[1]? := hg 1 _ rfl
  have h2 : DataW.trod enc Tryz.prog w base spare held n 3 ((cs0.toList.drop 2).take (Tryz.prog.cellsOf 3)) = xs[2]? := hg 2 _ rfl
  rw [List.getElem?_eq_getElem (by omega)] at h0 h1 h2
  rw [cells_slots] at h0
  rw [cells_int] at h1 h2
  obtain ⟨l⟩ := cs0
  match l, hl with
  | [v0, v1, v2], _ =>
    obtain ⟨A, c, sl, e0, hr, hc⟩ := open_slots h0
    obtain ⟨y, e1, _, _⟩ := DataW.trod_int Tryz.underlying3 h1
    obtain ⟨z, e2, _, _⟩ := DataW.trod_int Tryz.underlying3 h2
    refine ⟨A, c, sl, y, z, ?_, hr, hc⟩
    simp only [List.drop_zero, List.take_succ_cons, List.take_zero, List.drop_succ_cons, List.cons.injEq, and_true] at e0 e1 e2
    rw [e0, e1, e2]
end

end Go.Proofs.YtnfbdkdjoekifaaGreatDoor
end

section
namespace Go.Proofs.YtnfbdkdjoekifaaGreatDoor
open Go.ChangeShapes Go.WideShapes Go.ChangeAt Go.RowKit Go.Joins Go.Deep

theorem cells_term : Tryz.prog.cellsOf 64 = 2 := by kernel_rfl
theorem cells_terms : Tryz.prog.cellsOf 43 = 1 := by kernel_rfl
theorem cells_boolS : Tryz.prog.cellsOf 4 = 1 := by kernel_rfl
theorem cells_req : Tryz.prog.cellsOf 45 = 4 := by kernel_rfl
theorem cells_reqs : Tryz.prog.cellsOf 22 = 1 := by kernel_rfl
theorem cells_spec : Tryz.prog.cellsOf 24 = 1 := by kernel_rfl

section
variable {H : Type} {enc : TypeId × Value → H} {w : World} {base b0 : Nat} {spare : Nat → Bool} {held : Bool} {r : Reach}
theorem is_term {fuel : Nat} {cs : List Value} {x : DataW H × List MemPlace} (h : DataW.trod enc Tryz.prog w base spare held fuel 64 cs = some x) : ∃ y : DTerm, cs = termU y := by
  have h2 : cs.length = 2 ∧ IntCells cs := by
    rw [← cells_term]
    refine intCells_struct Tryz.underlying64 (fun i f hi {_ _ _} hf => ?_) (fun k hk => ?_) h
    · match i, hi with
      | 0, hi => injection hi with hi; subst hi; exact is_int hf
      | 1, hi => injection hi with hi; subst hi; exact is_int hf
    · rw [cells_term] at hk
      rcases (show k = 0 ∨ k = 1 by omega) with rfl | rfl
      · exact ⟨0, _, 1, rfl, cells_int, by decide, by decide⟩
      · exact ⟨1, _, 1, rfl, cells_int, by decide, by decide⟩
  match cs, h2 with
  | [v0, v1], ⟨_, hi⟩ =>
    obtain ⟨a0, rfl, _⟩ := hi v0 (by simp)
    obtain ⟨a1, rfl, _⟩ := hi v1 (by simp)
    exact ⟨⟨a0, a1⟩, rfl⟩
set_option maxRecDepth 100000 in
theorem open_terms {fuel : Nat} {cs : List Value} {x : DataW H × List MemPlace} (hf : DataW.trod enc Tryz.prog w base spare held fuel 43 cs = some x) :
    ∃ (A : Option Addr) (c : Nat) (ts : List DTerm), cs = [.slice A ts.length c] ∧ CellsIn w.heap.size w A (termsC ts) ∧ ts.length ≤ c := by
  rcases open_slice Tryz.underlying43 hf with ⟨hcs, _⟩ | ⟨a, len, cap, m, n, D, Pl, hcs, _, hl, hm, hmm, _, hx⟩
  · exact ⟨none, 0, [], hcs, .inl rfl, Nat.le_refl _⟩
  · have hlm : len ≤ m := by rw [hmm]; split <;> omega
    rw [cells_term] at hx
    obtain ⟨F, hF⟩ := choose_ltD (n := len) (p := fun i (y : DTerm) => w.cells? base (a.add (i * 2)) 2 = some (termU y)) fun i hi => by
      obtain ⟨cs', h1, h2⟩ := hx i (by omega)
      obtain ⟨y, rfl⟩ := is_term h2
      exact ⟨y, h1⟩
    have hlen : ((List.range len).map F).length = len := by simp
    refine ⟨some a, cap, (List.range len).map F, by rw [hlen]; exact hcs, ?_, by omega⟩
    rcases Nat.eq_zero_or_pos len with h0 | h0
    · exact .inl (by rw [h0]; rfl)
    · obtain ⟨b, off, spot⟩ := a
      have hspot : spot = none := by
        have h2 := (World.cells?_some (hF 0 h0)).2.2 0 (by omega)
        have h3 : (termU (F 0))[0]? = some (.int .i64 (F 0).f) := rfl
        rw [h3] at h2
        simpa [Addr.add] using World.cell?_spot h2
      subst hspot
      have hat : ∀ i, i < len → ∀ q, q < 2 → w.cell? ⟨b, off + i * 2 + q, none⟩ = (termU (F i))[q]? := fun i hi q hq => by
        have h4 := (World.cells?_some (hF i hi)).2.2 q hq
        rw [Go.WideShapes.add_plain, Go.WideShapes.add_plain] at h4
        exact h4
      refine .inr ⟨b, off, rfl, World.block_lt_of_cell? w ⟨b, off + 0 * 2 + 0, none⟩ (u := .int .i64 (F 0).f) ((hat 0 h0 0 (by decide)).trans rfl), fun q hq => ?_⟩
      have hq2 : q < len * 2 := by
        have := flat_len term_len ((List.range len).map F)
        rw [hlen] at this
        unfold termsC at hq
        omega
      have hi : q / 2 < len := by omega
      have e := flat_at term_len (l := (List.range len).map F) (j := q / 2) (k := q % 2) (by rw [hlen]; exact hi) (by omega)
      have e2 : ((List.range len).map F).getD (q / 2) default = F (q / 2) := by simp [List.getD, hi]
      rw [e2, show q / 2 * 2 + q % 2 = q by omega] at e
      have h5 := hat (q / 2) hi (q % 2) (by omega)
      rw [Nat.add_assoc, show q / 2 * 2 + q % 2 = q by omega] at h5
      exact h5.trans e.symm
set_option maxRecDepth 100000 in
theorem is_req {fuel : Nat} {cs : List Value} {x : DataW H × List MemPlace} (h : DataW.trod enc Tryz.prog w base spare held fuel 45 cs = some x) : ∃ (r : DReq) (A : Option Addr) (c : Nat), cs = [.slice A r.ts.length c, .bool r.ge, .int .i64 r.lim, .int .i64 r.unit] ∧ CellsIn w.heap.size w A (termsC r.ts) ∧ r.ts.length ≤ c := by
  obtain ⟨xs, n, _, _, hl, hxl, hg⟩ := DataW.trod_struct Tryz.underlying45 h
  rw [cells_req] at hl
  have hxl4 : xs.length = 4 := hxl
  have h0 : DataW.trod enc Tryz.prog w base spare held n 43 ((cs.drop 0).take (Tryz.prog.cellsOf 43)) = xs[0]? := hg 0 _ rfl
  have h1 : DataW.trod enc Tryz.prog w base spare held n 4 ((cs.drop 1).take (Tryz.prog.cellsOf 4)) = xs[1]? := hg 1 _ rfl
  have h2 : DataW.trod enc Tryz.prog w base spare held n 3 ((cs.drop 2).take (Tryz.prog.cellsOf 3)) = xs[2]? := hg 2 _ rfl
  have h3 : DataW.trod enc Tryz.prog w base spare held n 3 ((cs.drop 3).take (Tryz.prog.cellsOf 3)) = xs[3]? := hg 3 _ rfl
  rw [List.getElem?_eq_getElem (by omega)] at h0 h1 h2 h3
  rw [cells_terms] at h0
  rw [cells_boolS] at h1
  rw [cells_int] at h2 h3
  match cs, hl with
  | [v0, v1, v2, v3], _ =>
    obtain ⟨A, c, ts, e0, hr, hc⟩ := open_terms h0
    obtain ⟨ge, e1, _⟩ := DataW.trod_bool Tryz.underlying4 h1
    obtain ⟨lim, e2, _, _⟩ := DataW.trod_int Tryz.underlying3 h2
    obtain ⟨unit, e3, _, _⟩ := DataW.trod_int Tryz.underlying3 h3
    refine ⟨⟨ts, ge, lim, unit⟩, A, c, ?_, hr, hc⟩
    simp only [List.drop_zero, List.take_succ_cons, List.take_zero, List.drop_succ_cons, List.cons.injEq, and_true] at e0 e1 e2 e3
    rw [e0, e1, e2, e3]
set_option maxRecDepth 100000 in
theorem open_reqs {fuel : Nat} {cs : List Value} {x : DataW H × List MemPlace} (hf : DataW.trod enc Tryz.prog w base spare held fuel 22 cs = some x) :
    ∃ (A : Option Addr) (c : Nat) (rs : List DReq), cs = [.slice A rs.length c] ∧ ReqsIn w.heap.size w A rs ∧ rs.length ≤ c := by
  rcases open_slice Tryz.underlying22 hf with ⟨hcs, _⟩ | ⟨a, len, cap, m, n, D, Pl, hcs, _, hl, hm, hmm, _, hx⟩
  · exact ⟨none, 0, [], hcs, .inl rfl, Nat.le_refl _⟩
  · have hlm : len ≤ m := by rw [hmm]; split <;> omega
    rw [cells_req] at hx
    obtain ⟨F, hF⟩ := choose_ltD (n := len) (p := fun i (y : DReq) => ∃ (A : Option Addr) (c : Nat), w.cells? base (a.add (i * 4)) 4 = some [.slice A y.ts.length c, .bool y.ge, .int .i64 y.lim, .int .i64 y.unit] ∧ CellsIn w.heap.size w A (termsC y.ts) ∧ y.ts.length ≤ c) fun i hi => by
      obtain ⟨cs', h1, h2⟩ := hx i (by omega)
      obtain ⟨r, A, c, rfl, h3, h4⟩ := is_req h2
      exact ⟨r, A, c, h1, h3, h4⟩
    have hlen : ((List.range len).map F).length = len := by simp
    refine ⟨some a, cap, (List.range len).map F, by rw [hlen]; exact hcs, ?_, by omega⟩
    rcases Nat.eq_zero_or_pos len with h0 | h0
    · exact .inl (by rw [h0]; rfl)
    · obtain ⟨b, off, spot⟩ := a
      have hspot : spot = none := by
        obtain ⟨A, c, h1, _⟩ := hF 0 h0
        have h2 := (World.cells?_some h1).2.2 0 (by omega)
        simpa [Addr.add] using World.cell?_spot h2
      subst hspot
      have hat : ∀ i, i < len → ReqAt w.heap.size w b (off + i * 4) (F i) := fun i hi => by
        obtain ⟨A, c, h1, h2, h3⟩ := hF i hi
        have h4 := (World.cells?_some h1).2.2 0 (by omega)
        have h5 := (World.cells?_some h1).2.2 1 (by omega)
        have h6 := (World.cells?_some h1).2.2 2 (by omega)
        have h7 := (World.cells?_some h1).2.2 3 (by omega)
        rw [Go.WideShapes.add_plain, Go.WideShapes.add_plain] at h4 h5 h6 h7
        exact ⟨A, c, h4, h5, h6, h7, h2, h3⟩
      obtain ⟨A0, c0, h00, _⟩ := hat 0 h0
      refine .inr ⟨b, off, rfl, World.block_lt_of_cell? w ⟨b, off + 0 * 4, none⟩ h00, fun i hi => ?_⟩
      rw [hlen] at hi
      have e2 : ((List.range len).map F).getD i default = F i := by simp [List.getD, hi]
      rw [e2]
      exact hat i hi
set_option maxRecDepth 100000 in
theorem open_spec {v : Value} {d : DataW H} {p : List MemPlace} (hv : Value.okWide Tryz.prog w r b0 24 v) (h : DataW.Trod enc Tryz.prog w base spare held 24 v d p) :
    ∃ (A : Option Addr) (c : Nat) (rs : List DReq), v = .agg #[.slice A rs.length c] ∧ ReqsIn w.heap.size w A rs ∧ rs.length ≤ c := by
  obtain ⟨cs0, rfl, _⟩ := okWide_struct Tryz.underlying24 hv
  obtain ⟨fuel, hf⟩ := agg_cells h
  obtain ⟨xs, n, _, _, hl, hxl, hg⟩ := DataW.trod_struct Tryz.underlying24 hf
  rw [cells_spec] at hl
  have hxl1 : xs.length = 1 := hxl
  have h0 : DataW.trod enc Tryz.prog w base spare held n 22 ((cs0.toList.drop 0).take (Tryz.prog.cellsOf 22)) = xs[0]? := hg 0 _ rfl
  rw [List.getElem?_eq_getElem (by omega)] at h0
  rw [cells_reqs] at h0
  obtain ⟨l⟩ := cs0
  match l, hl with
  | [v0], _ =>
    obtain ⟨A, c, rs, e0, hr, hc⟩ := open_reqs h0
    refine ⟨A, c, rs, ?_, hr, hc⟩
    simp only [List.drop_zero, List.take_succ_cons, List.take_zero, List.cons.injEq, and_true] at e0
    rw [e0]
/-- The parts with the values of six quantities. -/
def norm6 (p : DPart) : DPart := ⟨p.name, p.price, [valP p 0, valP p 1, valP p 2, valP p 3, valP p 4, valP p 5]⟩
theorem norm6_c (l : List DPart) : partsC (l.map norm6) = partsC l := by
  unfold partsC
  rw [List.flatMap_map]
  rfl
set_option maxRecDepth 100000 in
theorem open_stock6 {v : Value} {d : DataW H} {p : List MemPlace} (hv : Value.okWide Tryz.prog w r b0 27 v) (h : DataW.Trod enc Tryz.prog w base spare held 27 v d p) :
    ∃ (A : Option Addr) (c : Nat) (sl : List (List DPart)) (y z : Int), v = .agg #[.slice A sl.length c, .int .i64 y, .int .i64 z] ∧ SlotsIn w.heap.size w A sl ∧ Six sl := by
  obtain ⟨A, c, sl, y, z, rfl, hs, _⟩ := open_stock hv h
  refine ⟨A, c, sl.map (·.map norm6), y, z, by rw [List.length_map], ?_, ?_⟩
  · rcases hs with hs | ⟨b, off, hA, hb, hc⟩
    · exact .inl (by rw [hs]; rfl)
    · refine .inr ⟨b, off, hA, hb, fun i hi => ?_⟩
      rw [List.length_map] at hi
      obtain ⟨A2, c2, h1, h2, h3⟩ := hc i hi
      have e : (sl.map (·.map norm6)).getD i [] = (sl.getD i []).map norm6 := by simp [List.getD, hi]
      rw [e]
      exact ⟨A2, c2, by rw [List.length_map]; exact h1, by rw [norm6_c]; exact h2, by rw [List.length_map]; exact h3⟩
  · intro l hl p hp
    obtain ⟨l0, _, rfl⟩ := List.mem_map.1 hl
    obtain ⟨p0, _, rfl⟩ := List.mem_map.1 hp
    rfl
end

end Go.Proofs.YtnfbdkdjoekifaaGreatDoor
end
