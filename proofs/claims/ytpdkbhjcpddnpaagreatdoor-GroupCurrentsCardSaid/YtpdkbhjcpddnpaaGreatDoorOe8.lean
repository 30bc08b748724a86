/- How a law's statement follows from the walk of its function: the arguments read behind the call as before. Arguments that are made of integers, opened. No condition.
From the rows' lists to what the walks ask: the two tables stand as they were laid.
Arguments of the chapter's laws, opened: turns, phasors, windings.
Arguments that are lines, or three numbers, opened. -/
import Derived.Test.YtpdkbhjcpddnpaaGreatDoorOa2
import Derived.ChangeSame
import Derived.JoinedOf
import Derived.JoinedAt
import Derived.Carry
import Derived.ProofKit
import Derived.OpenShut
import Derived.Lib.SmallJoins
import Derived.WideKeyArgs
import Derived.Test.YtpdkbhjcpddnpaaGreatDoorOc1
import Derived.Test.YtpdkbhjcpddnpaaGreatDoorOc2
import Derived.Lib.LaidU8
import Derived.Lib.LaidTab
import Derived.Stop.LaidErr

section
namespace Go.Proofs.YtpdkbhjcpddnpaaGreatDoor
open Go.ChangeShapes Go.WideShapes Go.ChangeAt Go.RowKit Go.Joins

theorem own_knob : ownKnob Tryz.prog.godebug = none := by kernel_rfl
theorem laid_out : laidOutB Tryz.prog = true := by kernel_rfl

section
variable {H : Type} {enc : TypeId × Value → H} {P : Program}
theorem trodAll_stays (hl : laidOutB P = true) {W W' : World} {sp : Nat → Bool} (hb : Below W.heap.size W W') : ∀ (ts : List TypeId) (vs : List Value) (ds : List (DataW H)) (ps : List MemPlace), (∀ t ∈ ts, P.readableRec t = true ∧ t < P.types.size) →
    DataW.TrodAll enc P W 0 (fun _ => true) true ts vs ds ps → (∀ x ∈ ps, x.block < W.heap.size) → (∀ x ∈ ps, sp x.block = true) → DataW.TrodAll enc P W' 0 sp true ts vs ds ps
  | [], [], [], _, _, h, _, _ => h
  | t :: ts, v :: vs, d :: ds, ps, hr, ⟨p, q, h1, h2, hp⟩, hlt, hs => by
    subst hp
    refine ⟨p, q, ?_, trodAll_stays hl hb ts vs ds q (fun t ht => hr t (by simp [ht])) h2 (fun x hx => hlt x (by simp [hx])) (fun x hx => hs x (by simp [hx])), rfl⟩
    obtain ⟨g1, g2⟩ := hr t (by simp)
    exact WideElems.Trod_stays hl g1 g2 h1 (fun x hx => hb.same (hlt x (by simp [hx]))) (fun x hx => hs x (by simp [hx]))
  | [], [], _ :: _, _, _, h, _, _ => h.elim
  | [], _ :: _, _, _, _, h, _, _ => by cases ‹List (DataW H)› <;> exact h.elim
  | _ :: _, [], _, _, _, h, _, _ => by cases ‹List (DataW H)› <;> exact h.elim
  | _ :: _, _ :: _, [], _, _, h, _, _ => h.elim

theorem post_of_below {f : Func} {s : ChangeSpec} {apart fresh handsOn again : Bool} {W W' : World} {args : Array Value} {v : Value} {ds gs : List (DataW H)} {before pa pv : List MemPlace}
    (hW : DataW.Whole enc P f.params.toList s.vars apart W args.toList ds gs before)
    (hres : ∀ (b : Nat) (sp : Nat → Bool) (hd : Bool), DataW.TrodAll enc P W' b sp hd f.resultTypes.toList (v.resultList f.resultTypes.size) (s.fn H (ds ++ gs)).results [])
    (hargs : ∀ sp : Nat → Bool, (∀ p ∈ before, sp p.block = true) → DataW.TrodAll enc P W' 0 sp true f.params.toList args.toList (s.fn H (ds ++ gs)).args pa)
    (hvars : ∀ sp : Nat → Bool, (∀ p ∈ before, sp p.block = true) → DataW.TrodVars enc P W' sp s.vars (s.fn H (ds ++ gs)).vars pv)
    (hps : before = pa ++ pv) (hb : Below W.heap.size W W')
    (hok : ∀ (j : Nat) (t : TypeId) (r : Value), f.resultTypes[j]? = some t → (v.resultList f.resultTypes.size)[j]? = some r → Value.okWide P W' .any 0 t r) :
    s.post enc P f apart fresh handsOn again W args v W' := by
  have hlt : ∀ p ∈ before, p.block < W.heap.size := fun p hp => hW.lt p hp
  have hold : ∀ p ∈ before, (fun b => decide (b < W.heap.size)) p.block = true := fun p hp => by simpa using hlt p hp
  refine ⟨ds, gs, before, [], pa, pv, hW, hres _ _ _, hargs _ hold, hvars _ hold, World.keptBut_mono (fun p hp => ⟨hp, ?_⟩) (hb.frame (· ∈ before)), fun _ => ?_⟩
  · rw [hps, List.mem_append] at hp
    exact Or.inr hp
  · obtain ⟨_, _, _, _, _, hz, hn⟩ := hW
    refine ⟨hok, _, _, ([] ++ pa) ++ pv, ⟨[] ++ pa, pv, trodAll_append (hargs _ (fun _ _ => rfl)) (hres _ _ _), hvars _ (fun _ _ => rfl), rfl, ?_, ?_⟩, ?_⟩
    · intro b off hp
      have hin : MemPlace.cell b off ∈ before := by rw [hps]; simpa using hp
      rw [hb.frozen (hlt _ hin)]
      exact hz b off hin
    · intro ha
      have := hn ha
      rw [hps] at this
      simpa using this
    · intro p hp _
      rw [hps]
      simpa using hp

/-- The law's end: it returned true, and nothing that was there has turned. -/
theorem law_end (hl : laidOutB P = true) {f : Func} {s : ChangeSpec} {tb : TypeId} {W W' : World} {args : Array Value} {ds gs : List (DataW H)} {before : List MemPlace}
    (hread : ∀ t ∈ f.params.toList, P.readableRec t = true ∧ t < P.types.size) (hrt : f.resultTypes = #[tb]) (hbool : P.underlying tb = some .bool) (hsv : s.vars = [])
    (hfn : s.fn H ds = { results := [.lit (.bool true)], args := ds }) (hW : DataW.Whole enc P f.params.toList s.vars false W args.toList ds gs before) (hB : Below W.heap.size W W') :
    ∃ v, Ending.returned (.bool true) = .returned v ∧ s.post enc P f false true false false W args v W' := by
  have hW2 := hW
  obtain ⟨p, q, hA, hV, rfl, _, _⟩ := hW
  rw [hsv] at hV
  obtain ⟨rfl, rfl⟩ := trodVars_none hV
  rw [List.append_nil] at hW2
  have hlt : ∀ x ∈ p, x.block < W.heap.size := fun x hx => hW2.lt x hx
  refine ⟨_, rfl, post_of_below (pa := p) (pv := []) hW2 (fun b sp hd => ?_) (fun sp hsp => ?_) (fun sp _ => ?_) (by simp) hB ?_⟩
  · rw [List.append_nil, hfn, hrt]
    exact trodAll_cons_mk (shut_bool hbool true) trodAll_mk0
  · rw [List.append_nil, hfn]
    exact trodAll_stays hl hB _ _ _ _ hread hA hlt (fun x hx => hsp x hx)
  · rw [List.append_nil, hfn, hsv]
    rfl
  · exact ok_one hrt rfl (okWide_bool_mk hbool true)
end

/-- A list of integers as cells. -/
def IntCells (cs : List Value) : Prop := ∀ v ∈ cs, ∃ n, v = .int .i64 n ∧ (Lit.int .i64 n).wf = true
theorem wf_bd {n : Int} (h : (Lit.int .i64 n).wf = true) : -9223372036854775808 ≤ n ∧ n ≤ 9223372036854775807 := bounds_i64 h

section
variable {H : Type} {enc : TypeId × Value → H} {P : Program} {w : World} {base : Nat} {spare : Nat → Bool} {held : Bool}

theorem intCells_int {e : TypeId} (he : P.underlying e = some (.int .i64)) {fuel : Nat} {cs : List Value} {x : DataW H × List MemPlace} (h : DataW.trod enc P w base spare held fuel e cs = some x) : cs.length = 1 ∧ IntCells cs := by
  obtain ⟨a, e0, _, wa⟩ := DataW.trod_int he h
  subst e0
  exact ⟨rfl, fun v hv => by
    obtain rfl : v = .int .i64 a := by simpa using hv
    exact ⟨a, rfl, wa⟩⟩
/-- A struct whose fields are made of integers is made of integers: the fields' cells, one after the other. -/
theorem intCells_struct {t : TypeId} {fs : Array Field} (hs : P.underlying t = some (.struct fs)) (hf : ∀ (i : Nat) (f : Field), fs[i]? = some f → ∀ {fuel : Nat} {cs : List Value} {x : DataW H × List MemPlace}, DataW.trod enc P w base spare held fuel f.type cs = some x → IntCells cs)
    (hcov : ∀ k, k < P.cellsOf t → ∃ (i : Nat) (f : Field) (n : Nat), fs[i]? = some f ∧ P.cellsOf f.type = n ∧ f.offset ≤ k ∧ k < f.offset + n) {fuel : Nat} {cs : List Value} {x : DataW H × List MemPlace} (h : DataW.trod enc P w base spare held fuel t cs = some x) : cs.length = P.cellsOf t ∧ IntCells cs := by
  obtain ⟨xs, n, _, _, hl, hxl, hg⟩ := DataW.trod_struct hs h
  refine ⟨hl, fun v hv => ?_⟩
  obtain ⟨k, hk, he⟩ := List.getElem_of_mem hv
  obtain ⟨i, f, m, hi, hm, h1, h2⟩ := hcov k (by omega)
  subst hm
  have hlt : i < xs.length := by rw [hxl]; exact (Array.getElem?_eq_some_iff.1 hi).1
  have hy := hg i f hi
  rw [List.getElem?_eq_getElem hlt] at hy
  refine hf i f hi hy v ?_
  rw [List.mem_iff_getElem?]
  refine ⟨k - f.offset, ?_⟩
  rw [List.getElem?_take_of_lt (by omega), List.getElem?_drop, show f.offset + (k - f.offset) = k by omega, List.getElem?_eq_getElem hk, he]
theorem agg_cells {cs : Array Value} {d : DataW H} {p : List MemPlace} {t : TypeId} (h : DataW.Trod enc P w base spare held t (.agg cs) d p) : ∃ fuel, DataW.trod enc P w base spare held fuel t cs.toList = some (d, p) := h
end

end Go.Proofs.YtpdkbhjcpddnpaaGreatDoor
end

section
namespace Go.Proofs.YtpdkbhjcpddnpaaGreatDoor
open Go.ChangeShapes Go.WideShapes Go.RowKit

section
variable {H : Type} {enc : TypeId × Value → H} {w : World} {base : Nat} {sp : Nat → Bool} {held : Bool}

theorem two_at {cs : List Value} {k : Nat} {l : List Value} (h : (cs.drop k).take l.length = l) (i : Nat) (hi : i < l.length) : cs[k + i]? = l[i]? := by
  have := congrArg (·[i]?) h
  simp only [List.getElem?_take, List.getElem?_drop] at this
  rw [if_pos hi] at this
  exact this

theorem phasor_cells {fuel : Nat} {cs : List Value} {x y : Int} {p : List MemPlace} (h : DataW.trod enc Tryz.prog w base sp held fuel 157 cs = some (.agg [.lit (.int .i64 x), .lit (.int .i64 y)], p)) : cs = [.int .i64 x, .int .i64 y] := by
  refine Lib.ints_of_struct (k := .i64) (zs := [x, y]) Tryz.underlying157 ?_ (by kernel_rfl) h
  intro i f hf
  rcases i with _ | _ | i
  · simp at hf; subst hf; exact ⟨by kernel_rfl, rfl, by kernel_rfl⟩
  · simp at hf; subst hf; exact ⟨by kernel_rfl, rfl, by kernel_rfl⟩
  · simp at hf

theorem pattern_cells {fuel : Nat} {cs : List Value} {b : List UInt8} {x y z : Int} {p : List MemPlace} (h : DataW.trod enc Tryz.prog w base sp held fuel 163 cs = some (.agg [.lit (.string b), .agg [.lit (.int .i64 x), .lit (.int .i64 y), .lit (.int .i64 z)]], p)) :
    cs[0]? = some (.string ⟨b.toArray⟩) ∧ cs[1]? = some (.int .i64 x) ∧ cs[2]? = some (.int .i64 y) ∧ cs[3]? = some (.int .i64 z) := by
  obtain ⟨xs, n, rfl, hx, hl, hxl, hall⟩ := DataW.trod_struct Tryz.underlying163 h
  have hxs : xs.map (·.1) = [.lit (.string b), .agg [.lit (.int .i64 x), .lit (.int .i64 y), .lit (.int .i64 z)]] := by
    have := congrArg Prod.fst hx
    simpa using this.symm
  obtain ⟨u, v, rfl⟩ : ∃ u v, xs = [u, v] := by
    rcases xs with _ | ⟨u, _ | ⟨v, _ | ⟨c, r⟩⟩⟩
    · simp at hxs
    · simp at hxs
    · exact ⟨u, v, rfl⟩
    · simp at hxs
  simp only [List.map_cons, List.map_nil, List.cons.injEq, and_true] at hxs
  obtain ⟨e1, e2⟩ := hxs
  have h0 : DataW.trod enc Tryz.prog w base sp held n 9 ((cs.drop 0).take (Tryz.prog.cellsOf 9)) = some u := hall 0 _ rfl
  have h1 : DataW.trod enc Tryz.prog w base sp held n 94 ((cs.drop 1).take (Tryz.prog.cellsOf 94)) = some v := hall 1 _ rfl
  rw [show Tryz.prog.cellsOf 9 = 1 by kernel_rfl] at h0
  rw [show Tryz.prog.cellsOf 94 = 3 by kernel_rfl] at h1
  obtain ⟨s, hs, hd, _⟩ := DataW.trod_string Tryz.underlying9 h0
  obtain ⟨v1, v2⟩ := v
  dsimp only at e2
  subst e2
  have h2 := Lib.cells_of_tab (k := .i64) (zs := [x, y, z]) Tryz.underlying94 Tryz.underlying3 (by kernel_rfl) (by kernel_rfl) h1
  have hb : b = s.data.toList := by
    have := e1.symm.trans (congrArg Prod.fst hd)
    simpa using this
  refine ⟨?_, ?_, ?_, ?_⟩
  · have := two_at (l := [Value.string s]) hs 0 (by simp)
    simp only [Nat.add_zero, List.getElem?_cons_zero] at this
    rw [hb]
    exact this
  · exact two_at (l := [Value.int .i64 x, .int .i64 y, .int .i64 z]) h2 0 (by simp)
  · exact two_at (l := [Value.int .i64 x, .int .i64 y, .int .i64 z]) h2 1 (by simp)
  · exact two_at (l := [Value.int .i64 x, .int .i64 y, .int .i64 z]) h2 2 (by simp)
end

theorem block_of_cell {w : World} {g i : Nat} {v : Value} (h : w.cell? ⟨g, i, none⟩ = some v) : g < w.heap.size := World.block_lt_of_cell? w ⟨g, i, none⟩ h

theorem tw_reads {w : World} (h : Lib.VarReads Tryz.prog w "buchholz/group.twelfths" Rows.laid_buchholz_group_twelfths) : TwIn w := by
  obtain ⟨g, t, cs, fuel, p, h1, h2, h3, h4⟩ := h
  have hg : Tryz.prog.globalNamed "buchholz/group.twelfths" = some 1 := by kernel_rfl
  obtain rfl := Option.some.inj (hg.symm.trans h1)
  obtain rfl := Option.some.inj ((show (Tryz.prog.globals[1]?).map (·.type) = some 220 by kernel_rfl).symm.trans h2)
  have cell := fun j => World.var?_cell h1 h3 j
  have hc : Tryz.prog.cellsOf 157 = 2 := by kernel_rfl
  have el : ∀ i, i < 6 → ∀ x y : Int, ([(1, 0), (2, 1), (1, 1), (1, 2), (0, 1), (-1, 1)] : List (Int × Int))[i]? = some (x, y) → cs.toList[i * 2 + 0]? = some (.int .i64 x) ∧ cs.toList[i * 2 + 1]? = some (.int .i64 y) := by
    intro i hi x y hxy
    obtain ⟨f', d, q, hd, hr⟩ := Lib.array_elem Tryz.underlying220 h4 i hi
    rw [hc] at hr
    have hd2 : d = .agg [.lit (.int .i64 x), .lit (.int .i64 y)] := by
      rcases (by omega : i = 0 ∨ i = 1 ∨ i = 2 ∨ i = 3 ∨ i = 4 ∨ i = 5) with rfl | rfl | rfl | rfl | rfl | rfl <;> (simp at hd hxy; rw [← hd, ← hxy.1, ← hxy.2])
    subst hd2
    have h5 := phasor_cells hr
    exact ⟨two_at (l := [Value.int .i64 x, .int .i64 y]) h5 0 (by simp), two_at (l := [Value.int .i64 x, .int .i64 y]) h5 1 (by simp)⟩
  have all : ∀ i, i < 12 → w.cell? ⟨1, i, none⟩ = some (.int .i64 ([1, 0, 2, 1, 1, 1, 1, 2, 0, 1, -1, 1].getD i 0)) := by
    intro i hi
    rw [cell i, ← Array.getElem?_toList]
    rcases (by omega : i = 0 ∨ i = 1 ∨ i = 2 ∨ i = 3 ∨ i = 4 ∨ i = 5 ∨ i = 6 ∨ i = 7 ∨ i = 8 ∨ i = 9 ∨ i = 10 ∨ i = 11) with rfl | rfl | rfl | rfl | rfl | rfl | rfl | rfl | rfl | rfl | rfl | rfl
    · exact (el 0 (by decide) _ _ rfl).1
    · exact (el 0 (by decide) _ _ rfl).2
    · exact (el 1 (by decide) _ _ rfl).1
    · exact (el 1 (by decide) _ _ rfl).2
    · exact (el 2 (by decide) _ _ rfl).1
    · exact (el 2 (by decide) _ _ rfl).2
    · exact (el 3 (by decide) _ _ rfl).1
    · exact (el 3 (by decide) _ _ rfl).2
    · exact (el 4 (by decide) _ _ rfl).1
    · exact (el 4 (by decide) _ _ rfl).2
    · exact (el 5 (by decide) _ _ rfl).1
    · exact (el 5 (by decide) _ _ rfl).2
  exact ⟨block_of_cell (all 0 (by decide)), all⟩

theorem pat_reads {w : World} (h : Lib.VarReads Tryz.prog w "buchholz/group.patterns" Rows.laid_buchholz_group_patterns) : PatIn w := by
  obtain ⟨g, t, cs, fuel, p, h1, h2, h3, h4⟩ := h
  have hg : Tryz.prog.globalNamed "buchholz/group.patterns" = some 0 := by kernel_rfl
  obtain rfl := Option.some.inj (hg.symm.trans h1)
  obtain rfl := Option.some.inj ((show (Tryz.prog.globals[0]?).map (·.type) = some 164 by kernel_rfl).symm.trans h2)
  have cell := fun j => World.var?_cell h1 h3 j
  have hc : Tryz.prog.cellsOf 163 = 4 := by kernel_rfl
  have el : ∀ i, i < 3 → ∀ (b : List UInt8) (x y z : Int), ([([121], 1, -1, 0), ([100], 1, 0, 0), ([122], 1, -2, 1)] : List (List UInt8 × Int × Int × Int))[i]? = some (b, x, y, z) →
      cs.toList[i * 4 + 0]? = some (.string ⟨b.toArray⟩) ∧ cs.toList[i * 4 + 1]? = some (.int .i64 x) ∧ cs.toList[i * 4 + 2]? = some (.int .i64 y) ∧ cs.toList[i * 4 + 3]? = some (.int .i64 z) := by
    intro i hi b x y z hxy
    obtain ⟨f', d, q, hd, hr⟩ := Lib.array_elem Tryz.underlying164 h4 i hi
    rw [hc] at hr
    have hd2 : d = .agg [.lit (.string b), .agg [.lit (.int .i64 x), .lit (.int .i64 y), .lit (.int .i64 z)]] := by
      rcases (by omega : i = 0 ∨ i = 1 ∨ i = 2) with rfl | rfl | rfl <;> (simp at hd hxy; obtain ⟨rfl, rfl, rfl, rfl⟩ := hxy; rw [← hd])
    subst hd2
    obtain ⟨q0, q1, q2, q3⟩ := pattern_cells hr
    have up : ∀ (j : Nat) (v : Value), j < 4 → ((cs.toList.drop (i * 4)).take 4)[j]? = some v → cs.toList[i * 4 + j]? = some v := by
      intro j v hj h
      simp only [List.getElem?_take, List.getElem?_drop] at h
      rwa [if_pos hj] at h
    exact ⟨up 0 _ (by decide) q0, up 1 _ (by decide) q1, up 2 _ (by decide) q2, up 3 _ (by decide) q3⟩
  have all : ∀ i, i < 12 → w.cell? ⟨0, i, none⟩ = some (patC i) := by
    intro i hi
    rw [cell i, ← Array.getElem?_toList]
    rcases (by omega : i = 0 ∨ i = 1 ∨ i = 2 ∨ i = 3 ∨ i = 4 ∨ i = 5 ∨ i = 6 ∨ i = 7 ∨ i = 8 ∨ i = 9 ∨ i = 10 ∨ i = 11) with rfl | rfl | rfl | rfl | rfl | rfl | rfl | rfl | rfl | rfl | rfl | rfl
    · exact (el 0 (by decide) _ _ _ _ rfl).1
    · exact (el 0 (by decide) _ _ _ _ rfl).2.1
    · exact (el 0 (by decide) _ _ _ _ rfl).2.2.1
    · exact (el 0 (by decide) _ _ _ _ rfl).2.2.2
    · exact (el 1 (by decide) _ _ _ _ rfl).1
    · exact (el 1 (by decide) _ _ _ _ rfl).2.1
    · exact (el 1 (by decide) _ _ _ _ rfl).2.2.1
    · exact (el 1 (by decide) _ _ _ _ rfl).2.2.2
    · exact (el 2 (by decide) _ _ _ _ rfl).1
    · exact (el 2 (by decide) _ _ _ _ rfl).2.1
    · exact (el 2 (by decide) _ _ _ _ rfl).2.2.1
    · exact (el 2 (by decide) _ _ _ _ rfl).2.2.2
  exact ⟨block_of_cell (all 0 (by decide)), all⟩

end Go.Proofs.YtpdkbhjcpddnpaaGreatDoor
end

section
namespace Go.Proofs.YtpdkbhjcpddnpaaGreatDoor
open Go.ChangeShapes Go.WideShapes Go.ChangeAt Go.RowKit Go.Joins

theorem cells_int : Tryz.prog.cellsOf 3 = 1 := by kernel_rfl
theorem cells_phasor : Tryz.prog.cellsOf 24 = 2 := by kernel_rfl
section
variable {H : Type} {enc : TypeId × Value → H} {w : World} {base b0 : Nat} {spare : Nat → Bool} {held : Bool} {r : Reach}

theorem is_int {fuel : Nat} {cs : List Value} {x : DataW H × List MemPlace} (h : DataW.trod enc Tryz.prog w base spare held fuel 3 cs = some x) : IntCells cs := (intCells_int Tryz.underlying3 h).2
theorem is_phasor {fuel : Nat} {cs : List Value} {x : DataW H × List MemPlace} (h : DataW.trod enc Tryz.prog w base spare held fuel 24 cs = some x) : cs.length = 2 ∧ IntCells cs := by
  rw [← cells_phasor]
  refine intCells_struct Tryz.underlying24 (fun i f hi {_ _ _} hf => ?_) (fun k hk => ?_) h
  · match i, hi with
    | 0, hi => injection hi with hi; subst hi; exact is_int hf
    | 1, hi => injection hi with hi; subst hi; exact is_int hf
  · rw [cells_phasor] at hk
    rcases (show k = 0 ∨ k = 1 by omega) with rfl | rfl
    · exact ⟨0, _, 1, rfl, cells_int, by decide, by decide⟩
    · exact ⟨1, _, 1, rfl, cells_int, by decide, by decide⟩
end

end Go.Proofs.YtpdkbhjcpddnpaaGreatDoor
end

section
namespace Go.Proofs.YtpdkbhjcpddnpaaGreatDoor
open Go.ChangeShapes Go.WideShapes Go.ChangeAt Go.RowKit Go.Joins

section
variable {H : Type} {enc : TypeId × Value → H} {w : World} {base b0 : Nat} {spare : Nat → Bool} {held : Bool} {r : Reach}

end

end Go.Proofs.YtpdkbhjcpddnpaaGreatDoor
end
