/- Arguments that are stocks, opened.
DesignStocks: the statement (a tied card). For every input the law returns true, and each argument reads afterwards as it read before, where the package's tables stand as its initialisers lay them. Printed by a program (gen_card.py). -/
import Derived.Test.YtabbehmodmmgoaaDoorOg4
import Derived.Test.YtabbehmodmmgoaaDoorOa3
import Derived.Deep.Slices
import Derived.Test.YtabbehmodmmgoaaDoorOl1
import Derived.Test.YtabbehmodmmgoaaDoorCards
import Derived.Test.YtabbehmodmmgoaaDoorTie
import Derived.Lay
import Derived.LaidLaws
import Derived.LaidHandle
import Derived.MakeChecks
import Derived.SevenTiedAt

section
section
namespace Go.Proofs.YtabbehmodmmgoaaDoor
open Go.ChangeShapes Go.WideShapes Go.ChangeAt Go.RowKit Go.Joins Go.Deep

theorem cells_rangeS : Tryd.prog.cellsOf 84 = 2 := by kernel_rfl
theorem cells_ranges : Tryd.prog.cellsOf 85 = 12 := by kernel_rfl
theorem cells_part : Tryd.prog.cellsOf 87 = 14 := by kernel_rfl
theorem cells_parts : Tryd.prog.cellsOf 82 = 1 := by kernel_rfl
theorem cells_slots : Tryd.prog.cellsOf 49 = 1 := by kernel_rfl
theorem cells_stock : Tryd.prog.cellsOf 51 = 3 := by kernel_rfl
theorem choose_ltD {α : Type} [Inhabited α] {n : Nat} {p : Nat → α → Prop} (h : ∀ i, i < n → ∃ y, p i y) : ∃ F : Nat → α, ∀ i, i < n → p i (F i) := by
  classical
  refine ⟨fun i => if hi : i < n then Classical.choose (h i hi) else default, fun i hi => ?_⟩
  simp only [hi, dif_pos]
  exact Classical.choose_spec (h i hi)

section
variable {H : Type} {enc : TypeId × Value → H} {w : World} {base b0 : Nat} {spare : Nat → Bool} {held : Bool} {r : Reach}
theorem is_range {fuel : Nat} {cs : List Value} {x : DataW H × List MemPlace} (h : DataW.trod enc Tryd.prog w base spare held fuel 84 cs = some x) : cs.length = 2 ∧ IntCells cs := by
  rw [← cells_rangeS]
  refine intCells_struct Tryd.underlying84 (fun i f hi {_ _ _} hf => ?_) (fun k hk => ?_) h
  · match i, hi with
    | 0, hi => injection hi with hi; subst hi; exact is_int hf
    | 1, hi => injection hi with hi; subst hi; exact is_int hf
  · rw [cells_rangeS] at hk
    rcases (show k = 0 ∨ k = 1 by omega) with rfl | rfl
    · exact ⟨0, _, 1, rfl, cells_int, by decide, by decide⟩
    · exact ⟨1, _, 1, rfl, cells_int, by decide, by decide⟩
set_option maxRecDepth 100000 in
theorem is_part {fuel : Nat} {cs : List Value} {x : DataW H × List MemPlace} (h : DataW.trod enc Tryd.prog w base spare held fuel 87 cs = some x) : ∃ y : DPart, cs = partU y := by
  obtain ⟨xs, n, _, _, hl, hxl, hg⟩ := DataW.trod_struct Tryd.underlying87 h
  rw [cells_part] at hl
  have hxl3 : xs.length = 3 := hxl
  have h0 : DataW.trod enc Tryd.prog w base spare held n 9 ((cs.drop 0).take (Tryd.prog.cellsOf 9)) = xs[0]? := hg 0 _ rfl
  have h1 : DataW.trod enc Tryd.prog w base spare held n 3 ((cs.drop 1).take (Tryd.prog.cellsOf 3)) = xs[1]? := hg 1 _ rfl
  have h2 : DataW.trod enc Tryd.prog w base spare held n 85 ((cs.drop 2).take (Tryd.prog.cellsOf 85)) = xs[2]? := hg 2 _ rfl
  rw [List.getElem?_eq_getElem (by omega)] at h0 h1 h2
  rw [cells_string] at h0
  rw [cells_int] at h1
  rw [cells_ranges] at h2
  obtain ⟨-, hi⟩ := intCells_array Tryd.underlying85 (fun hf => (is_range hf).2) (by kernel_rfl) (by rw [cells_rangeS]; decide) h2
  match cs, hl with
  | [v0, v1, v2, v3, v4, v5, v6, v7, v8, v9, v10, v11, v12, v13], _ =>
    obtain ⟨s, e0, _, _⟩ := DataW.trod_string Tryd.underlying9 h0
    obtain ⟨a1, e1, _, _⟩ := DataW.trod_int Tryd.underlying3 h1
    have hi2 : IntCells [v2, v3, v4, v5, v6, v7, v8, v9, v10, v11, v12, v13] := hi
    obtain ⟨a2, rfl, _⟩ := hi2 v2 (by simp)
    obtain ⟨a3, rfl, _⟩ := hi2 v3 (by simp)
    obtain ⟨a4, rfl, _⟩ := hi2 v4 (by simp)
    obtain ⟨a5, rfl, _⟩ := hi2 v5 (by simp)
    obtain ⟨a6, rfl, _⟩ := hi2 v6 (by simp)
    obtain ⟨a7, rfl, _⟩ := hi2 v7 (by simp)
    obtain ⟨a8, rfl, _⟩ := hi2 v8 (by simp)
    obtain ⟨a9, rfl, _⟩ := hi2 v9 (by simp)
    obtain ⟨a10, rfl, _⟩ := hi2 v10 (by simp)
    obtain ⟨a11, rfl, _⟩ := hi2 v11 (by simp)
    obtain ⟨a12, rfl, _⟩ := hi2 v12 (by simp)
    obtain ⟨a13, rfl, _⟩ := hi2 v13 (by simp)
    simp only [List.drop_zero, List.take_succ_cons, List.take_zero, List.drop_succ_cons, List.cons.injEq, and_true] at e0 e1
    refine ⟨⟨s, a1, [(a2, a3), (a4, a5), (a6, a7), (a8, a9), (a10, a11), (a12, a13)]⟩, ?_⟩
    rw [e0, e1]
    rfl
set_option maxRecDepth 100000 in
theorem open_parts {fuel : Nat} {cs : List Value} {x : DataW H × List MemPlace} (hf : DataW.trod enc Tryd.prog w base spare held fuel 82 cs = some x) :
    ∃ (A : Option Addr) (c : Nat) (ts : List DPart), cs = [.slice A ts.length c] ∧ CellsIn w.heap.size w A (partsC ts) ∧ ts.length ≤ c := by
  rcases open_slice Tryd.underlying82 hf with ⟨hcs, _⟩ | ⟨a, len, cap, m, n, D, Pl, hcs, _, hl, hm, hmm, _, hx⟩
  · exact ⟨none, 0, [], hcs, .inl rfl, Nat.le_refl _⟩
  · have hlm : len ≤ m := by rw [hmm]; split <;> omega
    rw [cells_part] at hx
    obtain ⟨F, hF⟩ := choose_ltD (n := len) (p := fun i (y : DPart) => w.cells? base (a.add (i * 14)) 14 = some (partU y)) fun i hi => by
      obtain ⟨cs', h1, h2⟩ := hx i (by omega)
      obtain ⟨y, rfl⟩ := is_part h2
      exact ⟨y, h1⟩
    have hlen : ((List.range len).map F).length = len := by simp
    refine ⟨some a, cap, (List.range len).map F, by rw [hlen]; exact hcs, ?_, by omega⟩
    rcases Nat.eq_zero_or_pos len with h0 | h0
    · exact .inl (by rw [h0]; rfl)
    · obtain ⟨b, off, spot⟩ := a
      have hspot : spot = none := by
        have h2 := (World.cells?_some (hF 0 h0)).2.2 0 (by omega)
        have h3 : (partU (F 0))[0]? = some (.string (F 0).name) := rfl
        rw [h3] at h2
        simpa [Addr.add] using World.cell?_spot h2
      subst hspot
      have hat : ∀ i, i < len → ∀ q, q < 14 → w.cell? ⟨b, off + i * 14 + q, none⟩ = (partU (F i))[q]? := fun i hi q hq => by
        have h4 := (World.cells?_some (hF i hi)).2.2 q hq
        rw [Go.WideShapes.add_plain, Go.WideShapes.add_plain] at h4
        exact h4
      refine .inr ⟨b, off, rfl, World.block_lt_of_cell? w ⟨b, off + 0 * 14 + 0, none⟩ (u := .string (F 0).name) ((hat 0 h0 0 (by decide)).trans rfl), fun q hq => ?_⟩
      have hq2 : q < len * 14 := by
        have := flat_len part_len ((List.range len).map F)
        rw [hlen] at this
        unfold partsC at hq
        omega
      have hi : q / 14 < len := by omega
      have e := flat_at part_len (l := (List.range len).map F) (j := q / 14) (k := q % 14) (by rw [hlen]; exact hi) (by omega)
      have e2 : ((List.range len).map F).getD (q / 14) default = F (q / 14) := by simp [List.getD, hi]
      rw [e2, show q / 14 * 14 + q % 14 = q by omega] at e
      have h5 := hat (q / 14) hi (q % 14) (by omega)
      rw [Nat.add_assoc, show q / 14 * 14 + q % 14 = q by omega] at h5
      exact h5.trans e.symm
set_option maxRecDepth 100000 in
theorem open_slots {fuel : Nat} {cs : List Value} {x : DataW H × List MemPlace} (hf : DataW.trod enc Tryd.prog w base spare held fuel 49 cs = some x) :
    ∃ (A : Option Addr) (c : Nat) (sl : List (List DPart)), cs = [.slice A sl.length c] ∧ SlotsIn w.heap.size w A sl ∧ sl.length ≤ c := by
  rcases open_slice Tryd.underlying49 hf with ⟨hcs, _⟩ | ⟨a, len, cap, m, n, D, Pl, hcs, _, hl, hm, hmm, _, hx⟩
  · exact ⟨none, 0, [], hcs, .inl rfl, Nat.le_refl _⟩
  · have hlm : len ≤ m := by rw [hmm]; split <;> omega
    rw [cells_parts] at hx
    obtain ⟨F, hF⟩ := choose_ltD (n := len) (p := fun i (y : List DPart) => ∃ (A : Option Addr) (c : Nat), w.cells? base (a.add (i * 1)) 1 = some [.slice A y.length c] ∧ CellsIn w.heap.size w A (partsC y) ∧ y.length ≤ c) fun i hi => by
      obtain ⟨cs', h1, h2⟩ := hx i (by omega)
      obtain ⟨A, c, ts, rfl, h3, h4⟩ := open_parts h2
      exact ⟨ts, A, c, h1, h3, h4⟩
    have hlen : ((List.range len).map F).length = len := by simp
    refine ⟨some a, cap, (List.range len).map F, by rw [hlen]; exact hcs, ?_, by omega⟩
    rcases Nat.eq_zero_or_pos len with h0 | h0
    · exact .inl (by rw [h0]; rfl)
    · obtain ⟨b, off, spot⟩ := a
      have hspot : spot = none := by
        obtain ⟨A, c, h1, _⟩ := hF 0 h0
        have h2 := (World.cells?_some h1).2.2 0 (by omega)
        simpa [Addr.add] using World.cell?_spot h2
      subst hspot
      have hat : ∀ i, i < len → SlotAt w.heap.size w b (off + i) (F i) := fun i hi => by
        obtain ⟨A, c, h1, h2, h3⟩ := hF i hi
        have h4 := (World.cells?_some h1).2.2 0 (by omega)
        rw [Go.WideShapes.add_plain, Go.WideShapes.add_plain, Nat.mul_one, Nat.add_zero] at h4
        exact ⟨A, c, h4, h2, h3⟩
      obtain ⟨A0, c0, h00, _⟩ := hat 0 h0
      refine .inr ⟨b, off, rfl, World.block_lt_of_cell? w ⟨b, off + 0, none⟩ h00, fun i hi => ?_⟩
      rw [hlen] at hi
      have e2 : ((List.range len).map F).getD i [] = F i := by simp [List.getD, hi]
      rw [e2]
      exact hat i hi
set_option maxRecDepth 100000 in
theorem open_stock {v : Value} {d : DataW H} {p : List MemPlace} (hv : Value.okWide Tryd.prog w r b0 51 v) (h : DataW.Trod enc Tryd.prog w base spare held 51 v d p) :
    ∃ (A : Option Addr) (c : Nat) (sl : List (List DPart)) (y z : Int), v = .agg #[.slice A sl.length c, .int .i64 y, .int .i64 z] ∧ SlotsIn w.heap.size w A sl ∧ sl.length ≤ c := by
  obtain ⟨cs0, rfl, _⟩ := okWide_struct Tryd.underlying51 hv
  obtain ⟨fuel, hf⟩ := agg_cells h
  obtain ⟨xs, n, _, _, hl, hxl, hg⟩ := DataW.trod_struct Tryd.underlying51 hf
  rw [cells_stock] at hl
  have hxl3 : xs.length = 3 := hxl
  have h0 : DataW.trod enc Tryd.prog w base spare held n 49 ((cs0.toList.drop 0).take (Tryd.prog.cellsOf 49)) = xs[0]? := hg 0 _ rfl
  have h1 : DataW.trod enc Tryd.prog w base spare held n 3 ((cs0.toList.drop 1).take (Tryd.prog.cellsOf 3)) = xs[1]? := hg 1 _ rfl
  have h2 : DataW.trod enc Tryd.prog w base spare held n 3 ((cs0.toList.drop 2).take (Tryd.prog.cellsOf 3)) = xs[2]? := hg 2 _ rfl
  rw [List.getElem?_eq_getElem (by omega)] at h0 h1 h2
  rw [cells_slots] at h0
  rw [cells_int] at h1 h2
  obtain ⟨l⟩ := cs0
  match l, hl with
  | [v0, v1, v2], _ =>
    obtain ⟨A, c, sl, e0, hr, hc⟩ := open_slots h0
    obtain ⟨y, e1, _, _⟩ := DataW.trod_int Tryd.underlying3 h1
    obtain ⟨z, e2, _, _⟩ := DataW.trod_int Tryd.underlying3 h2
    refine ⟨A, c, sl, y, z, ?_, hr, hc⟩
    simp only [List.drop_zero, List.take_succ_cons, List.take_zero, List.drop_succ_cons, List.cons.injEq, and_true] at e0 e1 e2
    rw [e0, e1, e2]
end

end Go.Proofs.YtabbehmodmmgoaaDoor
end
end

section
section
namespace Go.Proofs.YtabbehmodmmgoaaDoor
open Go.ChangeShapes Go.WideShapes Go.ChangeAt Go.RowKit Go.Joins

set_option maxRecDepth 100000 in
theorem designStocks_met (os : Os) (args : Array Value) : laidMetH Tryd.prog Rows.designStocksRow.laid ((World.laidAll Tryd.prog os Rows.designStocksRow.laid).forCall (fun _ _ => 0) ⟨#[], args, []⟩).memory := by
  rw [MakeChecks.laidMetH_plain _ _ _ (by kernel_rfl)]
  exact laidMet_laidAll args (by kernel_rfl) (by kernel_rfl)

set_option maxRecDepth 100000 in
theorem designStocks_lifted (os : Os) (started : os.Started) (H : Type) (enc : TypeId × Value → H) :
    ReturnsInHanded {} Tryd.checked os 6 .any (fun w args => (Rows.designStocksSpec.pre enc Tryd.prog Tryd.f6 [] false w args ∧ laidMetH Tryd.prog Rows.designStocksRow.laid w) ∧ sizedMet enc Tryd.prog Tryd.f6 (OpenSpec.ofChange Rows.designStocksSpec) false w args)
      (Rows.designStocksSpec.post enc Tryd.prog Tryd.f6 false true false false) := by
  refine returnsInHanded_of_change_and (C := Tryd.checked) (X := fun w _ => laidMetH Tryd.prog Rows.designStocksRow.laid w) (fun _ _ _ hh h => h.of_heap hh) own_knob started (by kernel_rfl) Tryd.func6
    (ChangeSpec.witness_shaped (enc := enc) (C := Tryd.checked) (os := os) (X := fun w _ => laidMetH Tryd.prog Rows.designStocksRow.laid w) false (World.laidAll Tryd.prog os Rows.designStocksRow.laid) #[.agg #[.slice none 0 0, .int .i64 0, .int .i64 0], .int .i64 0] 8 (World.laidAll_os _ _ _) (World.shaped_of_ZipB (by kernel_rfl) (by kernel_rfl)) (by kernel_rfl) (by kernel_rfl) (by kernel_rfl) (designStocks_met os _)) ?_
  intro W base args ds gs before hval0 hWd _ _ hL _
  have hval : ∀ (j : Nat) t v, Tryd.f6.params[j]? = some t → args[j]? = some v → Value.okWide Tryd.prog W .any base t v := hval0
  have hW' := hWd
  obtain ⟨p, q, hA0, hV, rfl, hfz, hnd⟩ := hWd
  have hA : DataW.TrodAll enc Tryd.prog W 0 (fun _ => true) true Tryd.f6.params.toList args.toList ds p := hA0
  rw [Tryd.params6] at hA hval
  obtain ⟨v0, vs0, d0, ds0, p0, q0, hargs, rfl, rfl, h0, r0⟩ := trodAll_cons hA
  obtain ⟨v1, vs1, d1, ds1, p1, q1, rfl, rfl, rfl, h1, r1⟩ := trodAll_cons r0
  obtain ⟨rfl, rfl, rfl⟩ := trodAll_nil r1
  obtain rfl : args = #[v0, v1] := by cases args; simp_all
  obtain ⟨A0, c0, sl0, y0, z0, rfl, hs0, hcs0⟩ := open_stock (hval 0 _ v0 rfl rfl) h0
  obtain ⟨a1, rfl, rfl, rfl, _⟩ := open_int Tryd.underlying3 (hval 1 _ v1 rfl rfl) h1
  rw [MakeChecks.laidMetH_plain _ _ _ (by kernel_rfl)] at hL
  have hU := unit_reads (Lib.laidMet.reads hL (n := "buchholz/design.unitOf") (d := Rows.laid_buchholz_design_unitOf) (by simp [Rows.designStocksRow]))
  have hQ := qwords_read (Lib.laidMet.reads hL (n := "buchholz/design.quantityWords") (d := Rows.laid_buchholz_design_quantityWords) (by simp [Rows.designStocksRow]))
  have hW := uwords_read (Lib.laidMet.reads hL (n := "buchholz/design.unitWords") (d := Rows.laid_buchholz_design_unitWords) (by simp [Rows.designStocksRow]))
  clear hA0 hval0 hval hA hL h0 r0 h1 r1
  refine (designStocks_any W.heap.size sl0 A0 sl0.length c0 y0 z0 a1 W hU hQ hW hs0 (Nat.le_refl _) rfl).mono fun e W' ⟨he, hb⟩ => ?_
  subst he
  exact law_end laid_out (fun t ht => (by decide +kernel : ∀ t ∈ Tryd.f6.params.toList, Tryd.prog.readableRec t = true ∧ t < Tryd.prog.types.size) t ht) rfl Tryd.underlying4 rfl rfl hW' hb

theorem designStocks_said : Rows.DesignStocksSaid :=
  OpenClaim.holds_of_wide 6 Tryd.f6 rfl rfl rfl rfl rfl rfl rfl ⟨rfl, rfl, rfl, rfl, rfl⟩ rfl rfl rfl rfl rfl (by kernel_rfl) Tryd.func6 (by kernel_rfl)
    (of_decide_eq_true (by kernel_rfl)) (by unfold Func.isWrapper; first | (rw [if_pos (by decide +kernel)]; kernel_rfl) | (rw [if_neg (by decide +kernel)]; exact ⟨rfl, rfl⟩))
    (fun os started H enc _ => designStocks_lifted os started H enc)

/-- No parameter wants a stand-in; the program's own looks are off. -/
theorem designStocks_plain (f : FuncId) (fn : Func) (hf : Tryd.pinned.checked.prog.funcNamed "buchholz/buchholzlaw02.DesignStocks" = some f) (hfn : Tryd.pinned.checked.prog.funcs[f]? = some fn) :
    false = Tryd.pinned.checked.prog.looks [] ∧ ∀ (j : Nat) t, fn.params[j]? = some t → Tryd.pinned.checked.prog.wantsStandIn t = false := by
  obtain rfl : f = 6 := Option.some.inj ((show Tryd.prog.funcNamed "buchholz/buchholzlaw02.DesignStocks" = some 6 by kernel_rfl).symm.trans hf) |>.symm
  obtain rfl : fn = Tryd.f6 := (Option.some.inj (Tryd.func6.symm.trans hfn)).symm
  refine ⟨by kernel_rfl, fun j t ht => ?_⟩
  have hm : t ∈ Tryd.f6.params.toList := by simpa using Array.mem_of_getElem? ht
  exact (by decide +kernel : ∀ t ∈ Tryd.f6.params.toList, Tryd.prog.wantsStandIn t = false) t hm

/-- THE CARD. -/
theorem designStocks_holds : Rows.DesignStocksCardSaid :=
  Claim7.holds_tied_plain_at .later [] _ _ _ _ designStocks_said (fun _ h => by cases h) (by kernel_rfl) (fun _ h => by cases h) designStocks_row_tie rfl ⟨rfl, rfl⟩ (by kernel_rfl) rfl designStocks_plain (by kernel_rfl)
#print axioms designStocks_holds

end Go.Proofs.YtabbehmodmmgoaaDoor
end
end
