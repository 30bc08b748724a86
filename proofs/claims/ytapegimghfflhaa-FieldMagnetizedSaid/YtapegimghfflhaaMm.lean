/- Plain facts on networks: the way to the root, step by step (chapter 3). No condition.
Contracts: climb, loop (package field).
Contract: loop (package field).
Rows of the call's own: apart from blocks of other kinds; kept behind a store into such a block, and by what leaves old memory alone. No condition. -/
import Derived.Test.YtapegimghfflhaaMl
import Derived.Test.YtapegimghfflhaaMj
import Derived.Test.YtapegimghfflhaaM7
import Derived.Test.YtapegimghfflhaaM4

section
namespace Go.Proofs.Ytapegimghfflhaa

/-- Each node hangs on no branch, or on a branch to a node of lower rank. -/
structure Hung (N : Nat) (bs : List FBr) (hs : List Int) (rank : Nat → Nat) : Prop where
  len : hs.length = N
  top : ∀ k, k < N → rank k < N
  next : ∀ k, k < N → hs.getD k 0 = -1 ∨ ∃ i : Nat, hs.getD k 0 = (i : Int) ∧ i < bs.length ∧ otherN (bs.getD i default) k < N ∧ rank (otherN (bs.getD i default) k) < rank k ∧ (bs.getD i default).a + (bs.getD i default).b - (k : Int) = ((otherN (bs.getD i default) k : Nat) : Int)
/-- The place of a number in a list. -/
def posN (l : List Nat) (x : Nat) : Nat := l.findIdx fun y => y == x
theorem posN_at {l : List Nat} (hd : l.Nodup) {p x : Nat} (h : l[p]? = some x) : posN l x = p := by
  obtain ⟨hp, he⟩ := List.getElem?_eq_some_iff.1 h
  unfold posN
  have h1 : l.findIdx (fun y => y == x) < l.length := List.findIdx_lt_length_of_exists ⟨x, by rw [← he]; exact List.getElem_mem hp, by simp⟩
  have h2 := List.findIdx_getElem (w := h1)
  rw [beq_iff_eq] at h2
  exact nodup_inj hd h1 hp (h2.trans he.symm)
theorem getD_memF {l : List FBr} {j : Nat} (hj : j < l.length) : l.getD j default ∈ l := by
  rw [List.getD_eq_getElem?_getD, List.getElem?_eq_getElem hj]
  exact List.getElem_mem hj
theorem forest_hung {N : Nat} {bs : List FBr} (hn : NetOk N bs) : Hung N bs (forestV bs N).hangs (posN (forestV bs N).order) := by
  have ok := forest_ok hn
  refine ⟨ok.hl, fun k hk => ?_, fun k hk => ?_⟩
  · obtain ⟨p, hp, e⟩ := List.getElem_of_mem (forest_all hn hk)
    rw [posN_at ok.nodup (by rw [List.getElem?_eq_getElem hp, e])]
    exact Nat.lt_of_lt_of_le hp ok.len
  · rcases ok.hang k hk with h2 | ⟨i, j, p, g1, g2, g3, g4, g5, g6⟩
    · exact .inl h2
    · refine .inr ⟨i, g1, g2, ((ok.mem _).1 (List.mem_of_getElem? g5)).1, ?_, ?_⟩
      · rw [posN_at ok.nodup g3, posN_at ok.nodup g5]
        exact g4
      · have hx := getD_memF (l := bs) g2
        obtain ⟨h1, h3, h4, _⟩ := hn.br _ hx
        generalize bs.getD i default = x at *
        unfold otherN
        omega
/-- All numbers of a row are small. -/
def BdL (C : Int) (v : List Int) : Prop := ∀ j, -C ≤ v.getD j 0 ∧ v.getD j 0 ≤ C
theorem BdL.set {C : Int} {v : List Int} (h : BdL C v) (k : Nat) {x : Int} (hx : -(C + 1) ≤ x ∧ x ≤ C + 1) : BdL (C + 1) (v.set k x) := fun j => by
  have := h j
  rw [getD_set]
  split
  · exact hx
  · omega
end Go.Proofs.Ytapegimghfflhaa
end

section
namespace Go.Proofs.Ytapegimghfflhaa
open Go.RowKit

/-- The block of a field: its network, its forest, its loops, its reluctances. -/
def fldA (N : Int) (A : Option Addr) (n c : Nat) (lo ha od lp rl : Value) : Array Value := #[.int .i64 N, .slice A n c, lo, ha, od, lp, rl]
set_option maxHeartbeats 4000000 in
set_option maxRecDepth 100000 in
theorem climb_any (B f g : Nat) (N : Nat) (bs : List FBr) (hs : List Int) (rank : Nat → Nat) (A HA : Option Addr) (n c hc : Nat) (lo od lp rl : Value) (v : List Int) (vc : Nat) (k : Nat) (sg : Int) (C : Int) (w : World)
    (hF : Blk w f 107 (fldA N A n c lo (.slice HA N hc) od lp rl)) (hfg : f ≠ g) (hb : CellsIn B w A (brsC bs)) (hh : IntsIn B w HA hs) (hBg : B ≤ g) (hV : Blk w g 3 (intA v))
    (hu : Hung N bs hs rank) (hn : bs.length = n) (hv : v.length = n) (_hn1 : n ≤ 1000) (hN : N ≤ 1000) (hk : k < N) (hsg : sg = 1 ∨ sg = -1) (hC : 0 ≤ C ∧ C ≤ 1000000) (hbd : BdL C v) :
    Calls Try.prog 67 #[.pointer (some ⟨f, 0, none⟩), .slice (some ⟨g, 0, none⟩) n vc, .int .i64 (k : Int), .int .i64 sg] w fun e w' => e = .returned (.tuple #[]) ∧ Blk w' g 3 (intA (climbV bs hs sg N v k)) ∧ Below g w w' := by
  have HF := Lib.hid hF
  have HBr := Lib.hid hb
  have HH := Lib.hid hh
  have HU := Lib.hid hu
  have HN := Lib.hid hn
  have HV0 := Lib.hid hV
  have HK0 := Lib.hid hk
  have HVl := Lib.hid hv
  have HBd := Lib.hid hbd
  have hgw := hV.lt
  have HX := Lib.hid (fun W (hW : Below g w W) => (show CellsIn B W A (brsC bs) ∧ IntsIn B W HA hs from ⟨hb.below (hW.mono hBg), hh.below (hW.mono hBg)⟩))
  clear hF hb hh hu hn hV hv hbd hk
  go_enter Try.func67, Try.ntmps67
  go_wp2
  go_loopw [2] (fun av wr => ∃ (f' a : Nat) (v' : List Int), av = .int .i64 (a : Int) ∧ a < N ∧ f' ≤ N ∧ rank a < f' ∧ climbV bs hs sg N v k = climbV bs hs sg f' v' a ∧ v'.length = n ∧ BdL (C + ((N : Int) - (f' : Int))) v' ∧ Blk wr g 3 (intA v') ∧ Blk wr f 107 (fldA N A n c lo (.slice HA N hc) od lp rl) ∧ Below g w wr) (fun av _ => rank (intOf av).toNat)
  case atStart => exact ⟨N, k, v, rfl, HK0.out, Nat.le_refl _, HU.out.top k HK0.out, rfl, HVl.out, by rw [Int.sub_self, Int.add_zero]; exact HBd.out, HV0.out, HF.out, Below.refl _ _⟩
  case round =>
    obtain ⟨f', a, v', rfl, ha, hf1, hf2, hcl, hvl, hbd', hvb, hfb, hq⟩ := hrel
    clear HF HV0 HBr HH
    obtain ⟨hbr, hhi⟩ := HX.out wr hq
    obtain ⟨bh, oh, rfl, hbh, hch⟩ := hhi.at_ (show a < hs.length by rw [HU.out.len]; exact ha)
    have h0 := hch a (by rw [HU.out.len]; exact ha)
    have hnx := HU.out.next a ha
    have HFb := Lib.hid hfb
    have HVb := Lib.hid hvb
    have HQ := Lib.hid hq
    have HC := Lib.hid hcl
    have HVl' := Lib.hid hvl
    have HBd' := Lib.hid hbd'
    have x0 : wr.cell? ⟨f, 1, none⟩ = some (.slice A n c) := hfb.cellAt 1 rfl
    have x1 : wr.cell? ⟨f, 3, none⟩ = some (.slice (some ⟨bh, oh, none⟩) N hc) := hfb.cellAt 3 rfl
    have xl := hfb.lt
    have vl := hvb.lt
    have hbhw : bh < wr.heap.size := Nat.lt_of_lt_of_le hbh (Nat.le_trans hBg (Nat.le_of_lt vl))
    have a0 : (0 : Int) ≤ (a : Int) := by omega
    have a1 : (a : Int) < (N : Int) := by omega
    obtain ⟨f2, hf'⟩ : ∃ f2, f' = f2 + 1 := ⟨f' - 1, by omega⟩
    subst hf'
    clear hch hcl hvl hbd' hvb hfb hq hhi
    by_cases hz : hs.getD a 0 = -1
    · have HE := Lib.hid (show climbV bs hs sg N v k = v' by rw [HC.out, climbV, if_pos hz])
      rw [hz] at h0
      clear hz hnx
      go_wp2
      go_end0
      exact ⟨rfl, by rw [HE.out]; exact HVb.out, HQ.out⟩
    · obtain ⟨i, hi1, hi2, ho1, ho2, ho3⟩ := hnx.resolve_left hz
      obtain ⟨bb, ob, rfl, hbb, hcb⟩ := brs_at hbr hi2
      obtain ⟨u0, u1, u2, u3⟩ := hcb i hi2
      have hbbw : bb < wr.heap.size := Nat.lt_of_lt_of_le hbb (Nat.le_trans hBg (Nat.le_of_lt vl))
      have hin : i < n := by rw [← HN.out]; exact hi2
      have v0 := intA_cell HVb.out (show i < v'.length by rw [HVl'.out]; exact hin)
      have vf := HVb.out.frozen i
      have HE := Lib.hid (show climbV bs hs sg N v k = climbV bs hs sg f2 (v'.set i (if (bs.getD i default).a = (a : Int) then v'.getD i 0 + sg else v'.getD i 0 - sg)) (otherN (bs.getD i default) a) by
        rw [HC.out, climbV, if_neg hz, hi1, Int.toNat_natCast])
      have hbi := HBd'.out i
      rw [hi1] at h0
      have i0 : (0 : Int) ≤ (i : Int) := by omega
      have i1 : (i : Int) < (n : Int) := by omega
      clear hcb hbr hz hnx hi1 hi2
      generalize otherN (bs.getD i default) a = oa at *
      generalize bs.getD i default = x at *
      obtain ⟨xa, xb, xr, xt⟩ := x
      dsimp only at *
      have HO3 := Lib.hid ho3
      have HSt := Lib.hid (fun y (hy : -((C + ((N : Int) - ((f2 + 1 : Nat) : Int))) + 1) ≤ y ∧ y ≤ (C + ((N : Int) - ((f2 + 1 : Nat) : Int))) + 1) => (show BdL (C + ((N : Int) - (f2 : Int))) (v'.set i y) from by
        have h := HBd'.out.set i hy
        rw [show C + ((N : Int) - ((f2 + 1 : Nat) : Int)) + 1 = C + ((N : Int) - (f2 : Int)) by omega] at h
        exact h))
      generalize v'.getD i 0 = y at *
      have hyb : -1001000 ≤ y ∧ y ≤ 1001000 := by omega
      have w1 : wrap64 (y + sg) = y + sg := w64 (by omega)
      have w1i : IntKind.i64.wrap (y + sg) = y + sg := IntWalk.i64_in _ (by omega)
      have w2 : wrap64 (y - sg) = y - sg := w64 (by omega)
      have w2i : IntKind.i64.wrap (y - sg) = y - sg := IntWalk.i64_in _ (by omega)
      have HY1 := Lib.hid (show -((C + ((N : Int) - ((f2 + 1 : Nat) : Int))) + 1) ≤ y + sg ∧ y + sg ≤ (C + ((N : Int) - ((f2 + 1 : Nat) : Int))) + 1 by omega)
      have HY2 := Lib.hid (show -((C + ((N : Int) - ((f2 + 1 : Nat) : Int))) + 1) ≤ y - sg ∧ y - sg ≤ (C + ((N : Int) - ((f2 + 1 : Nat) : Int))) + 1 by omega)
      have HVl2 := Lib.hid (fun z => (show (v'.set i z).length = n by rw [List.length_set]; exact HVl'.out))
      clear hbi hsg hC
      have hxx : -2000 ≤ xa + xb ∧ xa + xb ≤ 2000 := by omega
      have w3 : wrap64 (xa + xb) = xa + xb := w64 (by omega)
      have w3i : IntKind.i64.wrap (xa + xb) = xa + xb := IntWalk.i64_in _ (by omega)
      have w4 : wrap64 (xa + xb - (a : Int)) = (oa : Int) := (w64 (by omega)).trans HO3.out
      have w4i : IntKind.i64.wrap (xa + xb - (a : Int)) = (oa : Int) := (IntWalk.i64_in _ (by omega)).trans HO3.out
      clear ho3 hxx
      have HV1 := Lib.hid (fun z => (show Blk ((wr.setCell ⟨g, i, none⟩ (.int .i64 z)).alloc (.cells #[.int .i64 xa, .int .i64 xb, .int .i64 xr, .int .i64 xt] 79)) g 3 (intA (v'.set i z)) from (intA_set HVb.out i z).alloc))
      have HF1 := Lib.hid (fun z => (show Blk ((wr.setCell ⟨g, i, none⟩ (.int .i64 z)).alloc (.cells #[.int .i64 xa, .int .i64 xb, .int .i64 xr, .int .i64 xt] 79)) f 107 (fldA N (some ⟨bb, ob, none⟩) n c lo (.slice (some ⟨bh, oh, none⟩) N hc) od lp rl) from (HFb.out.far (p := ⟨g, i, none⟩) (u := .int .i64 z) hfg).alloc))
      have HQ1 := Lib.hid (fun z => (show Below g w ((wr.setCell ⟨g, i, none⟩ (.int .i64 z)).alloc (.cells #[.int .i64 xa, .int .i64 xb, .int .i64 xr, .int .i64 xt] 79)) from (HQ.out.setCell (Nat.le_refl _) _).alloc (by simp; exact Nat.le_of_lt vl) _))
      by_cases hxa : xa = (a : Int)
      · have z1 : (xa == (a : Int)) = true := by simpa using hxa
        rw [if_pos hxa] at HE
        have HA2 := Lib.hid hxa
        clear hxa
        go_wp2
        go_roundw
        case rel => exact ⟨f2, oa, v'.set i (y + sg), by go_num, ho1, by omega, by omega, HE.out, HVl2.out _, HSt.out _ HY1.out, HV1.out _, HF1.out _, HQ1.out _⟩
        case measure => simp [intOf]; omega
      · have z1 : (xa == (a : Int)) = false := by simpa using hxa
        rw [if_neg hxa] at HE
        go_wp2
        go_roundw
        case rel => exact ⟨f2, oa, v'.set i (y - sg), by go_num, ho1, by omega, by omega, HE.out, HVl2.out _, HSt.out _ HY2.out, HV1.out _, HF1.out _, HQ1.out _⟩
        case measure => simp [intOf]; omega
end Go.Proofs.Ytapegimghfflhaa
end

section
namespace Go.Proofs.Ytapegimghfflhaa
open Go.RowKit
theorem vec_made (n : Nat) (h : n ≤ 1000) (W : World) : (Instr.makeSlice 81 (.int .i64 (n : Int)) (.int .i64 (n : Int))).run Try.prog W = .ok (.slice (some ⟨W.heap.size, 0, none⟩) n n) (W.alloc (.cells (Array.replicate n (Value.int .i64 0)) 3)) := by
  obtain ⟨i, hi, hz⟩ := Option.map_eq_some_iff.1 int_info
  simp only [Prod.mk.injEq] at hz
  obtain ⟨z1, z2, z3⟩ := hz
  have hr := run_make (P := Try.prog) W 81 3 i _ Try.underlying81 hi z1 .i64 .i64 n n (by omega) (Int.le_refl _) (by rw [show i.bytes = 8 from z3]; omega) (by omega)
  simp only [Int.toNat_natCast, z2] at hr
  have e : madeCells (Value.int .i64 0).cells (n * 1) = Array.replicate n (Value.int .i64 0) := by
    unfold madeCells
    apply Array.ext
    · simp
    · intro j h1 h2
      simp [Value.cells, Nat.mod_one]
  rw [e] at hr
  exact hr

set_option maxHeartbeats 4000000 in
set_option maxRecDepth 100000 in
theorem loopFd_any (B f : Nat) (N : Nat) (bs : List FBr) (hs : List Int) (rank : Nat → Nat) (A HA : Option Addr) (n c hc : Nat) (lo od lp rl : Value) (i : Nat) (w : World)
    (hF : Blk w f 107 (fldA N A n c lo (.slice HA N hc) od lp rl)) (hb : CellsIn B w A (brsC bs)) (hh : IntsIn B w HA hs) (hB : B ≤ w.heap.size)
    (hu : Hung N bs hs rank) (hn : bs.length = n) (hok : NetOk N bs) (hi : i < n) :
    Calls Try.prog 53 #[.pointer (some ⟨f, 0, none⟩), .int .i64 (i : Int)] w fun e w' => e = .returned (.slice (some ⟨w.heap.size, 0, none⟩) n n) ∧ Blk w' w.heap.size 3 (intA (loopV bs hs N i)) ∧ Below w.heap.size w w' := by
  have hm := hok.m
  have hN := hok.n.2
  have hmk := fun W => vec_made n (by omega) W
  have hi2 : i < bs.length := by rw [hn]; exact hi
  obtain ⟨n1, n2, n3, _⟩ := hok.br _ (getD_memF hi2)
  have HC1 := Lib.hid (fun (g : Nat) (v : List Int) (W : World) (hW : Below w.heap.size w W) (hg : w.heap.size ≤ g) (hv : v.length = n) (hbd : BdL 1 v) (hV : Blk W g 3 (intA v)) =>
    climb_any B f g N bs hs rank A HA n c hc lo od lp rl v n (bs.getD i default).b.toNat 1 1 W (hF.past hW) (by have := hF.lt; omega) (hb.below (hW.mono hB)) (hh.below (hW.mono hB)) (Nat.le_trans hB hg) hV hu hn hv (by omega) (by omega) (by omega) (.inl rfl) (by decide) hbd)
  have HC2 := Lib.hid (fun (g : Nat) (v : List Int) (W : World) (hW : Below w.heap.size w W) (hg : w.heap.size ≤ g) (hv : v.length = n) (hbd : BdL 6 v) (hV : Blk W g 3 (intA v)) =>
    climb_any B f g N bs hs rank A HA n c hc lo od lp rl v n (bs.getD i default).a.toNat (-1) 6 W (hF.past hW) (by have := hF.lt; omega) (hb.below (hW.mono hB)) (hh.below (hW.mono hB)) (Nat.le_trans hB hg) hV hu hn hv (by omega) (by omega) (by omega) (.inr rfl) (by decide) hbd)
  have HL := Lib.hid (show loopV bs hs N i = climbV bs hs (-1) N (climbV bs hs 1 N ((List.replicate n 0).set i 1) (bs.getD i default).b.toNat) (bs.getD i default).a.toNat from by unfold loopV; rw [hn])
  have HBd1 := Lib.hid (show BdL 1 ((List.replicate n (0 : Int)).set i 1) from fun q => by
    rw [getD_set]
    split
    · decide
    · simp only [List.getD, List.getElem?_replicate]
      split <;> decide)
  have HBd2 := Lib.hid (show BdL 6 (climbV bs hs 1 N ((List.replicate n 0).set i 1) (bs.getD i default).b.toNat) from fun q => by
    have h := climb_bd bs hs (sg := 1) (.inl rfl) N ((List.replicate n (0 : Int)).set i 1) (bs.getD i default).b.toNat 1 (by decide) HBd1.out q
    omega)
  have HLn := Lib.hid (show (climbV bs hs 1 N ((List.replicate n 0).set i 1) (bs.getD i default).b.toNat).length = n by rw [climb_len, List.length_set, List.length_replicate])
  rw [Int.toNat_of_nonneg n1.1] at HC2
  rw [Int.toNat_of_nonneg n2.1] at HC1
  have HF := Lib.hid hF
  have x0 : w.cell? ⟨f, 1, none⟩ = some (.slice A n c) := hF.cellAt 1 rfl
  have xl := hF.lt
  obtain ⟨bb, ob, rfl, hbb, hcb⟩ := brs_at hb hi2
  have HBr := Lib.hid (fun W (hW : Below w.heap.size w W) => (show W.cell? ⟨f, 1, none⟩ = some (.slice (some ⟨bb, ob, none⟩) n c) ∧ f < W.heap.size ∧ W.cell? ⟨bb, ob + i * 4, none⟩ = some (.int .i64 (bs.getD i default).a) ∧ W.cell? ⟨bb, ob + i * 4 + 1, none⟩ = some (.int .i64 (bs.getD i default).b) ∧ bb < W.heap.size from
    ⟨(HF.out.past hW).cellAt 1 rfl, (HF.out.past hW).lt, ((bcell hW).1 _ _ (Nat.lt_of_lt_of_le hbb hB)).trans (hcb i hi2).1, ((bcell hW).1 _ _ (Nat.lt_of_lt_of_le hbb hB)).trans (hcb i hi2).2.1, Nat.lt_of_lt_of_le hbb (Nat.le_trans hB hW.size)⟩))
  have i0 : (0 : Int) ≤ (i : Int) := by omega
  have i1 : (i : Int) < (n : Int) := by omega
  have V0 := Lib.hid (show Blk (w.alloc (.cells (Array.replicate n (Value.int .i64 0)) 3)) w.heap.size 3 (intA (List.replicate n 0)) from by rw [intA_rep]; exact Blk.newAt rfl)
  have HB0 := Lib.hid (show Below w.heap.size w (w.alloc (.cells (Array.replicate n (Value.int .i64 0)) 3)) from pa pr)
  have HBs := Lib.hid (show Below w.heap.size w (w.alloc (.cells ((Array.replicate n (Value.int .i64 0)).setIfInBounds i (.int .i64 1)) 3)) from pa pr)
  have HVs := Lib.hid (show Blk (w.alloc (.cells ((Array.replicate n (Value.int .i64 0)).setIfInBounds i (.int .i64 1)) 3)) w.heap.size 3 (intA ((List.replicate n 0).set i 1)) from by
    have e : (Array.replicate n (Value.int .i64 0)).setIfInBounds i (.int .i64 1) = intA ((List.replicate n 0).set i 1) := by rw [intA_rep, intA_setA]
    rw [e]
    exact Blk.newAt rfl)
  have HLs := Lib.hid (show ((List.replicate n (0 : Int)).set i 1).length = n by rw [List.length_set, List.length_replicate])
  have c0 := intA_cell V0.out (show i < (List.replicate n (0 : Int)).length by rw [List.length_replicate]; exact hi)
  have cf := V0.out.frozen i
  have cl := V0.out.lt
  clear hb hh hu hn hok hcb n1 n2 n3 hi2 HF hF x0 xl
  obtain ⟨x0, xl, u0, u1, ul⟩ := HBr.out w pr
  generalize (bs.getD i default).a = xa at *
  generalize (bs.getD i default).b = xb at *
  generalize (List.replicate n (0 : Int)).set i 1 = V1 at *
  have HT1 := Lib.hid (HC1.out _ _ _ HBs.out (Nat.le_refl _) HLs.out HBd1.out HVs.out)
  generalize climbV bs hs 1 N V1 xb.toNat = V2 at *
  go_enter Try.func53, Try.ntmps53
  go_wp2_with (first
    | (go_at_call 67; (with_reducible refine HT1.out.mono ?_); rintro e w1 ⟨rfl, hv1, hb1⟩; have HB1 := Lib.hid (HBs.out.trans hb1); have HV1 := Lib.hid hv1; clear x0 xl u0 u1 ul c0 cf cl hv1 hb1 HT1; obtain ⟨x0, xl, u0, u1, ul⟩ := HBr.out _ HB1.out; have HT2 := Lib.hid (HC2.out _ _ _ HB1.out (Nat.le_refl _) HLn.out HBd2.out HV1.out))
    | (go_at_call 67; (with_reducible refine HT2.out.mono ?_); rintro e w2 ⟨rfl, hv2, hb2⟩; have HB2 := Lib.hid (HB1.out.trans hb2); have HV2 := Lib.hid hv2; clear hv2 hb2))
  go_ret
  exact ⟨rfl, by rw [HL.out]; exact HV2.out, HB2.out⟩
end Go.Proofs.Ytapegimghfflhaa
end

section
namespace Go.Proofs.Ytapegimghfflhaa
open Go.RowKit

theorem ownNe {w : World} {base g n size : Nat} {e t : TypeId} {v : Value} {xs : List Value} {cs : Array Value} {fz : Nat × Nat} (ho : w.ownsRow base e size v n xs) (hb : w.heap[g]? = some (Obj.cells cs t fz)) (hne : e ≠ t) : some g ≠ v.ownBlock := fun he => by
  rcases ho.2 with ⟨h1, _⟩ | ⟨g', cap, cur, h1, _, hh, _⟩
  · rw [h1] at he; cases he
  · rw [h1] at he
    have : g = g' := by simpa [Value.ownBlock] using he
    subst this
    rw [hb] at hh
    injection hh with hh
    injection hh with _ hh
    exact absurd hh.symm hne
theorem ownCellT {w : World} {base size n g : Nat} {e t : TypeId} {v : Value} {xs : List Value} {cs : Array Value} (ho : w.ownsRow base e size v n xs) (hb : Blk w g t cs) (hne : e ≠ t) {q : Addr} (hq : q.block = g) (u : Value) : (w.setCell q u).ownsRow base e size v n xs := by
  obtain ⟨h1, h2⟩ := ho
  refine ⟨h1, ?_⟩
  rcases h2 with h2 | ⟨g', cap, cur, h3, h4, h5, h6⟩
  · exact .inl h2
  · refine .inr ⟨g', cap, cur, h3, h4, ?_, h6⟩
    rw [Below.heap_setCell _ _ _ _ fun e' => ?_]
    · exact h5
    · rw [hq] at e'
      subst e'
      unfold Blk at hb
      rw [hb] at h5
      injection h5 with h5
      injection h5 with _ h5
      exact hne h5.symm
theorem ownPast {w w' : World} {base : Nat} {e : TypeId} {size n : Nat} {v : Value} {xs : List Value} (hb : Below w.heap.size w w') (h : w.ownsRow base e size v n xs) : w'.ownsRow base e size v n xs :=
  h.kept (show w.grownBy w' none from ⟨hb.os, hb.tape, hb.output, hb.size, fun i hi _ => hb.block i hi⟩) (by cases v.ownBlock <;> simp)
theorem cells_newO (w : World) (t : TypeId) (cs : Array Value) : CellsIn (w.heap.size + 1) (w.alloc (.cells cs t)) (some ⟨w.heap.size, 0, none⟩) cs.toList := .inr ⟨w.heap.size, 0, rfl, by omega, fun q hq => by
  rw [Nat.zero_add, Array.getElem?_toList]
  exact (Blk.new w t cs).cell q⟩
theorem info_of {P : Program} {t : TypeId} {z : Value} {s b : Nat} (h : (P.info? t).map (fun i => (i.zero, i.size, i.bytes)) = some (some z, s, b)) : ∃ i, P.info? t = some i ∧ i.zero = some z ∧ i.size = s ∧ i.bytes = b := by
  cases hi : P.info? t with
  | none => rw [hi] at h; cases h
  | some i => rw [hi] at h; simp only [Option.map_some, Option.some.injEq, Prod.mk.injEq] at h; exact ⟨i, rfl, h.1, h.2.1, h.2.2⟩
end Go.Proofs.Ytapegimghfflhaa
end
