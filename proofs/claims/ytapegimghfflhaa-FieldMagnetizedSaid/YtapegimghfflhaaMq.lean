/- Contract: fluxes (package field). -/
import Derived.Test.YtapegimghfflhaaMo
import Derived.Test.YtapegimghfflhaaMp

section
namespace Go.Proofs.Ytapegimghfflhaa
open Go.RowKit

/-- Loops in memory: the row of their slices at lb, each with m numbers. -/
structure LoopsIn (B : Nat) (w : World) (LA : Option Addr) (L : List (List Int)) (m : Nat) : Prop where
  at_ : L = [] ∨ ∃ lb lo, LA = some ⟨lb, lo, none⟩ ∧ lb < B ∧ ∀ i, i < L.length → ∃ A c, w.cell? ⟨lb, lo + i, none⟩ = some (.slice A m c) ∧ IntsIn B w A (L.getD i [])
  len : ∀ i, i < L.length → (L.getD i []).length = m
theorem LoopsIn.below {B : Nat} {w w' : World} {LA : Option Addr} {L : List (List Int)} {m : Nat} (h : LoopsIn B w LA L m) (hb : Below B w w') : LoopsIn B w' LA L m := by
  refine ⟨?_, h.len⟩
  rcases h.at_ with h1 | ⟨lb, lo, h1, h2, h3⟩
  · exact .inl h1
  · refine .inr ⟨lb, lo, h1, h2, fun i hi => ?_⟩
    obtain ⟨A, c, h4, h5⟩ := h3 i hi
    exact ⟨A, c, (World.cell?_of_block (hb.block lb h2)).trans h4, h5.below hb⟩

/-! What the loops compute: one equation after the other. -/
theorem vecs_made (n : Nat) (h : n ≤ 1000) (W : World) : (Instr.makeSlice 105 (.int .i64 (n : Int)) (.int .i64 (n : Int))).run Try.prog W = .ok (.slice (some ⟨W.heap.size, 0, none⟩) n n) (W.alloc (.cells (Array.replicate n (Value.slice none 0 0)) 81)) := by
  obtain ⟨i, hi, hz, z2, z3⟩ := info_of (show (Try.prog.info? 81).map (fun i => (i.zero, i.size, i.bytes)) = some (some (.slice none 0 0), 1, 24) by kernel_rfl)
  have hr := run_make (P := Try.prog) W 105 81 i _ Try.underlying105 hi hz .i64 .i64 n n (by omega) (Int.le_refl _) (by rw [z3]; omega) (by omega)
  simp only [Int.toNat_natCast, z2] at hr
  have e : madeCells (Value.slice none 0 0).cells (n * 1) = Array.replicate n (Value.slice none 0 0) := by
    unfold madeCells
    apply Array.ext
    · simp
    · intro j h1 h2
      simp [Value.cells, Nat.mod_one]
  rw [e] at hr
  exact hr
/-- Rows of numbers while they are made: the first i of them stand in the row of slices. -/
structure RowsAt (rb cnt i : Nat) (g : Nat → Nat) (ρ : Nat → List Int) (w : World) : Prop where
  tbl : ∃ cs : Array Value, Blk w rb 81 cs ∧ cs.size = cnt ∧ ∀ q, q < i → cs[q]? = some (.slice (some ⟨g q, 0, none⟩) (cnt + 1) (cnt + 1))
  row : ∀ q, q < i → Blk w (g q) 3 (intA (ρ q))
  ge : ∀ q, q < i → rb < g q
  inj : ∀ p q, p < i → q < i → g p = g q → p = q
section
variable {rb cnt i : Nat} {g : Nat → Nat} {ρ : Nat → List Int} {w w' : World}
theorem RowsAt.past (h : RowsAt rb cnt i g ρ w) (hb : Below w.heap.size w w') : RowsAt rb cnt i g ρ w' := by
  obtain ⟨cs, h1, h2, h3⟩ := h.tbl
  exact ⟨⟨cs, h1.past hb, h2, h3⟩, fun q hq => (h.row q hq).past hb, h.ge, h.inj⟩
theorem RowsAt.far (h : RowsAt rb cnt i g ρ w) {p : Addr} {v : Value} (h1 : rb ≠ p.block) (h2 : ∀ q, q < i → g q ≠ p.block) : RowsAt rb cnt i g ρ (w.setCell p v) := by
  obtain ⟨cs, h3, h4, h5⟩ := h.tbl
  exact ⟨⟨cs, h3.far h1, h4, h5⟩, fun q hq => (h.row q hq).far (h2 q hq), h.ge, h.inj⟩
theorem RowsAt.start (hb : Blk w rb 81 (Array.replicate cnt (Value.slice none 0 0))) : RowsAt rb cnt 0 g ρ w :=
  ⟨⟨_, hb, by simp, fun q hq => absurd hq (Nat.not_lt_zero _)⟩, fun q hq => absurd hq (Nat.not_lt_zero _), fun q hq => absurd hq (Nat.not_lt_zero _), fun p q hp => absurd hp (Nat.not_lt_zero _)⟩
theorem RowsAt.slot (h : RowsAt rb cnt i g ρ w) (hi : i < cnt) : w.frozen? ⟨rb, i, none⟩ = false ∧ rb < w.heap.size ∧ ∃ v, w.cell? ⟨rb, i, none⟩ = some v := by
  obtain ⟨cs, h3, h4, h5⟩ := h.tbl
  exact ⟨h3.frozen i, h3.lt, cs[i]'(by omega), (h3.cell i).trans (Array.getElem?_eq_getElem (by omega))⟩
/-- One more row. -/
theorem RowsAt.step (h : RowsAt rb cnt i g ρ w) (hi : i < cnt) {gi : Nat} (hg : Blk w gi 3 (intA (ρ i))) (hlt : rb < gi) (hne : ∀ q, q < i → g q ≠ gi) : RowsAt rb cnt (i + 1) (fun q => if q = i then gi else g q) ρ (w.setCell ⟨rb, i, none⟩ (.slice (some ⟨gi, 0, none⟩) (cnt + 1) (cnt + 1))) := by
  obtain ⟨cs, h3, h4, h5⟩ := h.tbl
  refine ⟨⟨_, h3.set_ i _, by rw [Array.size_setIfInBounds]; exact h4, fun q hq => ?_⟩, fun q hq => ?_, fun q hq => ?_, fun p q hp hq e => ?_⟩
  · by_cases e : q = i
    · subst e
      rw [if_pos rfl]
      simp [h4, hi]
    · rw [if_neg e, Array.getElem?_setIfInBounds_ne (fun e2 => e e2.symm)]
      exact h5 q (by omega)
  · by_cases e : q = i
    · subst e
      rw [if_pos rfl]
      exact hg.far (p := ⟨rb, q, none⟩) (by dsimp only; omega)
    · rw [if_neg e]
      have := h.ge q (by omega)
      exact (h.row q (by omega)).far (p := ⟨rb, i, none⟩) (by dsimp only; omega)
  · by_cases e : q = i
    · rw [if_pos e]; exact hlt
    · rw [if_neg e]; exact h.ge q (by omega)
  · by_cases e1 : p = i
    · by_cases e2 : q = i
      · rw [e1, e2]
      · rw [if_pos e1, if_neg e2] at e
        exact absurd e.symm (hne q (by omega))
    · by_cases e2 : q = i
      · rw [if_neg e1, if_pos e2] at e
        exact absurd e (hne p (by omega))
      · rw [if_neg e1, if_neg e2] at e
        exact h.inj p q (by omega) (by omega) e
theorem RowsAt.eqs (h : RowsAt rb cnt cnt g ρ w) (hl : ∀ q, q < cnt → (ρ q).length = cnt + 1) : EqsAt rb cnt (cnt + 1) g ρ w := by
  obtain ⟨cs, h3, h4, h5⟩ := h.tbl
  exact ⟨⟨cs, h3, h5⟩, h.row, hl⟩
theorem RowsAt.all (h : RowsAt rb cnt i g ρ w) {σ : Nat → List Int} (e : ∀ q, q < i → ρ q = σ q) : RowsAt rb cnt i g σ w :=
  ⟨h.tbl, fun q hq => by rw [← e q hq]; exact h.row q hq, h.ge, h.inj⟩
end

set_option maxHeartbeats 8000000 in
set_option maxRecDepth 100000 in
theorem fluxesFd_any (B f : Nat) (N : Int) (A : Option Addr) (n c : Nat) (lo ha od : Value) (L : List (List Int)) (r t : List Int) (LA RA TA : Option Addr) (cnt lc rc tc m : Nat) (w : World)
    (hF : Blk w f 107 (fldA N A n c lo ha od (.slice LA cnt lc) (.slice RA m rc))) (hL : LoopsIn B w LA L m) (hR : IntsIn B w RA r) (hT : IntsIn B w TA t) (hB : B ≤ w.heap.size)
    (hr : r.length = m) (ht : t.length = m) (hm : m ≤ 7) (hcn : L.length = cnt) (hc : cnt ≤ 7) (hl : ∀ i j, -11 ≤ (L.getD i []).getD j 0 ∧ (L.getD i []).getD j 0 ≤ 11) (hrb : ∀ j, 0 ≤ r.getD j 0 ∧ r.getD j 0 ≤ 20) (htb : ∀ j, -50 ≤ t.getD j 0 ∧ t.getD j 0 ≤ 50) (hs : FlxSm L r t) :
    Calls Try.prog 54 #[.pointer (some ⟨f, 0, none⟩), .slice TA m tc] w fun e w' => ∃ o : Nat, e = .returned (.tuple #[.slice (some ⟨o, 0, none⟩) m m, .int .i64 (fluxesV L r t).2]) ∧ Blk w' o 3 (intA (fluxesV L r t).1) ∧ w.heap.size ≤ o ∧ Below w.heap.size w w' := by
  have HL := Lib.hid hL
  have HR := Lib.hid (fun W (hW : Below w.heap.size w W) => hR.below (hW.mono hB))
  have HT := Lib.hid (fun W (hW : Below w.heap.size w W) => hT.below (hW.mono hB))
  have HLW := Lib.hid (fun W (hW : Below w.heap.size w W) => hL.below (hW.mono hB))
  have HRl := Lib.hid hr
  have HTl := Lib.hid ht
  have HCn := Lib.hid hcn
  have HLb := Lib.hid hl
  have HRb := Lib.hid hrb
  have HTb := Lib.hid htb
  have HSm := Lib.hid hs
  have HX := Lib.hid (fun W (hW : Below w.heap.size w W) => (show W.cell? ⟨f, 5, none⟩ = some (.slice LA cnt lc) ∧ W.cell? ⟨f, 6, none⟩ = some (.slice RA m rc) ∧ f < W.heap.size from ⟨(hF.past hW).cellAt 5 rfl, (hF.past hW).cellAt 6 rfl, (hF.past hW).lt⟩))
  have HV := Lib.hid (show fluxesV L r t = (flowsT L (elimV (eqsV L r t)).1 cnt m cnt, (elimV (eqsV L r t)).2) from by rw [fluxes_is, hcn, ht])
  have hmk1 := fun W => vecs_made cnt (by omega) W
  have hmk2 : ∀ W, (Instr.makeSlice 81 (.int .i64 ((cnt : Int) + 1)) (.int .i64 ((cnt : Int) + 1))).run Try.prog W = .ok (.slice (some ⟨W.heap.size, 0, none⟩) (cnt + 1) (cnt + 1)) (W.alloc (.cells (Array.replicate (cnt + 1) (Value.int .i64 0)) 3)) := fun W => by
    have h := vec_made (cnt + 1) (by omega) W
    rw [show (((cnt + 1 : Nat)) : Int) = (cnt : Int) + 1 from by push_cast; rfl] at h
    exact h
  have hmk3 := fun W => vec_made m (by omega) W
  obtain ⟨x0, x1, xl⟩ := HX.out w pr
  have HB1 := Lib.hid (show Below w.heap.size w (w.alloc (.cells (Array.replicate cnt (Value.slice none 0 0)) 81)) from pa pr)
  have HT1 := Lib.hid (show Blk (w.alloc (.cells (Array.replicate cnt (Value.slice none 0 0)) 81)) w.heap.size 81 (Array.replicate cnt (Value.slice none 0 0)) from Blk.newAt rfl)
  have HEl := Lib.hid (fun W g (hE : EqsAt w.heap.size cnt (cnt + 1) g (fun i => (eqsV L r t).getD i []) W) (hne : ∀ i, i < cnt → g i ≠ w.heap.size) (hinj : ∀ i j, i < cnt → j < cnt → g i = g j → i = j) (hb : ∀ i, i < cnt → w.heap.size ≤ g i) => eliminate_any w.heap.size w.heap.size cnt g (eqsV L r t) W (by rw [eqsV_len, hcn]) hE hs.elim hne hinj hb (by omega))
  clear hF hL hR hT hr ht hcn hl hrb htb hs
  go_enter Try.func54, Try.ntmps54
  go_wp2
  obtain ⟨y0, y1, yl⟩ := HX.out _ HB1.out
  clear x0 x1 xl
  generalize hw1 : w.alloc (.cells (Array.replicate cnt (Value.slice none 0 0)) 81) = w1 at *
  clear hw1
  go_loopw [32] (fun iv wr => ∃ (i : Nat) (g : Nat → Nat), iv = .int .i64 (i : Int) ∧ i ≤ cnt ∧ RowsAt w.heap.size cnt i g (eqV L r t) wr ∧ Below w.heap.size w wr) (fun iv _ => cnt - (intOf iv).toNat)
  case atStart => exact ⟨0, fun _ => 0, rfl, Nat.zero_le _, RowsAt.start HT1.out, HB1.out⟩
  case round =>
    clear HB1 HT1 y0 y1 yl
    obtain ⟨i, g, rfl, hi, hro, hq⟩ := hrel
    have HRo := Lib.hid hro
    have HQ := Lib.hid hq
    obtain ⟨wo, hwo⟩ : ∃ wo : World, wo = wr := ⟨_, rfl⟩
    subst hwo
    by_cases hlt : i < cnt
    · have hiL : i < L.length := by rw [HCn.out]; exact hlt
      have hLne : ¬ L = [] := fun e => by rw [e] at hiL; exact absurd hiL (Nat.not_lt_zero _)
      obtain ⟨lb, lo2, rfl, hlb, hcl⟩ := (HL.out.at_).resolve_left hLne
      have HCl := Lib.hid (fun (q : Nat) (hq2 : q < cnt) => (show ∃ A2 c2, ∀ W, Below w.heap.size w W → W.cell? ⟨lb, lo2 + q, none⟩ = some (.slice A2 m c2) ∧ IntsIn B W A2 (L.getD q []) from by
        obtain ⟨A2, c2, h1, h2⟩ := hcl q (by rw [HCn.out]; exact hq2)
        exact ⟨A2, c2, fun W hW => ⟨(World.cell?_of_block (hW.block lb (Nat.lt_of_lt_of_le hlb hB))).trans h1, h2.below (hW.mono hB)⟩⟩))
      have HLl := Lib.hid (fun (q : Nat) (hq2 : q < cnt) => HL.out.len q (by rw [HCn.out]; exact hq2))
      obtain ⟨A2, c2, hA2⟩ := HCl.out i hlt
      have HA2 := Lib.hid hA2
      obtain ⟨e1, _⟩ := hA2 wo HQ.out
      have hlbw : lb < wo.heap.size := Nat.lt_of_lt_of_le hlb (Nat.le_trans hB hq.size)
      obtain ⟨x0, x1, xl⟩ := HX.out wo HQ.out
      have i0 : (0 : Int) ≤ (i : Int) := by omega
      have i1 : (i : Int) < (cnt : Int) := by omega
      have c1i : IntKind.i64.wrap ((cnt : Int) + 1) = (cnt : Int) + 1 := IntWalk.i64_in _ (by omega)
      have c1 : wrap64 ((cnt : Int) + 1) = (cnt : Int) + 1 := w64 (by omega)
      have HB2 := Lib.hid (show Below wo.heap.size wo (wo.alloc (.cells (Array.replicate (cnt + 1) (Value.int .i64 0)) 3)) from pa pr)
      have HG2 := Lib.hid (show Blk (wo.alloc (.cells (Array.replicate (cnt + 1) (Value.int .i64 0)) 3)) wo.heap.size 3 (intA (rowP L r i 0)) from by
        have e : rowP L r i 0 = List.replicate (cnt + 1) 0 := by unfold rowP; rw [HCn.out]; rfl
        rw [e, ← intA_rep]
        exact Blk.newAt rfl)
      clear hcl hro hq hA2
      go_wp2
      clear e1 x0 x1 xl
      generalize hw2 : wo.alloc (.cells (Array.replicate (cnt + 1) (Value.int .i64 0)) 3) = w2 at *
      have HW2 := Lib.hid (show Below w.heap.size w w2 from HQ.out.trans (HB2.out.mono HQ.out.size))
      clear hw2
      obtain ⟨x0, x1, xl⟩ := HX.out w2 HW2.out
      generalize hgi : wo.heap.size = gi at *
      have HGi := Lib.hid hgi
      have HGb := Lib.hid (show w.heap.size ≤ gi from by rw [← hgi]; exact HQ.out.size)
      clear hgi hlbw
      go_wp2
      clear x0 x1 xl
      go_loopw [45] (fun kv wr2 => ∃ k : Nat, kv = .int .i64 (k : Int) ∧ k ≤ cnt ∧ Blk wr2 gi 3 (intA (rowP L r i k)) ∧ Below gi wo wr2) (fun kv _ => cnt - (intOf kv).toNat)
      case atStart => exact ⟨0, rfl, Nat.zero_le _, HG2.out, HB2.out⟩
      case round =>
        clear HG2 HB2 HW2
        obtain ⟨k, rfl, hk, hg, hq2⟩ := hrel
        have HG := Lib.hid hg
        have HQ2 := Lib.hid hq2
        have HW := Lib.hid (show Below w.heap.size w wr from HQ.out.trans (hq2.mono HGb.out))
        clear hg hq2
        by_cases hlk : k < cnt
        · obtain ⟨A3, c3, hA3⟩ := HCl.out k hlk
          have HA3 := Lib.hid hA3
          obtain ⟨e1, _⟩ := hA3 wr HW.out
          have hlbw : lb < wr.heap.size := Nat.lt_of_lt_of_le hlb (Nat.le_trans hB HW.out.size)
          obtain ⟨x0, x1, xl⟩ := HX.out wr HW.out
          have k0 : (0 : Int) ≤ (k : Int) := by omega
          have k1 : (k : Int) < (cnt : Int) := by omega
          clear hA3
          have HG3 := Lib.hid (show Blk wr gi 3 (intA ((rowP L r i k).set k (matTo (L.getD i []) (L.getD k []) r 0))) from by rw [rowP_start L r i k (by rw [HCn.out]; omega)]; exact HG.out)
          have HKl := Lib.hid (show k < (rowP L r i k).length from by rw [rowP_len, HCn.out]; omega)
          have HDn := Lib.hid (show (rowP L r i k).set k (matTo (L.getD i []) (L.getD k []) r m) = rowP L r i (k + 1) from by rw [← HRl.out]; exact rowP_done L r i k)
          have HLi := Lib.hid (HLl.out i hlt)
          have HLk := Lib.hid (HLl.out k hlk)
          have HBi := Lib.hid (HLb.out i)
          have HBk := Lib.hid (HLb.out k)
          have HMb := Lib.hid (mat_bd (HLb.out i) (HLb.out k) HRb.out)
          generalize rowP L r i k = P at *
          generalize L.getD i [] = li at *
          generalize L.getD k [] = lk at *
          go_wp2
          clear e1 x0 x1 xl
          go_loopw [55] (fun jv wr3 => ∃ j : Nat, jv = .int .i64 (j : Int) ∧ j ≤ m ∧ Blk wr3 gi 3 (intA (P.set k (matTo li lk r j))) ∧ Below gi wo wr3) (fun jv _ => m - (intOf jv).toNat)
          case atStart => exact ⟨0, rfl, Nat.zero_le _, HG3.out, HQ2.out⟩
          case round =>
            clear HG3 HQ2 HW HG
            obtain ⟨j, rfl, hj, hg4, hq4⟩ := hrel
            have HG4 := Lib.hid hg4
            have HQ4 := Lib.hid hq4
            have HW4 := Lib.hid (show Below w.heap.size w wr from HQ.out.trans (hq4.mono HGb.out))
            clear hg4 hq4
            by_cases hlj : j < m
            · obtain ⟨d1, o1, rfl, hd1, hu1⟩ := (HA2.out wr HW4.out).2.at_ (show j < li.length by rw [HLi.out]; exact hlj)
              obtain ⟨d2, o2, rfl, hd2, hu2⟩ := (HA3.out wr HW4.out).2.at_ (show j < lk.length by rw [HLk.out]; exact hlj)
              obtain ⟨d3, o3, rfl, hd3, hu3⟩ := (HR.out wr HW4.out).at_ (show j < r.length by rw [HRl.out]; exact hlj)
              have u1 := hu1 j (by rw [HLi.out]; exact hlj)
              have u2 := hu2 j (by rw [HLk.out]; exact hlj)
              have u3 := hu3 j (by rw [HRl.out]; exact hlj)
              have hBr := Nat.le_trans hB HW4.out.size
              have v1 : d1 < wr.heap.size := Nat.lt_of_lt_of_le hd1 hBr
              have v2 : d2 < wr.heap.size := Nat.lt_of_lt_of_le hd2 hBr
              have v3 : d3 < wr.heap.size := Nat.lt_of_lt_of_le hd3 hBr
              have hkl2 : k < (P.set k (matTo li lk r j)).length := by rw [List.length_set]; exact HKl.out
              have HYc := Lib.hid (fun W (hW : Blk W gi 3 (intA (P.set k (matTo li lk r j)))) => (show W.cell? ⟨gi, k, none⟩ = some (.int .i64 (matTo li lk r j)) from by
                have h := intA_cell hW hkl2
                rwa [getD_set, if_pos ⟨rfl, HKl.out⟩] at h))
              have y0 := HYc.out wr HG4.out
              have yf := HG4.out.frozen k
              have yl := HG4.out.lt
              have p1 := HMb.out j
              have p2 := HMb.out (j + 1)
              have p3 := mul3 (HBi.out j) (HBk.out j) (HRb.out j)
              have p4 := mul2 (C := 11) (HBi.out j) (HBk.out j)
              have HNx := Lib.hid (show matTo li lk r (j + 1) = matTo li lk r j + li.getD j 0 * lk.getD j 0 * r.getD j 0 from rfl)
              rw [HNx.out] at p2
              clear hu1 hu2 hu3 hd1 hd2 hd3 hBr hkl2
              have j0 : (0 : Int) ≤ (j : Int) := by omega
              have j1 : (j : Int) < (m : Int) := by omega
              have k2 : (k : Int) < ((cnt + 1 : Nat) : Int) := by omega
              have k3 : (k : Int) < (cnt : Int) + 1 := by omega
              generalize matTo li lk r j = s at *
              generalize li.getD j 0 = a at *
              generalize lk.getD j 0 = b at *
              generalize r.getD j 0 = d at *
              have w1 : wrap64 (a * b) = a * b := w64 (by omega)
              have w1i : IntKind.i64.wrap (a * b) = a * b := IntWalk.i64_in _ (by omega)
              have w2 : wrap64 (a * b * d) = a * b * d := w64 (by omega)
              have w2i : IntKind.i64.wrap (a * b * d) = a * b * d := IntWalk.i64_in _ (by omega)
              have w3 : wrap64 (s + a * b * d) = s + a * b * d := w64 (by omega)
              have w3i : IntKind.i64.wrap (s + a * b * d) = s + a * b * d := IntWalk.i64_in _ (by omega)
              clear p1 p2 p3 p4
              go_wp2
              refine region_below 17 follows_mixed (by kernel_rfl) ?_
              intro C hC
              simp only [List.take_succ_cons, List.take_zero, List.drop_succ_cons, List.drop_zero]
              repeat (first
                | ((with_reducible refine quiet_plain rfl (fun K hK => ?_)); (focus (apply quiet_val; (focus (intro w' hw; obtain ⟨hcq, hfq⟩ := bcell ((hC.out _).1 hw); go_simp; (first | done | rfl))); (simp only [Act.put, List.setIfInBounds_toArray, List.set_cons_succ, List.set_cons_zero]); (with_reducible refine hK _ ?_); clear hK K)))
                | ((with_reducible refine quiet_skip ?_ ?_); (focus (first | (simp [Region.wanted, yielded]; done) | (simp [Region.wanted, yielded, undef]; done))); simp only [Act.put, List.setIfInBounds_toArray, List.set_cons_succ, List.set_cons_zero])
                | ((with_reducible refine quiet_go ?_ (fun K hK => ?_)); (focus (first | (simp [Region.wanted, yielded]; done) | (simp [Region.wanted, yielded, undef]; done))); (focus (apply quiet_val; (focus (intro w' hw; obtain ⟨hcq, hfq⟩ := bcell ((hC.out _).1 hw); go_simp; (first | done | rfl))); (simp only [Act.put, List.setIfInBounds_toArray, List.set_cons_succ, List.set_cons_zero]); (with_reducible refine hK _ ?_); clear hK K))))
              refine wpQuiet_nil ?_
              intro w1 hb1
              replace hb1 := (hC.out _).1 hb1
              clear hC C
              obtain ⟨hc1, hf1⟩ := bcell hb1
              have HG6 := Lib.hid (HG4.out.past hb1)
              have HQ6 := Lib.hid (HQ4.out.trans (hb1.mono (Nat.le_of_lt yl)))
              clear hc1 hf1 hb1 y0 yf yl u1 u2 u3 v1 v2 v3
              have y0 := HYc.out _ HG6.out
              have yf := HG6.out.frozen k
              have yl := HG6.out.lt
              go_wp2
              go_roundw
              case rel => exact ⟨j + 1, by go_num, by omega, by have h := intA_set HG6.out k (s + a * b * d); rw [List.set_set] at h; rw [HNx.out]; exact h, HQ6.out.setCell (p := ⟨gi, k, none⟩) (Nat.le_refl _) _⟩
              case measure => simp [intOf]; omega
            · have z4 : ¬ (j : Int) < (m : Int) := by omega
              have HG5 := Lib.hid (show Blk wr gi 3 (intA (rowP L r i (k + 1))) from by
                have h := HG4.out
                rwa [show j = m by omega, HDn.out] at h)
              go_wp2
              go_roundw
              case rel => exact ⟨k + 1, by go_num, by omega, HG5.out, HQ4.out⟩
              case measure => simp [intOf]; omega
        · have z4 : ¬ (k : Int) < (cnt : Int) := by omega
          have hkc : k = cnt := by omega
          have HDt := Lib.hid (fun W (hW : Below w.heap.size w W) => dotFd_any B (L.getD i []) t A2 TA m c2 m tc W (HA2.out W hW).2 (HT.out W hW) (Nat.le_trans hB hW.size) (HLl.out i hlt) HTl.out (Nat.le_refl _) (by omega) (fun q _ => by have := mul2 (C := 50) (HLb.out i q) (HTb.out q); unfold Wd; omega) (fun q hq => by have := dot_bd (HLb.out i) HTb.out q; unfold Wd; omega))
          have HRw := Lib.hid (show Blk wr gi 3 (intA (rowP L r i cnt)) from by rw [← hkc]; exact HG.out)
          have HRa := Lib.hid (show (rowP L r i cnt).set cnt (dotV (L.getD i []) t) = eqV L r t i from by have h := rowP_all L r t i; rwa [HCn.out] at h)
          have HRe := Lib.hid (show RowsAt w.heap.size cnt i g (eqV L r t) wr from HRo.out.past (by rw [HGi.out]; exact HQ2.out))
          have hrg : w.heap.size < gi := by
            obtain ⟨cs, h1, _⟩ := HRo.out.tbl
            rw [← HGi.out]
            exact h1.lt
          have HGq := Lib.hid (fun q (hq : q < i) => (show g q < gi from by rw [← HGi.out]; exact (HRo.out.row q hq).lt))
          obtain ⟨f1, f2, v, f3⟩ := HRe.out.slot hlt
          have y0 := intA_cell HRw.out (show cnt < (rowP L r i cnt).length by rw [rowP_len, HCn.out]; omega)
          have yf := HRw.out.frozen cnt
          have yl := HRw.out.lt
          have n0 : (0 : Int) ≤ (cnt : Int) := by omega
          have n1 : (cnt : Int) < ((cnt + 1 : Nat) : Int) := by omega
          have n2 : (cnt : Int) < (cnt : Int) + 1 := by omega
          have hS1 := fun u : Int => intA_set HRw.out cnt u
          have HS := Lib.hid (fun W (hW : W = wr.setCell ⟨gi, cnt, none⟩ (.int .i64 (dotV (L.getD i []) t))) => (show Blk W gi 3 (intA (eqV L r t i)) ∧ RowsAt w.heap.size cnt i g (eqV L r t) W ∧ Below gi wo W from by
            subst hW
            have h := intA_set HRw.out cnt (dotV (L.getD i []) t)
            rw [HRa.out] at h
            exact ⟨h, HRe.out.far (p := ⟨gi, cnt, none⟩) (by dsimp only; omega) (fun q hq => by have := HGq.out q hq; dsimp only; omega), HQ2.out.setCell (p := ⟨gi, cnt, none⟩) (Nat.le_refl _) _⟩))
          clear hS1
          generalize dotV (L.getD i []) t = dv at *
          go_wp2_with (go_at_call 56; (with_reducible refine (HDt.out _ HW.out).mono ?_); rintro e w9 ⟨rfl, rfl⟩)
          go_roundw
          case rel =>
            obtain ⟨s1, s2, s3⟩ := HS.out _ rfl
            exact ⟨i + 1, fun q => if q = i then gi else g q, by go_num, by omega, s2.step hlt s1 hrg (fun q hq e => by have := HGq.out q hq; omega), (HQ.out.trans (s3.mono HGb.out)).setCell (p := ⟨w.heap.size, i, none⟩) (Nat.le_refl _) _⟩
          case measure => simp [intOf]; omega
    · have z4 : ¬ (i : Int) < (cnt : Int) := by omega
      have hic : i = cnt := by omega
      have HE1 := Lib.hid (show EqsAt w.heap.size cnt (cnt + 1) g (fun q => (eqsV L r t).getD q []) wo from by
        have h := HRo.out
        rw [hic] at h
        exact (h.eqs fun q hq => by rw [eqV_len, HCn.out]).congr fun q hq => (eqs_row L r t (by rw [HCn.out]; exact hq)).symm)
      have HGe := Lib.hid (fun q (hq : q < cnt) => HRo.out.ge q (by omega))
      have HGi := Lib.hid (fun p q (hp : p < cnt) (hq : q < cnt) (e : g p = g q) => HRo.out.inj p q (by omega) (by omega) e)
      have HEw := Lib.hid (HEl.out wo g HE1.out (fun q hq e => by have := HGe.out q hq; omega) HGi.out (fun q hq => Nat.le_of_lt (HGe.out q hq)))
      have HSo := Lib.hid (show ∀ i, i < cnt → -1000000000000 ≤ ((elimV (eqsV L r t)).1.getD i []).getD cnt 0 ∧ ((elimV (eqsV L r t)).1.getD i []).getD cnt 0 ≤ 1000000000000 from by have h := HSm.out.sol; rwa [HCn.out] at h)
      clear HEl HSm HE1 HRo hro hic hmk1 hmk2
      generalize elimV (eqsV L r t) = EV at *
      obtain ⟨M, den⟩ := EV
      dsimp only at HV HSo HEw
      have HFb := Lib.hid (fun j => flow_bd (L := L) (M := M) (c := cnt) HLb.out HSo.out j)
      go_wp2_with (go_at_call 68; (with_reducible refine HEw.out.mono ?_); rintro e w5 ⟨rfl, he5, hb5⟩; have HE5 := Lib.hid he5; have HQ5 := Lib.hid (HQ.out.trans hb5); obtain ⟨x0, x1, xl⟩ := HX.out _ HQ5.out; clear he5 hb5)
      clear x0 x1 xl HEw HQ hq
      have HB6 := Lib.hid (show Below w5.heap.size w5 (w5.alloc (.cells (Array.replicate m (Value.int .i64 0)) 3)) from pa pr)
      have HG6 := Lib.hid (show Blk (w5.alloc (.cells (Array.replicate m (Value.int .i64 0)) 3)) w5.heap.size 3 (intA (flowsT L M cnt m 0)) from by
        rw [flowsT_zero, ← intA_rep]
        exact Blk.newAt rfl)
      generalize hw6 : w5.alloc (.cells (Array.replicate m (Value.int .i64 0)) 3) = w6 at *
      clear hw6
      generalize hob : w5.heap.size = ob at *
      have HOb := Lib.hid hob
      have HOw := Lib.hid (show w.heap.size ≤ ob from by rw [← hob]; exact HQ5.out.size)
      clear hob
      go_loopw [100] (fun iv wr => ∃ i : Nat, iv = .int .i64 (i : Int) ∧ i ≤ cnt ∧ Blk wr ob 3 (intA (flowsT L M cnt m i)) ∧ Below ob w5 wr) (fun iv _ => cnt - (intOf iv).toNat)
      case atStart => exact ⟨0, rfl, Nat.zero_le _, HG6.out, HB6.out⟩
      case round =>
        clear HG6 HB6
        obtain ⟨i, rfl, hi, hg, hq⟩ := hrel
        have HG := Lib.hid hg
        have HQ := Lib.hid hq
        have HW := Lib.hid (show Below w.heap.size w wr from HQ5.out.trans (hq.mono HOw.out))
        have HEr := Lib.hid (show EqsAt w.heap.size cnt (cnt + 1) g (fun i => M.getD i []) wr from HE5.out.past (by rw [HOb.out]; exact hq))
        clear hg hq
        by_cases hlt : i < cnt
        · have hiL : i < L.length := by rw [HCn.out]; exact hlt
          have hLne : ¬ L = [] := fun e => by rw [e] at hiL; exact absurd hiL (Nat.not_lt_zero _)
          obtain ⟨lb, lo2, rfl, hlb, hcl⟩ := (HL.out.at_).resolve_left hLne
          obtain ⟨A2, c2, h1, h2⟩ := hcl i hiL
          have HA2 := Lib.hid (fun W (hW : Below w.heap.size w W) => (show W.cell? ⟨lb, lo2 + i, none⟩ = some (.slice A2 m c2) ∧ IntsIn B W A2 (L.getD i []) from ⟨(World.cell?_of_block (hW.block lb (Nat.lt_of_lt_of_le hlb hB))).trans h1, h2.below (hW.mono hB)⟩))
          have HLi := Lib.hid (HL.out.len i hiL)
          have HBi := Lib.hid (HLb.out i)
          have hlbw : lb < wr.heap.size := Nat.lt_of_lt_of_le hlb (Nat.le_trans hB HW.out.size)
          obtain ⟨e1, _⟩ := HA2.out wr HW.out
          have i0 : (0 : Int) ≤ (i : Int) := by omega
          have i1 : (i : Int) < (cnt : Int) := by omega
          have HG1 := Lib.hid (show Blk wr ob 3 (intA (partL (fun j => flowTo L M cnt j (i + 1)) (flowsT L M cnt m i) 0)) from HG.out)
          clear h1 h2 hcl
          go_wp2
          clear e1
          go_loopw [107] (fun jv wr2 => ∃ j : Nat, jv = .int .i64 (j : Int) ∧ j ≤ m ∧ Blk wr2 ob 3 (intA (partL (fun j => flowTo L M cnt j (i + 1)) (flowsT L M cnt m i) j)) ∧ Below ob w5 wr2) (fun jv _ => m - (intOf jv).toNat)
          case atStart => exact ⟨0, rfl, Nat.zero_le _, HG1.out, HQ.out⟩
          case round =>
            clear HG1 HG HQ HW HEr
            obtain ⟨j, rfl, hj, hg4, hq4⟩ := hrel
            have HG4 := Lib.hid hg4
            have HQ4 := Lib.hid hq4
            have HW4 := Lib.hid (show Below w.heap.size w wr from HQ5.out.trans (hq4.mono HOw.out))
            have HEr := Lib.hid (show EqsAt w.heap.size cnt (cnt + 1) g (fun i => M.getD i []) wr from HE5.out.past (by rw [HOb.out]; exact hq4))
            clear hg4 hq4
            by_cases hlj : j < m
            · obtain ⟨d1, o1, rfl, hd1, hu1⟩ := (HA2.out wr HW4.out).2.at_ (show j < (L.getD i []).length by rw [HLi.out]; exact hlj)
              have u1 := hu1 j (by rw [HLi.out]; exact hlj)
              have v1 : d1 < wr.heap.size := Nat.lt_of_lt_of_le hd1 (Nat.le_trans hB HW4.out.size)
              have u2 := HEr.out.slot hlt
              have v2 := HEr.out.lt
              have u3 := intA_cell (HEr.out.row i hlt) (show cnt < (M.getD i []).length by rw [HEr.out.len i hlt]; omega)
              have v3 := (HEr.out.row i hlt).lt
              have hjl : j < (partL (fun j => flowTo L M cnt j (i + 1)) (flowsT L M cnt m i) j).length := by rw [partL_len, flowsT_len]; exact hlj
              have HYc := Lib.hid (fun W (hW : Blk W ob 3 (intA (partL (fun j => flowTo L M cnt j (i + 1)) (flowsT L M cnt m i) j))) => (show W.cell? ⟨ob, j, none⟩ = some (.int .i64 (flowTo L M cnt j i)) from by
                have h := intA_cell hW hjl
                rwa [flowsT_part L M cnt i hlj] at h))
              have y0 := HYc.out wr HG4.out
              have yl := HG4.out.lt
              have p1 := HFb.out j i (Nat.le_of_lt hlt)
              have p2 := HFb.out j (i + 1) hlt
              have p3 := mul2 (C := 1000000000000) (HBi.out j) (HSo.out i hlt)
              have HNx := Lib.hid (show flowTo L M cnt j (i + 1) = flowTo L M cnt j i + (L.getD i []).getD j 0 * (M.getD i []).getD cnt 0 from rfl)
              have HSt := Lib.hid (fun W (hW : Blk W ob 3 (intA (partL (fun j => flowTo L M cnt j (i + 1)) (flowsT L M cnt m i) j))) => (show Blk (W.setCell ⟨ob, j, none⟩ (.int .i64 (flowTo L M cnt j (i + 1)))) ob 3 (intA (partL (fun j => flowTo L M cnt j (i + 1)) (flowsT L M cnt m i) (j + 1))) from intA_set hW j _))
              rw [HNx.out] at p2 HSt
              clear hu1 hd1 hjl
              have j0 : (0 : Int) ≤ (j : Int) := by omega
              have j1 : (j : Int) < (m : Int) := by omega
              have n0 : (0 : Int) ≤ (cnt : Int) := by omega
              have n1 : (cnt : Int) < ((cnt + 1 : Nat) : Int) := by omega
              have n2 : (cnt : Int) < (cnt : Int) + 1 := by omega
              generalize flowTo L M cnt j i = s at *
              generalize (L.getD i []).getD j 0 = a at *
              generalize (M.getD i []).getD cnt 0 = b at *
              have w1 : wrap64 (a * b) = a * b := w64 (by omega)
              have w1i : IntKind.i64.wrap (a * b) = a * b := IntWalk.i64_in _ (by omega)
              have w3 : wrap64 (s + a * b) = s + a * b := w64 (by omega)
              have w3i : IntKind.i64.wrap (s + a * b) = s + a * b := IntWalk.i64_in _ (by omega)
              clear p1 p2 p3
              go_wp2
              refine region_below 18 follows_mixed (by kernel_rfl) ?_
              intro C hC
              simp only [List.take_succ_cons, List.take_zero, List.drop_succ_cons, List.drop_zero]
              repeat (first
                | ((with_reducible refine quiet_plain rfl (fun K hK => ?_)); (focus (apply quiet_val; (focus (intro w' hw; obtain ⟨hcq, hfq⟩ := bcell ((hC.out _).1 hw); go_simp; (first | done | rfl))); (simp only [Act.put, List.setIfInBounds_toArray, List.set_cons_succ, List.set_cons_zero]); (with_reducible refine hK _ ?_); clear hK K)))
                | ((with_reducible refine quiet_skip ?_ ?_); (focus (first | (simp [Region.wanted, yielded]; done) | (simp [Region.wanted, yielded, undef]; done))); simp only [Act.put, List.setIfInBounds_toArray, List.set_cons_succ, List.set_cons_zero])
                | ((with_reducible refine quiet_go ?_ (fun K hK => ?_)); (focus (first | (simp [Region.wanted, yielded]; done) | (simp [Region.wanted, yielded, undef]; done))); (focus (apply quiet_val; (focus (intro w' hw; obtain ⟨hcq, hfq⟩ := bcell ((hC.out _).1 hw); go_simp; (first | done | rfl))); (simp only [Act.put, List.setIfInBounds_toArray, List.set_cons_succ, List.set_cons_zero]); (with_reducible refine hK _ ?_); clear hK K))))
              refine wpQuiet_nil ?_
              intro w1 hb1
              replace hb1 := (hC.out _).1 hb1
              clear hC C
              obtain ⟨hc1, hf1⟩ := bcell hb1
              have HG6 := Lib.hid (HG4.out.past hb1)
              have HQ6 := Lib.hid (HQ4.out.trans (hb1.mono (Nat.le_of_lt yl)))
              clear hc1 hf1 hb1 y0 yl u1 u2 u3 v1 v2 v3
              have y0 := HYc.out _ HG6.out
              have yf := HG6.out.frozen j
              have yl := HG6.out.lt
              go_wp2
              go_roundw
              case rel => exact ⟨j + 1, by go_num, by omega, HSt.out _ HG6.out, HQ6.out.setCell (p := ⟨ob, j, none⟩) (Nat.le_refl _) _⟩
              case measure => simp [intOf]; omega
            · have z5 : ¬ (j : Int) < (m : Int) := by omega
              have HG5 := Lib.hid (show Blk wr ob 3 (intA (flowsT L M cnt m (i + 1))) from by
                have h := HG4.out
                rwa [show j = m by omega, flowsT_all] at h)
              go_wp2
              go_roundw
              case rel => exact ⟨i + 1, by go_num, by omega, HG5.out, HQ4.out⟩
              case measure => simp [intOf]; omega
        · have z5 : ¬ (i : Int) < (cnt : Int) := by omega
          have HG5 := Lib.hid (show Blk wr ob 3 (intA (flowsT L M cnt m cnt)) from by
            have h := HG.out
            rwa [show i = cnt by omega] at h)
          go_wp2
          go_ret2
          exact ⟨ob, (by rw [HV.out]; rfl), (by rw [HV.out]; exact HG5.out), HOw.out, HW.out⟩
end Go.Proofs.Ytapegimghfflhaa
end
