/- Rows of rows of numbers. Printed by a program (gen_d4subs.py).
A law: one of the two operations that may come up in a drawn region comes up.
Contracts: base.Root, HeightOf, AreaOf (the specification of chapter 2). Printed by a program (gen_d4root.py).
Contract: the specification's recursive list of all sets of so many numbers (chapter 2). Printed by a program (gen_d4subs.py).
Contract: BestSteps (the specification of chapter 2). Printed by a program (gen_d4best.py). -/
import Derived.Test.YtncbigkkmgnkmaaGreatDoorOc2
import Derived.Test.YtncbigkkmgnkmaaGreatDoorOe3
import Derived.Test.YtncbigkkmgnkmaaGreatDoorOb5
import Derived.Test.YtncbigkkmgnkmaaGreatDoorOq2
import Derived.Test.YtncbigkkmgnkmaaGreatDoorOq3
import Derived.Test.YtncbigkkmgnkmaaGreatDoorOd9

section
namespace Go.Proofs.YtncbigkkmgnkmaaGreatDoor
open Go.RowKit

/-- From A on lie the numbers xs, in a block of numbers. -/
def IntRow (w : World) (A : Option Addr) (xs : List Int) : Prop :=
  xs = [] ∨ ∃ b off, A = some ⟨b, off, none⟩ ∧ (∃ (cs : Array Value) (fz : Nat × Nat), w.heap[b]? = some (Obj.cells cs 3 fz)) ∧ ∀ j, j < xs.length → w.cell? ⟨b, off + j, none⟩ = some (.int .i64 (xs.getD j 0))
/-- The values us are slices that read as the rows L. -/
def RowsOf (w : World) (us : List Value) (L : List (List Int)) : Prop :=
  us.length = L.length ∧ ∀ j, j < L.length → ∃ A c, us.getD j undef = .slice A (L.getD j []).length c ∧ (L.getD j []).length ≤ c ∧ IntRow w A (L.getD j [])

section
variable {w w' : World} {A : Option Addr} {xs : List Int} {us us2 : List Value} {L L2 : List (List Int)}
theorem IntRow.same (h : IntRow w A xs) (hk : ∀ (b : Nat) (cs : Array Value) (fz : Nat × Nat), w.heap[b]? = some (Obj.cells cs 3 fz) → w'.heap[b]? = w.heap[b]?) : IntRow w' A xs := by
  rcases h with h | ⟨b, off, hA, ⟨cs, fz, ht⟩, hc⟩
  · exact .inl h
  · exact .inr ⟨b, off, hA, ⟨cs, fz, (hk b cs fz ht).trans ht⟩, fun j hj => (World.cell?_of_block (hk b cs fz ht)).trans (hc j hj)⟩
theorem IntRow.ints (h : IntRow w A xs) : IntsIn w.heap.size w A xs := by
  rcases h with h | ⟨b, off, hA, ⟨cs, fz, ht⟩, hc⟩
  · exact .inl h
  · exact .inr ⟨b, off, hA, (Array.getElem?_eq_some_iff.1 ht).1, hc⟩
theorem kept_below (hb : Below w.heap.size w w') : ∀ (b : Nat) (cs : Array Value) (fz : Nat × Nat), w.heap[b]? = some (Obj.cells cs 3 fz) → w'.heap[b]? = w.heap[b]? :=
  fun b _ _ ht => hb.block b (Array.getElem?_eq_some_iff.1 ht).1
theorem kept_rows {base : Nat} {e : TypeId} {size n : Nat} {v : Value} {cs : List Value} (ho : w.ownsRow base e size v n cs) (hne : e ≠ 3) (hg : w.grownBy w' v.ownBlock) :
    ∀ (b : Nat) (cs : Array Value) (fz : Nat × Nat), w.heap[b]? = some (Obj.cells cs 3 fz) → w'.heap[b]? = w.heap[b]? := fun b cs fz ht => hg.block b (Array.getElem?_eq_some_iff.1 ht).1 fun he => by
  rcases ho.2 with ⟨h1, _⟩ | ⟨g, cap, cur, h1, _, hh, _⟩
  · rw [h1] at he; cases he
  · rw [h1] at he
    have : b = g := by simpa [Value.ownBlock] using he
    subst this
    rw [hh] at ht
    injection ht with ht
    injection ht with _ ht
    exact hne ht
theorem RowsOf.same (h : RowsOf w us L) (hk : ∀ (b : Nat) (cs : Array Value) (fz : Nat × Nat), w.heap[b]? = some (Obj.cells cs 3 fz) → w'.heap[b]? = w.heap[b]?) : RowsOf w' us L :=
  ⟨h.1, fun j hj => by
    obtain ⟨A, c, h1, h2, h3⟩ := h.2 j hj
    exact ⟨A, c, h1, h2, h3.same hk⟩⟩
theorem RowsOf.nil : RowsOf w [] [] := ⟨rfl, fun j hj => by simp at hj⟩
theorem RowsOf.one {c : Nat} (h : IntRow w A xs) (hc : xs.length ≤ c) : RowsOf w [.slice A xs.length c] [xs] := ⟨rfl, fun j hj => by
  obtain rfl : j = 0 := by simp at hj; omega
  exact ⟨A, c, rfl, hc, h⟩⟩
theorem RowsOf.append (h : RowsOf w us L) (h2 : RowsOf w us2 L2) : RowsOf w (us ++ us2) (L ++ L2) := by
  refine ⟨by simp [h.1, h2.1], fun j hj => ?_⟩
  rcases Nat.lt_or_ge j L.length with hl | hl
  · obtain ⟨A, c, q1, q2, q3⟩ := h.2 j hl
    have e1 : (us ++ us2).getD j undef = us.getD j undef := by simp [List.getD, List.getElem?_append_left (show j < us.length by rw [h.1]; exact hl)]
    have e2 : (L ++ L2).getD j [] = L.getD j [] := by simp [List.getD, List.getElem?_append_left hl]
    rw [e1, e2]
    exact ⟨A, c, q1, q2, q3⟩
  · obtain ⟨A, c, q1, q2, q3⟩ := h2.2 (j - L.length) (by simp at hj; omega)
    have e1 : (us ++ us2).getD j undef = us2.getD (j - L.length) undef := by simp [List.getD, List.getElem?_append_right (show us.length ≤ j by rw [h.1]; exact hl), h.1]
    have e2 : (L ++ L2).getD j [] = L2.getD (j - L.length) [] := by simp [List.getD, List.getElem?_append_right hl]
    rw [e1, e2]
    exact ⟨A, c, q1, q2, q3⟩
theorem RowsOf.oneCell (h : RowsOf w us L) : ∀ u ∈ us, u.oneCell' = true := fun u hu => by
  obtain ⟨j, hj, rfl⟩ := List.getElem_of_mem hu
  obtain ⟨A, c, q1, _, _⟩ := h.2 j (by rw [← h.1]; exact hj)
  have : us.getD j undef = us[j] := by simp [List.getD, hj]
  rw [← this, q1]
  rfl
theorem intRow_of_own {base n c : Nat} (h : w.ownsRow base 3 1 (.slice A n c) n (xs.map (Value.int .i64))) : IntRow w A xs := by
  have hi := intsIn_of_own h
  rcases h.2 with ⟨h1, h2⟩ | ⟨g, cap, cur, hv, _, hh, _⟩
  · refine .inl ?_
    have := h.1
    rw [h2] at this
    simpa using this
  · injection hv with hA _ _
    rcases hi with h | ⟨b, off, hA2, hb, hc⟩
    · exact .inl h
    · rw [hA] at hA2
      injection hA2 with hA2
      injection hA2 with e1 e2 _
      subst e1 e2
      exact .inr ⟨g, 0, hA, ⟨cur, (0, 0), hh⟩, hc⟩
end

def RowsRet (w : World) (L : List (List Int)) (e : Ending) (w' : World) : Prop :=
  ∃ A c us, e = .returned (.slice A L.length c) ∧ w'.ownsRow w.heap.size 32 1 (.slice A L.length c) L.length us ∧ RowsOf w' us L ∧ Below w.heap.size w w'

theorem slice_info : (Tryz.prog.info? 32).map (fun i => (i.zero, i.size, i.bytes)) = some (some (.slice none 0 0), 1, 24) := by kernel_rfl

end Go.Proofs.YtncbigkkmgnkmaaGreatDoor
end

section
namespace Go.Proofs.YtncbigkkmgnkmaaGreatDoor
open Go.RowKit

/-- One of the two that may come up comes up. -/
theorem wpAnyG_twoE {P : Program} {ops : Array Oper} {md : Region.Mode} {Q : Exit → Act → World → Prop} {S : World → Prop} {n : Nat} {i k : Nat} {oi ok : Oper} {fuel : Nat} {listed : Array Bool} {a : Act} {w : World} (hr : Region.ready md ops listed = [i, k]) (hi : ops[i]? = some oi) (hk : ops[k]? = some ok) (gi : oi.guard = none) (gk : ok.guard = none)
    (h1 : ∀ K' : Act → World → Prop, Hid (∀ a w, (i < n → S w) → wpAnyG P md ops Q S n fuel (listed.setIfInBounds i true) a w → K' a w) → oi.wp P a w K' Q)
    (h2 : ∀ K' : Act → World → Prop, Hid (∀ a w, (k < n → S w) → wpAnyG P md ops Q S n fuel (listed.setIfInBounds k true) a w → K' a w) → ok.wp P a w K' Q) : wpAnyG P md ops Q S n (fuel + 1) listed a w := by
  refine ⟨fun h0 => (by rw [hr] at h0; cases h0), fun j hj => ?_⟩
  rw [hr] at hj
  have hj' : j = i ∨ j = k := by simpa using hj
  rcases hj' with rfl | rfl
  · refine wpOp_step hi fun K' hK => ?_
    rw [if_pos (by simp [Region.wanted, gi])]
    exact h1 K' (Lib.hid fun a w h1 h2 => hK a w ⟨h1, h2⟩)
  · refine wpOp_step hk fun K' hK => ?_
    rw [if_pos (by simp [Region.wanted, gk])]
    exact h2 K' (Lib.hid fun a w h1 h2 => hK a w ⟨h1, h2⟩)

theorem inv_oneE {md : Region.Mode} {ops : Array Oper} {n i : Nat} {listed : Array Bool} (inv : HeadInv md ops n listed) (hr : Region.ready md ops listed = [i]) (hi : i < n) : HeadInv md ops n (listed.setIfInBounds i true) := inv.set (by rw [hr]; exact List.mem_singleton_self i) hi
/-- Only what ends as it should: nothing panics. -/
def calmQ (Q : Exit → Act → World → Prop) : Exit → Act → World → Prop
  | .normal, a, w => Q .normal a w
  | _, _, _ => False
theorem wp_calm {P : Program} {c : Code} {Q : Exit → Act → World → Prop} {a : Act} {w : World} (h : c.wp P (calmQ Q) a w) : c.wp P Q a w :=
  Code.wp_mono (fun e a w h => by cases e <;> first | exact h | exact h.elim) h
theorem wpAnyG_doneC {P : Program} {ops : Array Oper} {md : Region.Mode} {Q : Exit → Act → World → Prop} {S : World → Prop} {n : Nat} {fuel : Nat} {listed : Array Bool} {a : Act} {w : World} (hr : Region.ready md ops listed = []) (h : Q .normal a w) : wpAnyG P md ops (calmQ Q) S n fuel listed a w := wpAnyG_done hr h
theorem own_base {w : World} {base base' : Nat} {e : TypeId} {size n : Nat} {v : Value} {xs : List Value} (h : w.ownsRow base e size v n xs) (hb : base' ≤ base) : w.ownsRow base' e size v n xs :=
  ⟨h.1, h.2.imp_right fun ⟨g, cap, cur, h1, h2, h3⟩ => ⟨g, cap, cur, h1, Nat.le_trans hb h2, h3⟩⟩

end Go.Proofs.YtncbigkkmgnkmaaGreatDoor
end

section
namespace Go.Proofs.YtncbigkkmgnkmaaGreatDoor
open Go.RowKit

end Go.Proofs.YtncbigkkmgnkmaaGreatDoor
end

section
namespace Go.Proofs.YtncbigkkmgnkmaaGreatDoor
open Go.RowKit


set_option maxRecDepth 100000 in
set_option maxHeartbeats 4000000 in
theorem refSubsets_any (count size : Nat) (hcount : count ≤ 8) (hsize : size ≤ 8) :
    ∀ (d : Nat) (xs : List Int) (A : Option Addr) (n c : Nat) (w : World), xs.length = n → n + d = size → n ≤ c → IntRow w A xs → (∀ j, j < xs.length → 0 ≤ xs.getD j 0 ∧ xs.getD j 0 < (count : Int)) →
      Calls Tryz.prog 55 #[.int .i64 (count : Int), .int .i64 (size : Int), .slice A n c] w (RowsRet w (subsV count d xs)) := by
  intro d
  induction d with
  | zero =>
    intro xs A n c w hn hd hc hr hb
    obtain rfl : n = size := by omega
    subst hn
    have HS := Lib.hid (show subsV count 0 xs = [xs] from rfl)
    have HR := Lib.hid hr
    clear hr hb
    go_enter Tryz.func55, Tryz.ntmps55
    go_wp2
    go_ret
    rw [HS.out]
    refine ⟨_, _, [.slice A xs.length c], rfl, World.ownsRow_lit w #[.slice A xs.length c] 1 (Nat.le_refl _) (by decide) rfl, RowsOf.one ?_ hc, pa pr⟩
    exact HR.out.same (kept_below (pa pr))
  | succ d ih =>
    intro xs A n c w hn hd hc hr hb
    obtain ⟨i0, hi0, hz0, hz1, hz2⟩ := info_parts int_info
    obtain ⟨s0, hs0, hy0, hy1, hy2⟩ := info_parts slice_info
    have hne : ((n : Int) == (size : Int)) = false := by
      have : ¬ (n : Int) = (size : Int) := by omega
      simpa using this
    have HFull := Lib.hid (show subsV count (d + 1) xs = subsUpto count d xs (count - nextV xs) from rfl)
    have hfr : nextV xs ≤ count ∧ (n = 0 → nextV xs = 0) ∧ (0 < n → ((nextV xs : Nat) : Int) = xs.getD (n - 1) 0 + 1) := by
      unfold nextV
      rw [hn]
      by_cases h0 : n = 0
      · rw [if_pos h0]; exact ⟨Nat.zero_le _, fun _ => rfl, fun h => by omega⟩
      · rw [if_neg h0]
        have := hb (n - 1) (by omega)
        exact ⟨by omega, fun h => absurd h h0, fun _ => by omega⟩
    generalize hFr : nextV xs = fr at *
    have HFr := Lib.hid hFr
    have HR := Lib.hid hr
    have HB := Lib.hid hb
    have IH := Lib.hid ih
    have HX := Lib.hid hn
    have HD := Lib.hid hd
    have hn8 : n < size := by omega
    clear hb ih hn hFr
    obtain ⟨hfr1, hfr2, hfr3⟩ := hfr
    by_cases h1 : 0 < n
    · have hfr4 := hfr3 h1
      rcases hr.ints with hx | ⟨b, off, hA, hb1, hcell⟩
      · exfalso; have := HX.out; rw [hx] at this; simp at this; omega
      · subst hA
        have hc1 := hcell (n - 1) (by rw [HX.out]; omega)
        have hbd := HB.out (n - 1) (by rw [HX.out]; omega)
        have q0 : (0 : Int) ≤ (n : Int) - 1 := by omega
        have q1 : (1 : Int) ≤ (n : Int) := by omega
        have q2 : ((n : Int) - 1).toNat = n - 1 := by omega
        have q3 : (n : Int) ≤ 8 := by omega
        have q4 : (0 : Int) < (n : Int) := by omega
        clear hcell hr hfr2 hfr3
        generalize xs.getD (n - 1) 0 = z at *
        have HFr4 := Lib.hid hfr4
        have hwz : IntKind.i64.wrap (z + 1) = (fr : Int) := (IntWalk.i64_in _ (by omega)).trans hfr4.symm
        clear hfr4
        go_enter Tryz.func55, Tryz.ntmps55
        go_wp2
        go_loopw [8, 9] (fun ov iv wr => ∃ (y j : Nat) (A' : Option Addr) (c' : Nat) (us : List Value), iv = .int .i64 (y : Int) ∧ y = fr + j ∧ ov = .slice A' (subsUpto count d xs j).length c' ∧ j ≤ count - fr ∧ wr.ownsRow w.heap.size 32 1 (.slice A' (subsUpto count d xs j).length c') (subsUpto count d xs j).length us ∧ RowsOf wr us (subsUpto count d xs j) ∧ Below w.heap.size w wr) (fun _ iv _ => count - (intOf iv).toNat)
        case atStart => exact ⟨fr, 0, none, 0, [], by rw [HFr4.out], rfl, rfl, Nat.zero_le _, World.ownsRow_nil _ _ _ _, RowsOf.nil, pr⟩
        case round =>
          obtain ⟨y, j, A', c', us, rfl, hyj, rfl, hjc, hown, hrows, hab⟩ := hrel
          have hri := HR.out.same (kept_below hab)
          have HRI := Lib.hid hri.ints
          by_cases hlt : y < count
          · have HG := Lib.hid (show subsUpto count d xs (j + 1) = subsUpto count d xs j ++ subsV count d (xs ++ [(y : Int)]) by rw [subsUpto_succ, HFr.out, ← hyj])
            have HOwn := Lib.hid hown
            have HRows := Lib.hid hrows
            have hab1 := hab.size
            have HAb := Lib.hid hab
            have hU := Nat.le_trans (subsUpto_length (fun ys => subsV_few hcount d (by omega) ys) xs j) (Nat.mul_le_mul_right 16777216 (show j ≤ 8 by omega))
            have hV := subsV_few hcount d (by omega) (xs ++ [(y : Int)])
            have hdn : n + 1 + d = size := by have := HD.out; omega
            have HYJ := Lib.hid hyj
            clear hown hrows hab hri hyj
            go_wp2_with (first | (go_at_call 19; go_must (refine (copyInts_any _ _ n c xs _ HRI.out HX.out (Nat.le_refl _) (by omega)).mono ?_); rintro e w1 ⟨v1, rfl, hown1, hb1⟩; rw [HX.out] at hown1; obtain ⟨A1, c1, rfl, hc1, hm1⟩ := own_form hown1; have HO1 := Lib.hid (hown1.alloc (.cells #[.int .i64 (y : Int)] 3)); have HC1 := Lib.hid (cellsIn_one w1 3 (.int .i64 (y : Int))); have HB1 := Lib.hid hb1; have hs1 := hb1.size; clear hown1 hb1) | (at_builtin; refine wpList_append_cells _ rfl (.tmp 36) (.tmp 38) _ rfl wr.heap.size 3 i0 _ 1 8 Tryz.underlying32 hi0 hz0 hz1 hz2 rfl (by omega) _ n _ rfl HO1.out (w1.heap.size + 1) (some ⟨w1.heap.size, 0, none⟩) 1 1 _ rfl HC1.out rfl (by simp [Value.oneCell']) (by simp only [maxLen]; omega) (by omega) (by simp; omega) ?_; intro v2 w2 hown2 hg2 hat2; have hb2 := pg (pa HB1.out) HO1.out (Nat.le_refl _) hg2; obtain ⟨A2, c2, rfl, hc2, hm2⟩ := own_form hown2; have HR2 := Lib.hid (intRow_of_own (xs := xs ++ [(y : Int)]) (by simpa using hown2)); have HB2 := Lib.hid hb2; have hs2 := hb2.size; clear hown2 hg2 hat2 hb2 hm2) | (go_at_call 55; go_must (refine (IH.out (xs ++ [(y : Int)]) A2 (n + 1) c2 w2 (by simp [HX.out]) (by omega) hc2 HR2.out (getD_snoc7 ⟨by omega, by omega⟩ HB.out)).mono ?_); rintro e w3 ⟨A3, c3, us3, rfl, hown3, hrow3, hb3⟩; have HC3 := Lib.hid (cellsIn_of_own hown3); have HO3 := Lib.hid (own_past (pt HB2.out hb3) HOwn.out); have HB3 := Lib.hid (pt HB2.out hb3); have H13 := Lib.hid hrow3.oneCell; have HL3 := Lib.hid (show us3.length = (subsV count d (xs ++ [(y : Int)])).length * 1 by rw [hrow3.1]; omega); have HR3 := Lib.hid hrow3; have hs3 := hb3.size; clear hown3 hrow3 hb3) | (at_builtin; go_must (refine wpList_append_cells _ rfl (.tmp 32) (.tmp 40) _ rfl w.heap.size 32 s0 _ 1 24 Tryz.underlying101 hs0 hy0 hy1 hy2 rfl (by omega) _ (subsUpto count d xs j).length _ rfl HO3.out w3.heap.size A3 _ c3 _ rfl HC3.out HL3.out H13.out (by simp only [maxLen]; omega) (by omega) (by omega) ?_); intro v4 w4 hown4 hg4 hat4; obtain ⟨A4, c4, rfl, hc4, hm4⟩ := own_form hown4))
            have HB4 := Lib.hid (pg (HAb.out.trans (HB3.out.mono hab1)) HO3.out (Nat.le_refl _) hg4)
            have HOwn4 := Lib.hid hown4
            have HRow4 := Lib.hid (((HRows.out.same (kept_below HB3.out)).append HR3.out).same (kept_rows HO3.out (by decide) hg4))
            clear hown4 hg4 hat4
            go_roundw
            case rel => exact ⟨y + 1, j + 1, A4, c4, us ++ us3, by go_num, by have := HYJ.out; omega, by rw [HG.out, List.length_append], by have := HYJ.out; omega, by rw [HG.out, List.length_append]; exact HOwn4.out, by rw [HG.out]; exact HRow4.out, HB4.out⟩
            case measure => simp [intOf]; omega
          · have hje : j = count - fr := by omega
            have HOwn := Lib.hid hown
            have HRows := Lib.hid hrows
            have HJ := Lib.hid hje
            clear hown hrows hri hje
            go_wp2
            go_ret
            rw [HFull.out, ← HJ.out]
            exact ⟨A', c', us, rfl, HOwn.out, HRows.out, hab⟩
    · have hfr4 := hfr2 (by omega)
      have HFr4 := Lib.hid hfr4
      have h1' : decide (0 < n) = false := decide_eq_false h1
      have h1z : ¬ (0 : Int) < (n : Int) := by omega
      clear hr hfr2 hfr3 hfr4
      go_enter Tryz.func55, Tryz.ntmps55
      go_wp2
      go_loopw [8, 9] (fun ov iv wr => ∃ (y j : Nat) (A' : Option Addr) (c' : Nat) (us : List Value), iv = .int .i64 (y : Int) ∧ y = fr + j ∧ ov = .slice A' (subsUpto count d xs j).length c' ∧ j ≤ count - fr ∧ wr.ownsRow w.heap.size 32 1 (.slice A' (subsUpto count d xs j).length c') (subsUpto count d xs j).length us ∧ RowsOf wr us (subsUpto count d xs j) ∧ Below w.heap.size w wr) (fun _ iv _ => count - (intOf iv).toNat)
      case atStart => exact ⟨fr, 0, none, 0, [], by rw [HFr4.out]; rfl, rfl, rfl, Nat.zero_le _, World.ownsRow_nil _ _ _ _, RowsOf.nil, pr⟩
      case round =>
        obtain ⟨y, j, A', c', us, rfl, hyj, rfl, hjc, hown, hrows, hab⟩ := hrel
        have hri := HR.out.same (kept_below hab)
        have HRI := Lib.hid hri.ints
        by_cases hlt : y < count
        · have HG := Lib.hid (show subsUpto count d xs (j + 1) = subsUpto count d xs j ++ subsV count d (xs ++ [(y : Int)]) by rw [subsUpto_succ, HFr.out, ← hyj])
          have HOwn := Lib.hid hown
          have HRows := Lib.hid hrows
          have hab1 := hab.size
          have HAb := Lib.hid hab
          have hU := Nat.le_trans (subsUpto_length (fun ys => subsV_few hcount d (by omega) ys) xs j) (Nat.mul_le_mul_right 16777216 (show j ≤ 8 by omega))
          have hV := subsV_few hcount d (by omega) (xs ++ [(y : Int)])
          have hdn : n + 1 + d = size := by have := HD.out; omega
          have HYJ := Lib.hid hyj
          clear hown hrows hab hri hyj
          go_wp2_with (first | (go_at_call 19; go_must (refine (copyInts_any _ _ n c xs _ HRI.out HX.out (Nat.le_refl _) (by omega)).mono ?_); rintro e w1 ⟨v1, rfl, hown1, hb1⟩; rw [HX.out] at hown1; obtain ⟨A1, c1, rfl, hc1, hm1⟩ := own_form hown1; have HO1 := Lib.hid (hown1.alloc (.cells #[.int .i64 (y : Int)] 3)); have HC1 := Lib.hid (cellsIn_one w1 3 (.int .i64 (y : Int))); have HB1 := Lib.hid hb1; have hs1 := hb1.size; clear hown1 hb1) | (at_builtin; refine wpList_append_cells _ rfl (.tmp 36) (.tmp 38) _ rfl wr.heap.size 3 i0 _ 1 8 Tryz.underlying32 hi0 hz0 hz1 hz2 rfl (by omega) _ n _ rfl HO1.out (w1.heap.size + 1) (some ⟨w1.heap.size, 0, none⟩) 1 1 _ rfl HC1.out rfl (by simp [Value.oneCell']) (by simp only [maxLen]; omega) (by omega) (by simp; omega) ?_; intro v2 w2 hown2 hg2 hat2; have hb2 := pg (pa HB1.out) HO1.out (Nat.le_refl _) hg2; obtain ⟨A2, c2, rfl, hc2, hm2⟩ := own_form hown2; have HR2 := Lib.hid (intRow_of_own (xs := xs ++ [(y : Int)]) (by simpa using hown2)); have HB2 := Lib.hid hb2; have hs2 := hb2.size; clear hown2 hg2 hat2 hb2 hm2) | (go_at_call 55; go_must (refine (IH.out (xs ++ [(y : Int)]) A2 (n + 1) c2 w2 (by simp [HX.out]) (by omega) hc2 HR2.out (getD_snoc7 ⟨by omega, by omega⟩ HB.out)).mono ?_); rintro e w3 ⟨A3, c3, us3, rfl, hown3, hrow3, hb3⟩; have HC3 := Lib.hid (cellsIn_of_own hown3); have HO3 := Lib.hid (own_past (pt HB2.out hb3) HOwn.out); have HB3 := Lib.hid (pt HB2.out hb3); have H13 := Lib.hid hrow3.oneCell; have HL3 := Lib.hid (show us3.length = (subsV count d (xs ++ [(y : Int)])).length * 1 by rw [hrow3.1]; omega); have HR3 := Lib.hid hrow3; have hs3 := hb3.size; clear hown3 hrow3 hb3) | (at_builtin; go_must (refine wpList_append_cells _ rfl (.tmp 32) (.tmp 40) _ rfl w.heap.size 32 s0 _ 1 24 Tryz.underlying101 hs0 hy0 hy1 hy2 rfl (by omega) _ (subsUpto count d xs j).length _ rfl HO3.out w3.heap.size A3 _ c3 _ rfl HC3.out HL3.out H13.out (by simp only [maxLen]; omega) (by omega) (by omega) ?_); intro v4 w4 hown4 hg4 hat4; obtain ⟨A4, c4, rfl, hc4, hm4⟩ := own_form hown4))
          have HB4 := Lib.hid (pg (HAb.out.trans (HB3.out.mono hab1)) HO3.out (Nat.le_refl _) hg4)
          have HOwn4 := Lib.hid hown4
          have HRow4 := Lib.hid (((HRows.out.same (kept_below HB3.out)).append HR3.out).same (kept_rows HO3.out (by decide) hg4))
          clear hown4 hg4 hat4
          go_roundw
          case rel => exact ⟨y + 1, j + 1, A4, c4, us ++ us3, by go_num, by have := HYJ.out; omega, by rw [HG.out, List.length_append], by have := HYJ.out; omega, by rw [HG.out, List.length_append]; exact HOwn4.out, by rw [HG.out]; exact HRow4.out, HB4.out⟩
          case measure => simp [intOf]; omega
        · have hje : j = count - fr := by omega
          have HOwn := Lib.hid hown
          have HRows := Lib.hid hrows
          have HJ := Lib.hid hje
          clear hown hrows hri hje
          go_wp2
          go_ret
          rw [HFull.out, ← HJ.out]
          exact ⟨A', c', us, rfl, HOwn.out, HRows.out, hab⟩

end Go.Proofs.YtncbigkkmgnkmaaGreatDoor
end

section
namespace Go.Proofs.YtncbigkkmgnkmaaGreatDoor
open Go.RowKit

/-- The best of all sets of at most k widths. -/
def bu (d : Int) (ws : List Int) (k : Nat) : List Int × Int := bestF (areaD d) (candU ws k) ([], 0)
def BestRet (w : World) (T : List Int × Int) (e : Ending) (w' : World) : Prop :=
  ∃ A2 c2, e = .returned (.tuple #[.slice A2 T.1.length c2, .int .i64 T.2]) ∧ IntsIn w'.heap.size w' A2 T.1 ∧ Below w.heap.size w w'

end Go.Proofs.YtncbigkkmgnkmaaGreatDoor
end
