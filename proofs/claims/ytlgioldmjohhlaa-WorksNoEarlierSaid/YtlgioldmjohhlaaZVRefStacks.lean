/- Contract: the specification's recursive list of all stacks: a row of rows of numbers, over the same value as the program's. -/
import Derived.Test.YtlgioldmjohhlaaZURefCheck
import Derived.Test.YtlgioldmjohhlaaM8
namespace Go.Proofs.Ytlgioldmjohhlaa
open Go.RowKit

/-- From A on lie the numbers xs, in a block of numbers. -/
def IntRow (w : World) (A : Option Addr) (xs : List Int) : Prop :=
  xs = [] ∨ ∃ b off, A = some ⟨b, off, none⟩ ∧ (∃ (cs : Array Value) (fz : Nat × Nat), w.heap[b]? = some (Obj.cells cs 3 fz)) ∧ ∀ j, j < xs.length → w.cell? ⟨b, off + j, none⟩ = some (.int .i64 (xs.getD j 0))
/-- The values us are slices that read as the rows L. -/
def RowsOf (w : World) (us : List Value) (L : List (List Int)) : Prop :=
  us.length = L.length ∧ ∀ j, j < L.length → ∃ A c, us.getD j undef = .slice A (L.getD j []).length c ∧ (L.getD j []).length ≤ c ∧ IntRow w A (L.getD j [])

section
variable {w w' : World} {A : Option Addr} {xs : List Int} {us us2 : List Value} {L L2 : List (List Int)}
theorem IntRow.same (h : IntRow w A xs) (hk : ∀ (b : Nat) (cs : Array Value) (fz : Nat × Nat), w.heap[b]? = some (Obj.cells cs 3 fz) → w'.heap[b]? = w.heap[b]?) : IntRow w' A xs := by
  rcases h with h | ⟨b, off, hA, ⟨cs, fz, ht⟩, hc⟩
  · exact .inl h
  · exact .inr ⟨b, off, hA, ⟨cs, fz, (hk b cs fz ht).trans ht⟩, fun j hj => (World.cell?_of_block (hk b cs fz ht)).trans (hc j hj)⟩
theorem IntRow.ints (h : IntRow w A xs) : IntsIn w.heap.size w A xs := by
  rcases h with h | ⟨b, off, hA, ⟨cs, fz, ht⟩, hc⟩
  · exact .inl h
  · exact .inr ⟨b, off, hA, (Array.getElem?_eq_some_iff.1 ht).1, hc⟩
theorem kept_below (hb : Below w.heap.size w w') : ∀ (b : Nat) (cs : Array Value) (fz : Nat × Nat), w.heap[b]? = some (Obj.cells cs 3 fz) → w'.heap[b]? = w.heap[b]? :=
  fun b _ _ ht => hb.block b (Array.getElem?_eq_some_iff.1 ht).1
theorem kept_rows {base : Nat} {e : TypeId} {size n : Nat} {v : Value} {cs : List Value} (ho : w.ownsRow base e size v n cs) (hne : e ≠ 3) (hg : w.grownBy w' v.ownBlock) :
    ∀ (b : Nat) (cs : Array Value) (fz : Nat × Nat), w.heap[b]? = some (Obj.cells cs 3 fz) → w'.heap[b]? = w.heap[b]? := fun b cs fz ht => hg.block b (Array.getElem?_eq_some_iff.1 ht).1 fun he => by
  rcases ho.2 with ⟨h1, _⟩ | ⟨g, cap, cur, h1, _, hh, _⟩
  · rw [h1] at he; cases he
  · rw [h1] at he
    have : b = g := by simpa [Value.ownBlock] using he
    subst this
    rw [hh] at ht
    injection ht with ht
    injection ht with _ ht
    exact hne ht
theorem RowsOf.same (h : RowsOf w us L) (hk : ∀ (b : Nat) (cs : Array Value) (fz : Nat × Nat), w.heap[b]? = some (Obj.cells cs 3 fz) → w'.heap[b]? = w.heap[b]?) : RowsOf w' us L :=
  ⟨h.1, fun j hj => by
    obtain ⟨A, c, h1, h2, h3⟩ := h.2 j hj
    exact ⟨A, c, h1, h2, h3.same hk⟩⟩
theorem RowsOf.nil : RowsOf w [] [] := ⟨rfl, fun j hj => by simp at hj⟩
theorem RowsOf.one {c : Nat} (h : IntRow w A xs) (hc : xs.length ≤ c) : RowsOf w [.slice A xs.length c] [xs] := ⟨rfl, fun j hj => by
  obtain rfl : j = 0 := by simp at hj; omega
  exact ⟨A, c, rfl, hc, h⟩⟩
theorem RowsOf.append (h : RowsOf w us L) (h2 : RowsOf w us2 L2) : RowsOf w (us ++ us2) (L ++ L2) := by
  refine ⟨by simp [h.1, h2.1], fun j hj => ?_⟩
  rcases Nat.lt_or_ge j L.length with hl | hl
  · obtain ⟨A, c, q1, q2, q3⟩ := h.2 j hl
    have e1 : (us ++ us2).getD j undef = us.getD j undef := by simp [List.getD, List.getElem?_append_left (show j < us.length by rw [h.1]; exact hl)]
    have e2 : (L ++ L2).getD j [] = L.getD j [] := by simp [List.getD, List.getElem?_append_left hl]
    rw [e1, e2]
    exact ⟨A, c, q1, q2, q3⟩
  · obtain ⟨A, c, q1, q2, q3⟩ := h2.2 (j - L.length) (by simp at hj; omega)
    have e1 : (us ++ us2).getD j undef = us2.getD (j - L.length) undef := by simp [List.getD, List.getElem?_append_right (show us.length ≤ j by rw [h.1]; exact hl), h.1]
    have e2 : (L ++ L2).getD j [] = L2.getD (j - L.length) [] := by simp [List.getD, List.getElem?_append_right hl]
    rw [e1, e2]
    exact ⟨A, c, q1, q2, q3⟩
theorem RowsOf.oneCell (h : RowsOf w us L) : ∀ u ∈ us, u.oneCell' = true := fun u hu => by
  obtain ⟨j, hj, rfl⟩ := List.getElem_of_mem hu
  obtain ⟨A, c, q1, _, _⟩ := h.2 j (by rw [← h.1]; exact hj)
  have : us.getD j undef = us[j] := by simp [List.getD, hj]
  rw [← this, q1]
  rfl
theorem intRow_of_own {base n c : Nat} (h : w.ownsRow base 3 1 (.slice A n c) n (xs.map (Value.int .i64))) : IntRow w A xs := by
  have hi := intsIn_of_own h
  rcases h.2 with ⟨h1, h2⟩ | ⟨g, cap, cur, hv, _, hh, _⟩
  · refine .inl ?_
    have := h.1
    rw [h2] at this
    simpa using this
  · injection hv with hA _ _
    rcases hi with h | ⟨b, off, hA2, hb, hc⟩
    · exact .inl h
    · rw [hA] at hA2
      injection hA2 with hA2
      injection hA2 with e1 e2 _
      subst e1 e2
      exact .inr ⟨g, 0, hA, ⟨cur, (0, 0), hh⟩, hc⟩
end

def RowsRet (w : World) (L : List (List Int)) (e : Ending) (w' : World) : Prop :=
  ∃ A c us, e = .returned (.slice A L.length c) ∧ w'.ownsRow w.heap.size 28 1 (.slice A L.length c) L.length us ∧ RowsOf w' us L ∧ Below w.heap.size w w'

theorem slice_info : (Try.prog.info? 28).map (fun i => (i.zero, i.size, i.bytes)) = some (some (.slice none 0 0), 1, 24) := by kernel_rfl

theorem rowsRet_nil (w w' : World) (hb : Below w.heap.size w w') : RowsRet w [] (.returned (.slice none 0 0)) w' :=
  ⟨none, 0, [], rfl, World.ownsRow_nil _ _ _ _, RowsOf.nil, hb⟩


set_option maxRecDepth 100000 in
set_option maxHeartbeats 4000000 in
theorem refStacks_any (count : Nat) (overlap : Int) (hcount : count ≤ 8) :
    ∀ (d : Nat) (xs : List Int) (A : Option Addr) (n c : Nat) (w : World), xs.length = n → n + d = count → n ≤ c → IntRow w A xs → (∀ j, j < xs.length → 0 ≤ xs.getD j 0 ∧ xs.getD j 0 ≤ 8) →
      Calls Try.prog 93 #[.int .i64 (count : Int), .int .i64 overlap, .slice A n c] w (RowsRet w (stacksV count overlap d xs)) := by
  intro d
  induction d with
  | zero =>
    intro xs A n c w hn hd hc hr hb
    obtain rfl : n = count := by omega
    subst hn
    have hck := refCheckStack_any w.heap.size A c xs overlap w hr.ints (Nat.le_refl _) (by omega) hc
    by_cases h0 : (checkStackV xs overlap).2 = 0
    · have HS := Lib.hid (show stacksV xs.length overlap 0 xs = [xs] by simp [stacksV, h0])
      have HR := Lib.hid hr
      rw [h0] at hck
      clear hr hb h0
      go_enter Try.func93, Try.ntmps93
      go_wp2_with (go_at_call 27; refine hck.mono ?_; rintro e w1 ⟨rfl, hb⟩)
      go_ret
      rw [HS.out]
      refine ⟨_, _, [.slice A xs.length c], rfl, World.ownsRow_lit w1 #[.slice A xs.length c] 1 hb.size (by decide) rfl, RowsOf.one ?_ hc, pa hb⟩
      exact HR.out.same (kept_below (pa hb))
    · have h00 : ((checkStackV xs overlap).2 == 0) = false := by simpa using h0
      have h01 : ((checkStackV xs overlap).2 != 0) = true := by simpa using h0
      have HS := Lib.hid (show stacksV xs.length overlap 0 xs = [] by simp [stacksV, h0])
      clear hr hb h0
      generalize (checkStackV xs overlap).2 = E at *
      go_enter Try.func93, Try.ntmps93
      go_wp2_with (go_at_call 27; refine hck.mono ?_; rintro e w1 ⟨rfl, hb⟩)
      go_ret
      rw [HS.out]
      exact rowsRet_nil _ _ hb
  | succ d ih =>
    intro xs A n c w hn hd hc hr hb
    obtain ⟨i0, hi0, hz0, hz1, hz2⟩ := info_parts int_info
    obtain ⟨s0, hs0, hy0, hy1, hy2⟩ := info_parts slice_info
    have hne : ((n : Int) == (count : Int)) = false := by
      have : ¬ (n : Int) = (count : Int) := by omega
      simpa using this
    have HFull := Lib.hid (show stacksV count overlap (d + 1) xs = stacksUpto count overlap d xs count from rfl)
    have HR := Lib.hid hr
    have HB := Lib.hid hb
    have IH := Lib.hid ih
    have HX := Lib.hid hn
    have HD := Lib.hid hd
    have hn8 : n < count := by omega
    clear hr hb ih hn
    go_enter Try.func93, Try.ntmps93
    go_wp2
    go_loopw [9, 10] (fun ov iv wr => ∃ (j : Nat) (A' : Option Addr) (c' : Nat) (us : List Value), iv = .int .i64 (j : Int) ∧ ov = .slice A' (stacksUpto count overlap d xs j).length c' ∧ j ≤ count ∧ wr.ownsRow w.heap.size 28 1 (.slice A' (stacksUpto count overlap d xs j).length c') (stacksUpto count overlap d xs j).length us ∧ RowsOf wr us (stacksUpto count overlap d xs j) ∧ Below w.heap.size w wr) (fun _ iv _ => count - (intOf iv).toNat)
    case atStart => exact ⟨0, none, 0, [], rfl, rfl, Nat.zero_le _, World.ownsRow_nil _ _ _ _, RowsOf.nil, pr⟩
    case round =>
      obtain ⟨j, A', c', us, rfl, rfl, hjc, hown, hrows, hab⟩ := hrel
      have hri := HR.out.same (kept_below hab)
      have HRI := Lib.hid hri.ints
      by_cases hlt : j < count
      · have HG := Lib.hid (stacksUpto_succ count overlap d xs j)
        have HOwn := Lib.hid hown
        have HRows := Lib.hid hrows
        have hab1 := hab.size
        have HAb := Lib.hid hab
        have hU := Nat.le_trans (stacksUpto_length (fun ys => stacksV_few overlap hcount d (by omega) ys) xs j) (Nat.mul_le_mul_right 16777216 (show j ≤ 8 by omega))
        have hV := stacksV_few overlap hcount d (by omega) (xs ++ [(j : Int)])
        clear hown hrows hab
        have HG0 := Lib.hid (show (hasB xs (j : Int) || nearB xs overlap j) = true → stacksUpto count overlap d xs (j + 1) = stacksUpto count overlap d xs j from fun h => by rw [HG.out, h]; simp)
        have HG1 := Lib.hid (show (hasB xs (j : Int) || nearB xs overlap j) = false → stacksUpto count overlap d xs (j + 1) = stacksUpto count overlap d xs j ++ stacksV count overlap d (xs ++ [(j : Int)]) from fun h => by rw [HG.out, h]; simp)
        have HNear := Lib.hid (show nearB xs overlap j = (decide (0 < n) && decide (sizeV ((j : Int) - xs.getD (n - 1) 0) < overlap)) by unfold nearB; rw [HX.out])
        clear HG
        by_cases h1 : 0 < n
        · rcases hri.ints with hx | ⟨b, off, hA, hb1, hcell⟩
          · exfalso; have := HX.out; rw [hx] at this; simp at this; omega
          · subst hA
            have hc1 := hcell (n - 1) (by rw [HX.out]; omega)
            have hbd := HB.out (n - 1) (by rw [HX.out]; omega)
            have q0 : (0 : Int) ≤ (n : Int) - 1 := by omega
            have q1 : (1 : Int) ≤ (n : Int) := by omega
            have q2 : ((n : Int) - 1).toNat = n - 1 := by omega
            have q3 : (n : Int) ≤ 8 := by omega
            have q4 : (0 : Int) < (n : Int) := by omega
            clear hcell hri
            generalize xs.getD (n - 1) 0 = y at *
            cases hh : hasB xs (j : Int)
            · by_cases h2 : sizeV ((j : Int) - y) < overlap
              · have HG2 := Lib.hid (HG0.out (by rw [hh, HNear.out]; simp [h1, h2]))
                have hlt2 : decide (sizeV ((j : Int) - y) < overlap) = true := decide_eq_true h2
                go_wp2_with (first | (go_at_call 33; refine (baseHas_n n _ _ c xs _ _ HRI.out HX.out (by omega)).mono ?_; rintro e w' ⟨rfl, rfl⟩) | (go_at_call 92; refine (baseSize_any _ _ (by omega) (by omega)).mono ?_; rintro e w' ⟨rfl, rfl⟩))
                go_roundw
                case rel => exact ⟨j + 1, A', c', us, by go_num, by rw [HG2.out], by omega, by rw [HG2.out]; exact HOwn.out, by rw [HG2.out]; exact HRows.out, HAb.out⟩
                case measure => simp [intOf]; omega
              · have HG2 := Lib.hid (HG1.out (by rw [hh, HNear.out]; simp [h2]))
                have hlt2 : decide (sizeV ((j : Int) - y) < overlap) = false := decide_eq_false h2
                go_wp2_with (first | (go_at_call 33; refine (baseHas_n n _ _ c xs _ _ HRI.out HX.out (by omega)).mono ?_; rintro e w' ⟨rfl, rfl⟩) | (go_at_call 92; refine (baseSize_any _ _ (by omega) (by omega)).mono ?_; rintro e w' ⟨rfl, rfl⟩) | (go_at_call 24; refine (copyInts_any _ _ n c xs _ HRI.out HX.out (Nat.le_refl _) (by omega)).mono ?_; rintro e w1 ⟨v1, rfl, hown1, hb1⟩; rw [HX.out] at hown1; obtain ⟨A1, c1, rfl, hc1, hm1⟩ := own_form hown1; have HO1 := Lib.hid (hown1.alloc (.cells #[.int .i64 (j : Int)] 3)); have HC1 := Lib.hid (cellsIn_new w1 3 (.int .i64 (j : Int))); have HB1 := Lib.hid hb1; have hs1 := hb1.size; clear hown1 hb1) | (at_builtin; refine wpList_append_cells _ rfl (.tmp 59) (.tmp 61) _ rfl wr.heap.size 3 i0 _ 1 8 Try.underlying28 hi0 hz0 hz1 hz2 rfl (by omega) _ n _ rfl HO1.out (w1.heap.size + 1) (some ⟨w1.heap.size, 0, none⟩) 1 1 _ rfl HC1.out rfl (by simp [Value.oneCell']) (by simp only [maxLen]; omega) (by omega) (by simp; omega) ?_; intro v2 w2 hown2 hg2 hat2; have hb2 := pg (pa HB1.out) HO1.out (Nat.le_refl _) hg2; obtain ⟨A2, c2, rfl, hc2, hm2⟩ := own_form hown2; have HR2 := Lib.hid (intRow_of_own (xs := xs ++ [(j : Int)]) (by simpa using hown2)); have HB2 := Lib.hid hb2; have hs2 := hb2.size; clear hown2 hg2 hat2 hb2 hm2) | (go_at_call 93; go_must (refine (IH.out (xs ++ [(j : Int)]) A2 (n + 1) c2 w2 (by simp [HX.out]) (by omega) hc2 HR2.out (getD_snoc (by omega) (by omega) HB.out)).mono ?_); rintro e w3 ⟨A3, c3, us3, rfl, hown3, hrow3, hb3⟩; have HC3 := Lib.hid (cellsIn_of_own hown3); have HO3 := Lib.hid (ownsRow_past (pt HB2.out hb3) HOwn.out); have HB3 := Lib.hid (pt HB2.out hb3); have H13 := Lib.hid hrow3.oneCell; have HL3 := Lib.hid (show us3.length = (stacksV count overlap d (xs ++ [(j : Int)])).length * 1 by rw [hrow3.1]; omega); have HR3 := Lib.hid hrow3; have hs3 := hb3.size; clear hown3 hrow3 hb3) | (at_builtin; go_must (refine wpList_append_cells _ rfl (.tmp 55) (.tmp 63) _ rfl w.heap.size 28 s0 _ 1 24 Try.underlying124 hs0 hy0 hy1 hy2 rfl (by omega) _ (stacksUpto count overlap d xs j).length _ rfl HO3.out w3.heap.size A3 _ c3 _ rfl HC3.out HL3.out H13.out (by simp only [maxLen]; omega) (by omega) (by omega) ?_); intro v4 w4 hown4 hg4 hat4; obtain ⟨A4, c4, rfl, hc4, hm4⟩ := own_form hown4))
                have HB4 := Lib.hid (pg (HAb.out.trans (HB3.out.mono hab1)) HO3.out (Nat.le_refl _) hg4)
                have HOwn4 := Lib.hid hown4
                have HRow4 := Lib.hid (((HRows.out.same (kept_below HB3.out)).append HR3.out).same (kept_rows HO3.out (by decide) hg4))
                clear hown4 hg4 hat4
                go_roundw
                case rel => exact ⟨j + 1, A4, c4, us ++ us3, by go_num, by rw [HG2.out, List.length_append], by omega, by rw [HG2.out, List.length_append]; exact HOwn4.out, by rw [HG2.out]; exact HRow4.out, HB4.out⟩
                case measure => simp [intOf]; omega
            · have HG2 := Lib.hid (HG0.out (by rw [hh]; simp))
              go_wp2_with (first | (go_at_call 33; refine (baseHas_n n _ _ c xs _ _ HRI.out HX.out (by omega)).mono ?_; rintro e w' ⟨rfl, rfl⟩) | (go_at_call 92; refine (baseSize_any _ _ (by omega) (by omega)).mono ?_; rintro e w' ⟨rfl, rfl⟩))
              all_goals
                go_roundw
                case rel => exact ⟨j + 1, A', c', us, by go_num, by rw [HG2.out], by omega, by rw [HG2.out]; exact HOwn.out, by rw [HG2.out]; exact HRows.out, HAb.out⟩
                case measure => simp [intOf]; omega
        · have h1' : decide ((0 : Int) < (n : Int)) = false := by simp; omega
          have h1'' : decide (0 < n) = false := by simpa using h1
          have h1z : ¬ (0 : Int) < (n : Int) := by omega
          clear hri
          cases hh : hasB xs (j : Int)
          · have HG2 := Lib.hid (HG1.out (by rw [hh, HNear.out, h1'']; simp))
            go_wp2_with (first | (go_at_call 33; refine (baseHas_n n _ _ c xs _ _ HRI.out HX.out (by omega)).mono ?_; rintro e w' ⟨rfl, rfl⟩) | (go_at_call 24; refine (copyInts_any _ _ n c xs _ HRI.out HX.out (Nat.le_refl _) (by omega)).mono ?_; rintro e w1 ⟨v1, rfl, hown1, hb1⟩; rw [HX.out] at hown1; obtain ⟨A1, c1, rfl, hc1, hm1⟩ := own_form hown1; have HO1 := Lib.hid (hown1.alloc (.cells #[.int .i64 (j : Int)] 3)); have HC1 := Lib.hid (cellsIn_new w1 3 (.int .i64 (j : Int))); have HB1 := Lib.hid hb1; have hs1 := hb1.size; clear hown1 hb1) | (at_builtin; refine wpList_append_cells _ rfl (.tmp 59) (.tmp 61) _ rfl wr.heap.size 3 i0 _ 1 8 Try.underlying28 hi0 hz0 hz1 hz2 rfl (by omega) _ n _ rfl HO1.out (w1.heap.size + 1) (some ⟨w1.heap.size, 0, none⟩) 1 1 _ rfl HC1.out rfl (by simp [Value.oneCell']) (by simp only [maxLen]; omega) (by omega) (by simp; omega) ?_; intro v2 w2 hown2 hg2 hat2; have hb2 := pg (pa HB1.out) HO1.out (Nat.le_refl _) hg2; obtain ⟨A2, c2, rfl, hc2, hm2⟩ := own_form hown2; have HR2 := Lib.hid (intRow_of_own (xs := xs ++ [(j : Int)]) (by simpa using hown2)); have HB2 := Lib.hid hb2; have hs2 := hb2.size; clear hown2 hg2 hat2 hb2 hm2) | (go_at_call 93; go_must (refine (IH.out (xs ++ [(j : Int)]) A2 (n + 1) c2 w2 (by simp [HX.out]) (by omega) hc2 HR2.out (getD_snoc (by omega) (by omega) HB.out)).mono ?_); rintro e w3 ⟨A3, c3, us3, rfl, hown3, hrow3, hb3⟩; have HC3 := Lib.hid (cellsIn_of_own hown3); have HO3 := Lib.hid (ownsRow_past (pt HB2.out hb3) HOwn.out); have HB3 := Lib.hid (pt HB2.out hb3); have H13 := Lib.hid hrow3.oneCell; have HL3 := Lib.hid (show us3.length = (stacksV count overlap d (xs ++ [(j : Int)])).length * 1 by rw [hrow3.1]; omega); have HR3 := Lib.hid hrow3; have hs3 := hb3.size; clear hown3 hrow3 hb3) | (at_builtin; go_must (refine wpList_append_cells _ rfl (.tmp 55) (.tmp 63) _ rfl w.heap.size 28 s0 _ 1 24 Try.underlying124 hs0 hy0 hy1 hy2 rfl (by omega) _ (stacksUpto count overlap d xs j).length _ rfl HO3.out w3.heap.size A3 _ c3 _ rfl HC3.out HL3.out H13.out (by simp only [maxLen]; omega) (by omega) (by omega) ?_); intro v4 w4 hown4 hg4 hat4; obtain ⟨A4, c4, rfl, hc4, hm4⟩ := own_form hown4))
            have HB4 := Lib.hid (pg (HAb.out.trans (HB3.out.mono hab1)) HO3.out (Nat.le_refl _) hg4)
            have HOwn4 := Lib.hid hown4
            have HRow4 := Lib.hid (((HRows.out.same (kept_below HB3.out)).append HR3.out).same (kept_rows HO3.out (by decide) hg4))
            clear hown4 hg4 hat4
            go_roundw
            case rel => exact ⟨j + 1, A4, c4, us ++ us3, by go_num, by rw [HG2.out, List.length_append], by omega, by rw [HG2.out, List.length_append]; exact HOwn4.out, by rw [HG2.out]; exact HRow4.out, HB4.out⟩
            case measure => simp [intOf]; omega
          · have HG2 := Lib.hid (HG0.out (by rw [hh]; simp))
            go_wp2_with (first | (go_at_call 33; refine (baseHas_n n _ _ c xs _ _ HRI.out HX.out (by omega)).mono ?_; rintro e w' ⟨rfl, rfl⟩))
            go_roundw
            case rel => exact ⟨j + 1, A', c', us, by go_num, by rw [HG2.out], by omega, by rw [HG2.out]; exact HOwn.out, by rw [HG2.out]; exact HRows.out, HAb.out⟩
            case measure => simp [intOf]; omega
      · obtain rfl : j = count := by omega
        have HOwn := Lib.hid hown
        have HRows := Lib.hid hrows
        clear hown hrows hri
        go_wp2
        go_ret
        rw [HFull.out]
        exact ⟨A', c', us, rfl, HOwn.out, HRows.out, hab⟩

end Go.Proofs.Ytlgioldmjohhlaa
