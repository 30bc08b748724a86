/- Plain facts for the law on shares; a copy of currents as a row of the callee's own; one number of it replaced. -/
import Derived.Test.YtpdkbhjcpddnpaaDoorLQChk
import Derived.Test.YtpdkbhjcpddnpaaDoorLRRef
namespace Go.Proofs.YtpdkbhjcpddnpaaDoor
open Go.RowKit
attribute [local go_sem ↓] Go.wp_at_zero Go.wp_at_succ

set_option maxRecDepth 100000 in
set_option maxHeartbeats 1000000 in
theorem copyCurrents_own (B : Nat) (A : Option Addr) (c : Nat) (xs : List Cu) (w : World) (hr : CellsIn B w A (cuCells xs)) (hB : B ≤ w.heap.size) (hm : xs.length ≤ 1000000) :
    Calls Tryd.prog 10 #[.slice A xs.length c] w fun e w' => ∃ (A1 : Option Addr) (c1 : Nat), e = .returned (.slice A1 xs.length c1) ∧ w'.ownsRow w.heap.size 44 4 (.slice A1 xs.length c1) xs.length (cuCells xs) ∧ Below w.heap.size w w' := by
  obtain ⟨i0, hi0, hz0, hz1, hz2⟩ := info_parts current_info
  go_enter Tryd.func10, Tryd.ntmps10
  have HO := Lib.hid (show (w.alloc (.cells #[] 44)).ownsRow w.heap.size 44 4 (.slice (some ⟨w.heap.size, 0, none⟩) 0 0) 0 [] from World.ownsRow_lit w #[] 0 (Nat.le_refl _) (Nat.zero_le _) rfl)
  have HC := Lib.hid (show CellsIn B (w.alloc (.cells #[] 44)) A (cuCells xs) from hr.below ((pa (Below.refl _ w)).mono hB))
  have H1 := Lib.hid (show ∀ u ∈ cuCells xs, u.oneCell' = true from flat4_one cu_one xs)
  have HL := Lib.hid (show (cuCells xs).length = xs.length * 4 from flat4_len cu_len xs)
  have HM := Lib.hid (app_len4 hm)
  clear hr hm
  generalize cuCells xs = us at *
  generalize xs.length = n at *
  go_wp2_with (at_builtin; go_must (refine wpList_append_cells _ rfl (.tmp 3) (.tmp 4) _ rfl w.heap.size 44 i0 _ 4 32 Tryd.underlying31 hi0 hz0 hz1 hz2 rfl (by decide) (.slice (some ⟨w.heap.size, 0, none⟩) 0 0) 0 [] rfl HO.out B A n c us rfl HC.out HL.out H1.out HM.out.1 HM.out.2 (by simp) ?_); intro v1 w1 hown1 hg1 hat1)
  go_ret
  rw [Nat.zero_add, List.nil_append] at hown1
  obtain ⟨A1, c1, rfl, hc1, _⟩ := own_form hown1
  exact ⟨A1, c1, rfl, hown1, pg (pa pr) HO.out (Nat.le_refl _) hg1⟩

theorem own_cells4 {w : World} {base n c : Nat} {A : Option Addr} {cs : List Cu} (h : w.ownsRow base 44 4 (.slice A n c) n (cuCells cs)) (hn : 0 < n) :
    ∃ g cur, A = some ⟨g, 0, none⟩ ∧ base ≤ g ∧ Blk w g 44 cur ∧ cs.length = n ∧ n * 4 ≤ cur.size ∧ ∀ j k, j < n → k < 4 → cur[j * 4 + k]? = (cuC (cs.getD j default))[k]? := by
  have hl := h.1
  have hl2 : (cuCells cs).length = cs.length * 4 := flat4_len cu_len cs
  rcases h.2 with ⟨_, h2⟩ | ⟨g, cap, cur, hv, hb, hh, _, _, _, ht⟩
  · omega
  · injection hv with hA _ _
    have hcl : cs.length = n := by omega
    have hat : ∀ q, q < n * 4 → cur[q]? = (cuCells cs)[q]? := fun q hq => by
      have h1 : (cur.toList.take (n * 4))[q]? = (cuCells cs)[q]? := by rw [ht]
      rw [List.getElem?_take_of_lt hq] at h1
      simpa using h1
    refine ⟨g, cur, hA, hb, hh, hcl, ?_, fun j k hj hk => ?_⟩
    · have h1 := congrArg List.length ht
      rw [List.length_take, hl2, hcl] at h1
      simp at h1
      omega
    · rw [hat _ (by omega)]
      exact flat4_at cu_len (by omega) hk
/-- The P part of one current is replaced. -/
theorem cus_set {w : World} {g n i : Nat} {cur : Array Value} {cs : List Cu} (h : Blk w g 44 cur) (hl : cs.length = n) (hz : n * 4 ≤ cur.size) (hc : ∀ j k, j < n → k < 4 → cur[j * 4 + k]? = (cuC (cs.getD j default))[k]?) (hi : i < n) (x y : Int) :
    CusIn (g + 1) ((w.setCell ⟨g, i * 4, none⟩ (.int .i64 x)).setCell ⟨g, i * 4 + 1, none⟩ (.int .i64 y)) (some ⟨g, 0, none⟩) (cs.set i ⟨x, y, (cs.getD i default).qn, (cs.getD i default).qd⟩) := by
  refine .inr ⟨g, 0, rfl, Nat.lt_succ_self _, fun j hj => ?_⟩
  rw [List.length_set, hl] at hj
  have hb := (h.set_ (i * 4) (.int .i64 x)).set_ (i * 4 + 1) (.int .i64 y)
  rw [Nat.zero_add, hb.cell, hb.cell, hb.cell, hb.cell]
  by_cases hji : j = i
  · subst hji
    have e : (cs.set j ⟨x, y, (cs.getD j default).qn, (cs.getD j default).qd⟩).getD j default = ⟨x, y, (cs.getD j default).qn, (cs.getD j default).qd⟩ := by
      rw [List.getD_eq_getElem?_getD, List.getElem?_set_self (by omega)]; rfl
    rw [e, set2_self (by omega) (by omega), set2_last (by omega), set2_far (by omega) (by omega), set2_far (by omega) (by omega)]
    exact ⟨rfl, rfl, hc j 2 hj (by decide), hc j 3 hj (by decide)⟩
  · have e : (cs.set i ⟨x, y, (cs.getD i default).qn, (cs.getD i default).qd⟩).getD j default = cs.getD j default := by
      rw [List.getD_eq_getElem?_getD, List.getElem?_set_ne (fun h => hji h.symm), List.getD_eq_getElem?_getD]
    rw [e, set2_far (by omega) (by omega), set2_far (by omega) (by omega), set2_far (by omega) (by omega), set2_far (by omega) (by omega)]
    exact ⟨hc j 0 hj (by decide), hc j 1 hj (by decide), hc j 2 hj (by decide), hc j 3 hj (by decide)⟩

theorem curCs_len (ls : List Src) (p q : Int) : (curCs ls p q).length = ls.length := List.length_map ..
theorem src_parts {s t : Src} (h : s ≠ t) : s.p ≠ t.p ∨ s.q ≠ t.q ∨ s.n ≠ t.n ∨ s.d ≠ t.d := by
  by_cases h1 : s.p = t.p
  · by_cases h2 : s.q = t.q
    · by_cases h3 : s.n = t.n
      · by_cases h4 : s.d = t.d
        · exfalso
          obtain ⟨a, b, c, d⟩ := s
          obtain ⟨a', b', c', d'⟩ := t
          dsimp only at h1 h2 h3 h4
          subst h1 h2 h3 h4
          exact h rfl
        · exact .inr (.inr (.inr h4))
      · exact .inr (.inr (.inl h3))
    · exact .inr (.inl h2)
  · exact .inl h1
/-- Currents that are accepted with one number replaced had this number. -/
theorem other_iff {ls : List Src} {p q : Int} (h0 : loadE ls p q = 0) (hs : allSmall ls p q) {i : Nat} (hi : i < ls.length) (x : Int) :
    (checkV ls p q ((curCs ls p q).set i ⟨x, 1, (curC ls p q (ls.getD i default)).qn, (curC ls p q (ls.getD i default)).qd⟩)).2 = 0 ↔ (curC ls p q (ls.getD i default)).pn = x ∧ (curC ls p q (ls.getD i default)).pd = 1 := by
  have hok := (loadE_ok h0).1
  have hl : ((curCs ls p q).set i ⟨x, 1, (curC ls p q (ls.getD i default)).qn, (curC ls p q (ls.getD i default)).qd⟩).length = ls.length := by rw [List.length_set]; exact curCs_len ls p q
  rw [check_ok h0 hl]
  constructor
  · intro h
    have h1 := check_only hok hl h i hi
    rw [List.getD_eq_getElem?_getD, List.getElem?_set_self (by rw [curCs_len]; exact hi)] at h1
    rw [← h1]
    exact ⟨rfl, rfl⟩
  · rintro ⟨h1, h2⟩
    have e : (curCs ls p q).set i ⟨x, 1, (curC ls p q (ls.getD i default)).qn, (curC ls p q (ls.getD i default)).qd⟩ = curCs ls p q := by
      have e1 : (⟨x, 1, (curC ls p q (ls.getD i default)).qn, (curC ls p q (ls.getD i default)).qd⟩ : Cu) = (curCs ls p q).getD i default := by
        rw [curCs_at hi, ← h1, ← h2]
      rw [e1, List.getD_eq_getElem?_getD, List.getElem?_eq_getElem (by rw [curCs_len]; exact hi)]
      exact List.set_getElem_self ..
    rw [e, check_self hok hs]
/-- Without a load, and with equal voltages, nothing flows. -/
theorem curC_none {ls : List Src} (h : SrcsOk ls) (hv : ∀ s ∈ ls, s.p = (ls.getD 0 default).p ∧ s.q = (ls.getD 0 default).q) {s : Src} (hs : s ∈ ls) : curC ls 0 0 s = ⟨0, 1, 0, 1⟩ := by
  unfold curC
  rw [cur_none h (f := Src.p) (v := (ls.getD 0 default).p) (fun t ht => (hv t ht).1) hs, cur_none h (f := Src.q) (v := (ls.getD 0 default).q) (fun t ht => (hv t ht).2) hs]
  rfl
/-- With n times the voltages and the load. -/
theorem lo_times {n : Int} (x : Rat) : loN (n * x.num) (x.den : Int) = ((n : Rat) * x).num ∧ loD (n * x.num) (x.den : Int) = (((n : Rat) * x).den : Int) := by
  have h := lo_rat (n * x.num) (show 0 < (x.den : Int) by have := x.den_nz; omega)
  have e : Rat.divInt (n * x.num) (x.den : Int) = (n : Rat) * x := by
    have e1 := Rat.num_divInt_den x
    rw [Rat.divInt_eq_div] at e1 ⊢
    rw [Rat.intCast_mul, Rat.div_def, Rat.mul_assoc, ← Rat.div_def, e1]
  rw [e] at h
  exact h
theorem times_at {ls : List Src} {n : Int} {i : Nat} (h : i < ls.length) : (ls.map (times n)).getD i default = times n (ls.getD i default) := by
  rw [List.getD_eq_getElem?_getD, List.getElem?_map, List.getD_eq_getElem?_getD, List.getElem?_eq_getElem h]
  rfl
theorem curC_times {ls : List Src} (h : SrcsOk ls) {p q n : Int} (s : Src) :
    curC (ls.map (times n)) (n * p) (n * q) (times n s) = ⟨loN (n * (curC ls p q s).pn) (curC ls p q s).pd, loD (n * (curC ls p q s).pn) (curC ls p q s).pd, loN (n * (curC ls p q s).qn) (curC ls p q s).qd, loD (n * (curC ls p q s).qn) (curC ls p q s).qd⟩ := by
  unfold curC
  rw [cur_times h (f := Src.p) (g := Src.p) (fun _ => rfl) p s, cur_times h (f := Src.q) (g := Src.q) (fun _ => rfl) q s]
  dsimp only
  rw [(lo_times _).1, (lo_times _).2, (lo_times _).1, (lo_times _).2]
theorem times_take {ls : List Src} {n : Int} {i : Nat} (h : i < ls.length) : srcCells ((ls.take (i + 1)).map (times n)) = srcCells ((ls.take i).map (times n)) ++ srcU (times n (ls.getD i default)) := by
  rw [src_take h, List.map_append]
  unfold srcCells
  rw [List.flatMap_append]
  simp
/-- The voltages of all sources up to i are those of the first one. -/
def sameB (ls : List Src) : Nat → Bool
  | 0 => true
  | i + 1 => sameB ls i && (decide ((ls.getD i default).p = (ls.getD 0 default).p) && decide ((ls.getD i default).q = (ls.getD 0 default).q))
theorem sameB_all {ls : List Src} : ∀ {i : Nat}, i ≤ ls.length → sameB ls i = true → ∀ j, j < i → (ls.getD j default).p = (ls.getD 0 default).p ∧ (ls.getD j default).q = (ls.getD 0 default).q
  | 0, _, _, j, hj => absurd hj (Nat.not_lt_zero _)
  | i + 1, hi, h, j, hj => by
    rw [sameB, Bool.and_eq_true, Bool.and_eq_true, decide_eq_true_eq, decide_eq_true_eq] at h
    rcases Nat.lt_succ_iff_lt_or_eq.1 hj with hj | rfl
    · exact sameB_all (by omega) h.1 j hj
    · exact h.2
theorem same_none {ls : List Src} (h : SrcsOk ls) (hs : sameB ls ls.length = true) {i : Nat} (hi : i < ls.length) : curC ls 0 0 (ls.getD i default) = ⟨0, 1, 0, 1⟩ :=
  curC_none h (fun s hs' => by
    obtain ⟨j, hj, rfl⟩ := List.getElem_of_mem hs'
    have := sameB_all (Nat.le_refl _) hs j hj
    rw [List.getD_eq_getElem?_getD, List.getElem?_eq_getElem hj] at this
    exact this) (cur_mem hi)
theorem small_facts {ls : List Src} {p q : Int} (hs : allSmall ls p q) {i : Nat} (hi : i < ls.length) :
    (fsmallB (curC ls p q (ls.getD i default)).pn (curC ls p q (ls.getD i default)).pd = true ∧ fsmallB (curC ls p q (ls.getD i default)).qn (curC ls p q (ls.getD i default)).qd = true) ∧ CuOk (curC ls p q (ls.getD i default)) := by
  have h := curC_ok hs (cur_mem hi)
  obtain ⟨⟨_, a1, a2, a3⟩, ⟨_, b1, b2, b3⟩⟩ := And.intro h.1 h.2
  refine ⟨⟨?_, ?_⟩, h⟩
  · unfold fsmallB withinB
    simp only [Bool.and_eq_true, decide_eq_true_eq]
    omega
  · unfold fsmallB withinB
    simp only [Bool.and_eq_true, decide_eq_true_eq]
    omega
theorem cu64_ok {c : Cu} (h : CuOk c) : Cu64 c := by
  obtain ⟨⟨_, a1, a2, a3⟩, ⟨_, b1, b2, b3⟩⟩ := And.intro h.1 h.2
  unfold Cu64 W64
  omega
theorem times64 {s : Src} (h : SrcOk s) {n : Int} (hn : 1 ≤ n ∧ n ≤ 5) : Src64 (times n s) ∧ (-5000000 ≤ n * s.p ∧ n * s.p ≤ 5000000) ∧ (-5000000 ≤ n * s.q ∧ n * s.q ≤ 5000000) := by
  obtain ⟨h1, h2, h3, h4⟩ := h
  have a : n = 1 ∨ n = 2 ∨ n = 3 ∨ n = 4 ∨ n = 5 := by omega
  unfold Src64 W64 times
  dsimp only
  rcases a with rfl | rfl | rfl | rfl | rfl <;> omega

end Go.Proofs.YtpdkbhjcpddnpaaDoor
