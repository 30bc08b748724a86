/- Words of quantities and units; the words of a term (package design). Printed by a program (gen_d4word.py). -/
import Derived.Test.YtnfbdkdjoekifaaGreatDoorShelf
import Derived.Test.YtnfbdkdjoekifaaGreatDoorOe2j
import Derived.Test.YtnfbdkdjoekifaaGreatDoorOc2
import Derived.Test.YtnfbdkdjoekifaaGreatDoorOa6
import Derived.Lib.Join
import Derived.Laws.Concat

section
namespace Go.Proofs.YtnfbdkdjoekifaaGreatDoor
open Go.RowKit
attribute [local go_sem] ByteArray.toList_mk

abbrev strV (l : List UInt8) : Value := .string ⟨l.toArray⟩
def qWords : List (List UInt8) := [[109, 97, 115, 115], [99, 111, 112, 112, 101, 114], [105, 100, 108, 101], [108, 111, 97, 100], [104, 101, 105, 103, 104, 116], [119, 105, 100, 116, 104]]
def uWords : List (List UInt8) := [[107, 103], [87], [109, 109]]
/-- A word of a table, or the sign for what does not exist. -/
def wordV (T : List (List UInt8)) (i : Int) : List UInt8 := if withinB i 0 ((T.length : Int) - 1) then T.getD i.toNat [] else [63]
/-- A table of words in a variable. -/
def TabS (g : Nat) (T : List (List UInt8)) (w : World) : Prop := g < w.heap.size ∧ ∀ i, i < T.length → w.cell? ⟨g, i, none⟩ = some (strV (T.getD i []))
theorem TabS.below {g : Nat} {T : List (List UInt8)} {w w' : World} (h : TabS g T w) (hb : Below w.heap.size w w') : TabS g T w' := ⟨Nat.lt_of_lt_of_le h.1 hb.size, fun i hi => ((bcell hb).1 _ _ h.1).trans (h.2 i hi)⟩
theorem bsizeD (l : List UInt8) : (⟨l.toArray⟩ : ByteArray).size = l.length := by simp [ByteArray.size]
theorem add_listD (a b : List UInt8) (h : a.length + b.length ≤ 1000) (w : World) : (Op.stringOp .add ⟨a.toArray⟩ ⟨b.toArray⟩).run Tryz.prog w = .ok (.string ⟨(a ++ b).toArray⟩) w := by
  have e : (⟨a.toArray⟩ : ByteArray) ++ (⟨b.toArray⟩ : ByteArray) = ⟨(a ++ b).toArray⟩ := by
    apply ByteArray.ext
    simp
  rw [← e]
  exact run_string_add_sum (P := Tryz.prog) w _ _ (by rw [bsizeD, bsizeD]; omega)
theorem trim_any (l : List UInt8) (w : World) : Calls Tryz.prog 78 #[.string ⟨l.toArray⟩, .string ⟨#[45]⟩] w fun e w' => e = .returned (.string ⟨(Lib.trimPrefix l [45]).toArray⟩) ∧ w = w' :=
  (Tryz.strings_TrimPrefix ⟨l.toArray⟩ ⟨#[45]⟩ w).mono fun _e _w' ⟨h1, h2⟩ => ⟨h1, h2.symm⟩
theorem trim_lenD (l : List UInt8) : (Lib.trimPrefix l [45]).length ≤ l.length := by
  unfold Lib.trimPrefix
  split
  · simp
  · exact Nat.le_refl _
theorem string_infoD : (Tryz.prog.info? 9).map (fun i => (i.zero, i.size, i.bytes)) = some (some (.string ByteArray.empty), 1, 16) := by kernel_rfl
theorem string_partsD : ∃ i0, Tryz.prog.info? 9 = some i0 ∧ i0.zero = some (.string ByteArray.empty) ∧ i0.size = 1 ∧ i0.bytes = 16 := by
  have h := string_infoD
  cases hi : Tryz.prog.info? 9 with
  | none => rw [hi] at h; cases h
  | some i => rw [hi] at h; simp only [Option.map_some, Option.some.injEq, Prod.mk.injEq] at h; exact ⟨i, rfl, h.1, h.2.1, h.2.2⟩
/-- strings.Join of words that lie in a slice. -/
theorem joinD_any (L : List (List UInt8)) (d : UInt8) (A : Option Addr) (n c : Nat) (w : World) (hn : L.length = n) (hA : CellsIn w.heap.size w A (L.map strV)) (hc : n ≤ c) (hN : n ≤ 100000) (hlen : (Lib.join L [d]).length ≤ 1000000) :
    Calls Tryz.prog 57 #[.slice A n c, .string ⟨#[d]⟩] w fun e w' => e = .returned (strV (Lib.join L [d])) ∧ Below w.heap.size w w' := by
  subst hn
  rcases hA with hA | ⟨b, off, rfl, hb, hcell⟩
  · have hL : L = [] := by simpa using hA
    subst hL
    exact (Tryz.strings_Join_none A c ⟨#[d]⟩ w).mono fun e w' ⟨h1, h2⟩ => ⟨h1, h2 ▸ pr⟩
  · have e1 : (L.map fun x => (⟨x.toArray⟩ : ByteArray)).map (·.data.toList) = L := by rw [List.map_map]; exact List.map_id _
    have e2 : (L.map fun x => (⟨x.toArray⟩ : ByteArray)).length = L.length := by rw [List.length_map]
    have q := Tryz.strings_Join b off c (L.map fun x => (⟨x.toArray⟩ : ByteArray)) ⟨#[d]⟩ w (fun j x hx => by
      have hj : j < L.length := by rw [← e2]; exact (List.getElem?_eq_some_iff.1 hx).1
      rw [hcell j (by simpa using hj)]
      simp only [List.getElem?_map] at hx ⊢
      rw [List.getElem?_eq_getElem hj] at hx ⊢
      simp only [Option.map_some, Option.some.injEq] at hx ⊢
      rw [← hx]) hb (by rw [e2]; omega) (by rw [e2]; exact hc) (by rw [e1]; exact Nat.le_trans hlen (by decide))
    rw [e1, e2] at q
    exact q
/-- The numeral of a number is written from here on. -/
def ItIn (w : World) (n : Int) : Prop := (Lib.itoa n).length ≤ 21 ∧ ∀ W, Below w.heap.size w W → Calls Tryz.prog 55 #[.int .i64 n] W fun e w' => e = .returned (strV (Lib.itoa n)) ∧ Below W.heap.size W w'
theorem ItIn.below {w w' : World} {n : Int} (h : ItIn w n) (hb : Below w.heap.size w w') : ItIn w' n := ⟨h.1, fun W hW => h.2 W (pt hb hW)⟩

theorem wordOf_any (n g : Nat) (T : List (List UInt8)) (i : Int) (w : World) (h : TabS g T w) (hn : T.length = n) (hm : n ≤ 1000) :
    Calls Tryz.prog 56 #[.slice (some ⟨g, 0, none⟩) n n, .int .i64 i] w fun e w' => e = .returned (strV (wordV T i)) ∧ w = w' := by
  subst hn
  obtain ⟨hg, hc⟩ := h
  have HV := Lib.hid (show wordV T i = if withinB i 0 ((T.length : Int) - 1) then T.getD i.toNat [] else [63] from rfl)
  generalize wordV T i = V at *
  cases hb : withinB i 0 ((T.length : Int) - 1)
  · have HX := Lib.hid (show V = [63] by rw [HV.out, hb]; rfl)
    clear hc HV
    go_enter Tryz.func56, Tryz.ntmps56
    go_wp2_with (go_at_call 49; refine (within_any _ _ _ _).mono ?_; rintro e w' ⟨rfl, rfl⟩)
    go_ret
    exact ⟨by rw [HX.out]; rfl, rfl⟩
  · have hi : 0 ≤ i ∧ i ≤ (T.length : Int) - 1 := by simpa [withinB] using hb
    obtain ⟨k, rfl⟩ : ∃ k : Nat, i = (k : Int) := ⟨i.toNat, by omega⟩
    have hk : k < T.length := by omega
    have HX := Lib.hid (show V = T.getD k [] by rw [HV.out, hb]; rfl)
    have c0 := hc k hk
    generalize T.getD k [] = x at *
    have k0 : (0 : Int) ≤ (k : Int) := by omega
    have k1 : (k : Int) < (T.length : Int) := by omega
    clear hc HV hi
    go_enter Tryz.func56, Tryz.ntmps56
    go_wp2_with (go_at_call 49; refine (within_any _ _ _ _).mono ?_; rintro e w' ⟨rfl, rfl⟩)
    go_ret
    exact ⟨by rw [HX.out]; rfl, rfl⟩

/-- The size of a factor, the words of a term. -/
def sizeW (f : Int) : List UInt8 := Lib.trimPrefix (Lib.itoa f) [45]
def lastW (f q : Int) : List UInt8 := if sizeW f = [49] then wordV qWords q else sizeW f ++ 42 :: wordV qWords q
def headW (f : Int) (fst : Bool) : List (List UInt8) := if f < 0 then [[45]] else if fst then [] else [[43]]
def termW (f q : Int) (fst : Bool) : List (List UInt8) := headW f fst ++ [lastW f q]
theorem wordV_len (q : Int) : (wordV qWords q).length ≤ 6 := by
  unfold wordV
  split
  · rename_i h
    have hi : 0 ≤ q ∧ q ≤ 5 := by simpa [withinB, qWords] using h
    obtain ⟨k, rfl⟩ : ∃ k : Nat, q = (k : Int) := ⟨q.toNat, by omega⟩
    rcases (by omega : k = 0 ∨ k = 1 ∨ k = 2 ∨ k = 3 ∨ k = 4 ∨ k = 5) with rfl | rfl | rfl | rfl | rfl | rfl <;> decide
  · decide
theorem own_ltD {w : World} {base : Nat} {e : TypeId} {size n : Nat} {v : Value} {xs : List Value} (h : w.ownsRow base e size v n xs) {g : Nat} (hg : g < base) : some g ≠ v.ownBlock := fun e => by
  have := (h.lt g e.symm).1
  omega
def TermRet (w : World) (L : List (List UInt8)) (e : Ending) (w' : World) : Prop := ∃ A c, e = .returned (.slice A L.length c) ∧ CellsIn w'.heap.size w' A (L.map strV) ∧ L.length ≤ c ∧ Below w.heap.size w w'

set_option maxHeartbeats 4000000 in
set_option maxRecDepth 100000 in
theorem termWords_any (f q : Int) (fst : Bool) (w : World) (hQ : TabS 1 qWords w) (hI : ItIn w f) :
    Calls Tryz.prog 54 #[.agg #[.int .i64 f, .int .i64 q], .bool fst] w (TermRet w (termW f q fst)) := by
  obtain ⟨i0, hi0, hz0, hz1, hz2⟩ := string_partsD
  have HQ := Lib.hid hQ
  have HI := Lib.hid hI.2
  have hl := hI.1
  have hl2 := trim_lenD (Lib.itoa f)
  have hl3 := wordV_len q
  have HTr := Lib.hid (fun W => trim_any (Lib.itoa f) W)
  have HWd := Lib.hid (fun W (hW : Below w.heap.size w W) => wordOf_any 6 1 qWords q W (HQ.out.below hW) rfl (by decide))
  have HL := Lib.hid (show lastW f q = if Lib.trimPrefix (Lib.itoa f) [45] = [49] then wordV qWords q else Lib.trimPrefix (Lib.itoa f) [45] ++ 42 :: wordV qWords q from rfl)
  clear hQ hI
  unfold termW
  have hgq := HQ.out.1
  generalize lastW f q = L at *
  generalize wordV qWords q = Q at *
  generalize Lib.trimPrefix (Lib.itoa f) [45] = S at *
  generalize Lib.itoa f = F at *
  have R0 := Lib.hid (show Blk (w.alloc (.cells #[.int .i64 f, .int .i64 q] 64)) w.heap.size 64 #[.int .i64 f, .int .i64 q] from Blk.newAt rfl)
  have B0 := Lib.hid (show Below w.heap.size w (w.alloc (.cells #[.int .i64 f, .int .i64 q] 64)) from pa pr)
  have hs0 : (w.alloc (.cells #[.int .i64 f, .int .i64 q] 64)).heap.size = w.heap.size + 1 := by simp
  have x0 := R0.out.cellAt 0 rfl
  have x1 := R0.out.cellAt 1 rfl
  have xl := R0.out.lt
  by_cases h0 : f < 0
  · have HH := Lib.hid (show headW f fst = [[45]] by unfold headW; rw [if_pos h0])
    rw [HH.out]
    clear HH
    go_enter Tryz.func54, Tryz.ntmps54
    have HO0 := Lib.hid (show (w.alloc (.cells #[.int .i64 f, .int .i64 q] 64)).ownsRow (w.heap.size + 1) 9 1 (.slice none 0 0) 0 [] from World.ownsRow_nil _ _ _ _)
    have HC0 := Lib.hid (show CellsIn (w.heap.size + 1 + 1) ((w.alloc (.cells #[.int .i64 f, .int .i64 q] 64)).alloc (.cells #[strV [45]] 9)) (some ⟨w.heap.size + 1, 0, none⟩) [strV [45]] by have h := cellsIn_one (w.alloc (.cells #[.int .i64 f, .int .i64 q] 64)) 9 (strV [45]); rw [hs0] at h; exact h)
    go_wp2_with (at_builtin; go_must (refine wpList_append_cells _ rfl (.tmp 14) (.tmp 15) _ rfl (w.heap.size + 1) 9 i0 _ 1 16 Tryz.underlying102 hi0 hz0 hz1 hz2 rfl (by omega) _ 0 _ rfl (HO0.out.alloc _) (w.heap.size + 1 + 1) (some ⟨w.heap.size + 1, 0, none⟩) 1 1 [strV [45]] rfl (HC0.out) rfl (by simp [Value.oneCell']) (by simp only [maxLen]; omega) (by omega) (by first | omega | (simp; done) | (simp; omega)) ?_); intro v1 w1 hown1 hg1 _)
    have Ba := Lib.hid (pg (pa B0.out) (HO0.out.alloc (.cells #[strV [45]] 9)) (Nat.le_succ _) hg1)
    have Ra := Lib.hid ((R0.out.alloc (o := .cells #[strV [45]] 9)).grown hg1 (own_ltD (HO0.out.alloc (.cells #[strV [45]] 9)) (Nat.lt_succ_self _)))
    obtain ⟨A1, c1, rfl, hc1, _⟩ := own_form hown1
    have HOa := Lib.hid (show w1.ownsRow (w.heap.size + 1) 9 1 (.slice A1 1 c1) 1 ([[45]].map strV) from hown1)
    clear hown1 hg1 HO0 R0 B0 x0 x1 xl
    generalize w1 = wa at *
    have y1 := Ra.out.cellAt 1 rfl
    have yl := Ra.out.lt
    have hsa := Ba.out.size
    refine region_below 4 follows_mixed (by kernel_rfl) ?_
    intro C hC
    simp only [List.take_succ_cons, List.take_zero, List.drop_succ_cons, List.drop_zero]
    repeat (first
      | ((with_reducible refine quiet_plain rfl (fun K hK => ?_)); (focus (apply quiet_val; (focus (intro w' hw; obtain ⟨hcq, hfq⟩ := bcell ((hC.out _).1 hw); go_simp; (first | done | rfl | (with_reducible exact call_same hw (HWd.out _ (pt Ba.out ((hC.out _).1 hw))))))); (simp only [Act.put, List.setIfInBounds_toArray, List.set_cons_succ, List.set_cons_zero]); (with_reducible refine hK _ ?_); clear hK K)))
      | ((with_reducible refine quiet_skip ?_ ?_); (focus (first | (simp [Region.wanted, yielded]; done) | (simp [Region.wanted, yielded, undef]; done))); simp only [Act.put, List.setIfInBounds_toArray, List.set_cons_succ, List.set_cons_zero])
      | ((with_reducible refine quiet_go ?_ (fun K hK => ?_)); (focus (first | (simp [Region.wanted, yielded]; done) | (simp [Region.wanted, yielded, undef]; done))); (focus (apply quiet_val; (focus (intro w' hw; obtain ⟨hcq, hfq⟩ := bcell ((hC.out _).1 hw); go_simp; (first | done | rfl | (with_reducible exact call_same hw (HWd.out _ (pt Ba.out ((hC.out _).1 hw))))))); (simp only [Act.put, List.setIfInBounds_toArray, List.set_cons_succ, List.set_cons_zero]); (with_reducible refine hK _ ?_); clear hK K))))
    refine wpQuiet_nil ?_
    intro w1 hb1
    replace hb1 := (hC.out _).1 hb1
    clear hC C
    obtain ⟨hc1, hf1⟩ := bcell hb1
    have Bb := Lib.hid (pt Ba.out hb1)
    have HOb := Lib.hid (own_past hb1 HOa.out)
    have hsb := hb1.size
    clear hb1 hc1 hf1 y1 yl
    by_cases hS : S = [49]
    · have hL2 : L = Q := by rw [HL.out, if_pos hS]
      clear HL
      subst hL2
      subst hS
      go_wp2_with (first
        | (go_at_call 55; refine (HI.out _ Bb.out).mono ?_; rintro e w2 ⟨rfl, hb⟩; have B2 := Lib.hid (pt Bb.out hb); have HO2 := Lib.hid (own_past hb HOb.out); have hs2 := hb.size; clear hb)
        | (go_at_call 78; refine (HTr.out _).mono ?_; rintro e w' ⟨rfl, rfl⟩)
        | (at_builtin; go_must (refine wpList_append_cells _ rfl (.tmp 36) (.tmp 38) _ rfl (w.heap.size + 1) 9 i0 _ 1 16 Tryz.underlying102 hi0 hz0 hz1 hz2 rfl (by omega) _ 1 _ rfl (HO2.out.alloc _) (w2.heap.size + 1) (some ⟨w2.heap.size, 0, none⟩) 1 1 [strV L] rfl (cellsIn_one _ _ _) rfl (by simp [Value.oneCell']) (by simp only [maxLen]; omega) (by omega) (by first | omega | (simp; done) | (simp; omega)) ?_); intro v9 w9 hown9 hg9 _))
      obtain ⟨A9, c9, rfl, hc9, _⟩ := own_form hown9
      have hb9 := pg (pa B2.out) (HO2.out.alloc _) (Nat.le_succ _) hg9
      go_ret
      exact ⟨A9, c9, rfl, cellsIn_of_own hown9, hc9, hb9⟩
    · have hL2 : L = S ++ 42 :: Q := by rw [HL.out, if_neg hS]
      clear HL
      subst hL2
      have g1 : (S == [49]) = false := by simpa using hS
      have g2 : (S != [49]) = true := by simpa using hS
      have a1 := fun W => add_listD S [42] (by simp; omega) W
      have a2 := fun W => add_listD (S ++ [42]) Q (by simp; omega) W
      go_wp2_with (first
        | (go_at_call 55; refine (HI.out _ Bb.out).mono ?_; rintro e w2 ⟨rfl, hb⟩; have B2 := Lib.hid (pt Bb.out hb); have HO2 := Lib.hid (own_past hb HOb.out); have hs2 := hb.size; clear hb)
        | (go_at_call 78; refine (HTr.out _).mono ?_; rintro e w' ⟨rfl, rfl⟩)
        | (at_builtin; go_must (refine wpList_append_cells _ rfl (.tmp 36) (.tmp 38) _ rfl (w.heap.size + 1) 9 i0 _ 1 16 Tryz.underlying102 hi0 hz0 hz1 hz2 rfl (by omega) _ 1 _ rfl (HO2.out.alloc _) (w2.heap.size + 1) (some ⟨w2.heap.size, 0, none⟩) 1 1 [strV (S ++ 42 :: Q)] rfl (cellsIn_one _ _ _) rfl (by simp [Value.oneCell']) (by simp only [maxLen]; omega) (by omega) (by first | omega | (simp; done) | (simp; omega)) ?_); intro v9 w9 hown9 hg9 _))
      obtain ⟨A9, c9, rfl, hc9, _⟩ := own_form hown9
      have hb9 := pg (pa B2.out) (HO2.out.alloc _) (Nat.le_succ _) hg9
      go_ret
      exact ⟨A9, c9, rfl, cellsIn_of_own hown9, hc9, hb9⟩
  · cases fst
    · have HH := Lib.hid (show headW f false = [[43]] by unfold headW; rw [if_neg h0]; rfl)
      rw [HH.out]
      clear HH
      go_enter Tryz.func54, Tryz.ntmps54
      have HO0 := Lib.hid (show (w.alloc (.cells #[.int .i64 f, .int .i64 q] 64)).ownsRow (w.heap.size + 1) 9 1 (.slice none 0 0) 0 [] from World.ownsRow_nil _ _ _ _)
      have HC0 := Lib.hid (show CellsIn (w.heap.size + 1 + 1) ((w.alloc (.cells #[.int .i64 f, .int .i64 q] 64)).alloc (.cells #[strV [43]] 9)) (some ⟨w.heap.size + 1, 0, none⟩) [strV [43]] by have h := cellsIn_one (w.alloc (.cells #[.int .i64 f, .int .i64 q] 64)) 9 (strV [43]); rw [hs0] at h; exact h)
      go_wp2_with (at_builtin; go_must (refine wpList_append_cells _ rfl (.tmp 20) (.tmp 21) _ rfl (w.heap.size + 1) 9 i0 _ 1 16 Tryz.underlying102 hi0 hz0 hz1 hz2 rfl (by omega) _ 0 _ rfl (HO0.out.alloc _) (w.heap.size + 1 + 1) (some ⟨w.heap.size + 1, 0, none⟩) 1 1 [strV [43]] rfl (HC0.out) rfl (by simp [Value.oneCell']) (by simp only [maxLen]; omega) (by omega) (by first | omega | (simp; done) | (simp; omega)) ?_); intro v1 w1 hown1 hg1 _)
      have Ba := Lib.hid (pg (pa B0.out) (HO0.out.alloc (.cells #[strV [43]] 9)) (Nat.le_succ _) hg1)
      have Ra := Lib.hid ((R0.out.alloc (o := .cells #[strV [43]] 9)).grown hg1 (own_ltD (HO0.out.alloc (.cells #[strV [43]] 9)) (Nat.lt_succ_self _)))
      obtain ⟨A1, c1, rfl, hc1, _⟩ := own_form hown1
      have HOa := Lib.hid (show w1.ownsRow (w.heap.size + 1) 9 1 (.slice A1 1 c1) 1 ([[43]].map strV) from hown1)
      clear hown1 hg1 HO0 R0 B0 x0 x1 xl
      generalize w1 = wa at *
      have y1 := Ra.out.cellAt 1 rfl
      have yl := Ra.out.lt
      have hsa := Ba.out.size
      refine region_below 4 follows_mixed (by kernel_rfl) ?_
      intro C hC
      simp only [List.take_succ_cons, List.take_zero, List.drop_succ_cons, List.drop_zero]
      repeat (first
        | ((with_reducible refine quiet_plain rfl (fun K hK => ?_)); (focus (apply quiet_val; (focus (intro w' hw; obtain ⟨hcq, hfq⟩ := bcell ((hC.out _).1 hw); go_simp; (first | done | rfl | (with_reducible exact call_same hw (HWd.out _ (pt Ba.out ((hC.out _).1 hw))))))); (simp only [Act.put, List.setIfInBounds_toArray, List.set_cons_succ, List.set_cons_zero]); (with_reducible refine hK _ ?_); clear hK K)))
        | ((with_reducible refine quiet_skip ?_ ?_); (focus (first | (simp [Region.wanted, yielded]; done) | (simp [Region.wanted, yielded, undef]; done))); simp only [Act.put, List.setIfInBounds_toArray, List.set_cons_succ, List.set_cons_zero])
        | ((with_reducible refine quiet_go ?_ (fun K hK => ?_)); (focus (first | (simp [Region.wanted, yielded]; done) | (simp [Region.wanted, yielded, undef]; done))); (focus (apply quiet_val; (focus (intro w' hw; obtain ⟨hcq, hfq⟩ := bcell ((hC.out _).1 hw); go_simp; (first | done | rfl | (with_reducible exact call_same hw (HWd.out _ (pt Ba.out ((hC.out _).1 hw))))))); (simp only [Act.put, List.setIfInBounds_toArray, List.set_cons_succ, List.set_cons_zero]); (with_reducible refine hK _ ?_); clear hK K))))
      refine wpQuiet_nil ?_
      intro w1 hb1
      replace hb1 := (hC.out _).1 hb1
      clear hC C
      obtain ⟨hc1, hf1⟩ := bcell hb1
      have Bb := Lib.hid (pt Ba.out hb1)
      have HOb := Lib.hid (own_past hb1 HOa.out)
      have hsb := hb1.size
      clear hb1 hc1 hf1 y1 yl
      by_cases hS : S = [49]
      · have hL2 : L = Q := by rw [HL.out, if_pos hS]
        clear HL
        subst hL2
        subst hS
        go_wp2_with (first
          | (go_at_call 55; refine (HI.out _ Bb.out).mono ?_; rintro e w2 ⟨rfl, hb⟩; have B2 := Lib.hid (pt Bb.out hb); have HO2 := Lib.hid (own_past hb HOb.out); have hs2 := hb.size; clear hb)
          | (go_at_call 78; refine (HTr.out _).mono ?_; rintro e w' ⟨rfl, rfl⟩)
          | (at_builtin; go_must (refine wpList_append_cells _ rfl (.tmp 36) (.tmp 38) _ rfl (w.heap.size + 1) 9 i0 _ 1 16 Tryz.underlying102 hi0 hz0 hz1 hz2 rfl (by omega) _ 1 _ rfl (HO2.out.alloc _) (w2.heap.size + 1) (some ⟨w2.heap.size, 0, none⟩) 1 1 [strV L] rfl (cellsIn_one _ _ _) rfl (by simp [Value.oneCell']) (by simp only [maxLen]; omega) (by omega) (by first | omega | (simp; done) | (simp; omega)) ?_); intro v9 w9 hown9 hg9 _))
        obtain ⟨A9, c9, rfl, hc9, _⟩ := own_form hown9
        have hb9 := pg (pa B2.out) (HO2.out.alloc _) (Nat.le_succ _) hg9
        go_ret
        exact ⟨A9, c9, rfl, cellsIn_of_own hown9, hc9, hb9⟩
      · have hL2 : L = S ++ 42 :: Q := by rw [HL.out, if_neg hS]
        clear HL
        subst hL2
        have g1 : (S == [49]) = false := by simpa using hS
        have g2 : (S != [49]) = true := by simpa using hS
        have a1 := fun W => add_listD S [42] (by simp; omega) W
        have a2 := fun W => add_listD (S ++ [42]) Q (by simp; omega) W
        go_wp2_with (first
          | (go_at_call 55; refine (HI.out _ Bb.out).mono ?_; rintro e w2 ⟨rfl, hb⟩; have B2 := Lib.hid (pt Bb.out hb); have HO2 := Lib.hid (own_past hb HOb.out); have hs2 := hb.size; clear hb)
          | (go_at_call 78; refine (HTr.out _).mono ?_; rintro e w' ⟨rfl, rfl⟩)
          | (at_builtin; go_must (refine wpList_append_cells _ rfl (.tmp 36) (.tmp 38) _ rfl (w.heap.size + 1) 9 i0 _ 1 16 Tryz.underlying102 hi0 hz0 hz1 hz2 rfl (by omega) _ 1 _ rfl (HO2.out.alloc _) (w2.heap.size + 1) (some ⟨w2.heap.size, 0, none⟩) 1 1 [strV (S ++ 42 :: Q)] rfl (cellsIn_one _ _ _) rfl (by simp [Value.oneCell']) (by simp only [maxLen]; omega) (by omega) (by first | omega | (simp; done) | (simp; omega)) ?_); intro v9 w9 hown9 hg9 _))
        obtain ⟨A9, c9, rfl, hc9, _⟩ := own_form hown9
        have hb9 := pg (pa B2.out) (HO2.out.alloc _) (Nat.le_succ _) hg9
        go_ret
        exact ⟨A9, c9, rfl, cellsIn_of_own hown9, hc9, hb9⟩
    · have HH := Lib.hid (show headW f true = [] by unfold headW; rw [if_neg h0]; rfl)
      rw [HH.out]
      clear HH
      go_enter Tryz.func54, Tryz.ntmps54
      have HO0 := Lib.hid (show (w.alloc (.cells #[.int .i64 f, .int .i64 q] 64)).ownsRow (w.heap.size + 1) 9 1 (.slice none 0 0) 0 [] from World.ownsRow_nil _ _ _ _)
      go_wp2
      have Ba := B0
      have Ra := R0
      have HOa := Lib.hid (show (w.alloc (.cells #[.int .i64 f, .int .i64 q] 64)).ownsRow (w.heap.size + 1) 9 1 (.slice none 0 0) 0 (([] : List (List UInt8)).map strV) from HO0.out)
      clear HO0 R0 B0 x0 x1 xl hs0
      generalize (w.alloc (.cells #[.int .i64 f, .int .i64 q] 64)) = wa at *
      have y1 := Ra.out.cellAt 1 rfl
      have yl := Ra.out.lt
      have hsa := Ba.out.size
      refine region_below 4 follows_mixed (by kernel_rfl) ?_
      intro C hC
      simp only [List.take_succ_cons, List.take_zero, List.drop_succ_cons, List.drop_zero]
      repeat (first
        | ((with_reducible refine quiet_plain rfl (fun K hK => ?_)); (focus (apply quiet_val; (focus (intro w' hw; obtain ⟨hcq, hfq⟩ := bcell ((hC.out _).1 hw); go_simp; (first | done | rfl | (with_reducible exact call_same hw (HWd.out _ (pt Ba.out ((hC.out _).1 hw))))))); (simp only [Act.put, List.setIfInBounds_toArray, List.set_cons_succ, List.set_cons_zero]); (with_reducible refine hK _ ?_); clear hK K)))
        | ((with_reducible refine quiet_skip ?_ ?_); (focus (first | (simp [Region.wanted, yielded]; done) | (simp [Region.wanted, yielded, undef]; done))); simp only [Act.put, List.setIfInBounds_toArray, List.set_cons_succ, List.set_cons_zero])
        | ((with_reducible refine quiet_go ?_ (fun K hK => ?_)); (focus (first | (simp [Region.wanted, yielded]; done) | (simp [Region.wanted, yielded, undef]; done))); (focus (apply quiet_val; (focus (intro w' hw; obtain ⟨hcq, hfq⟩ := bcell ((hC.out _).1 hw); go_simp; (first | done | rfl | (with_reducible exact call_same hw (HWd.out _ (pt Ba.out ((hC.out _).1 hw))))))); (simp only [Act.put, List.setIfInBounds_toArray, List.set_cons_succ, List.set_cons_zero]); (with_reducible refine hK _ ?_); clear hK K))))
      refine wpQuiet_nil ?_
      intro w1 hb1
      replace hb1 := (hC.out _).1 hb1
      clear hC C
      obtain ⟨hc1, hf1⟩ := bcell hb1
      have Bb := Lib.hid (pt Ba.out hb1)
      have HOb := Lib.hid (own_past hb1 HOa.out)
      have hsb := hb1.size
      clear hb1 hc1 hf1 y1 yl
      by_cases hS : S = [49]
      · have hL2 : L = Q := by rw [HL.out, if_pos hS]
        clear HL
        subst hL2
        subst hS
        go_wp2_with (first
          | (go_at_call 55; refine (HI.out _ Bb.out).mono ?_; rintro e w2 ⟨rfl, hb⟩; have B2 := Lib.hid (pt Bb.out hb); have HO2 := Lib.hid (own_past hb HOb.out); have hs2 := hb.size; clear hb)
          | (go_at_call 78; refine (HTr.out _).mono ?_; rintro e w' ⟨rfl, rfl⟩)
          | (at_builtin; go_must (refine wpList_append_cells _ rfl (.tmp 36) (.tmp 38) _ rfl (w.heap.size + 1) 9 i0 _ 1 16 Tryz.underlying102 hi0 hz0 hz1 hz2 rfl (by omega) _ 0 _ rfl (HO2.out.alloc _) (w2.heap.size + 1) (some ⟨w2.heap.size, 0, none⟩) 1 1 [strV L] rfl (cellsIn_one _ _ _) rfl (by simp [Value.oneCell']) (by simp only [maxLen]; omega) (by omega) (by first | omega | (simp; done) | (simp; omega)) ?_); intro v9 w9 hown9 hg9 _))
        obtain ⟨A9, c9, rfl, hc9, _⟩ := own_form hown9
        have hb9 := pg (pa B2.out) (HO2.out.alloc _) (Nat.le_succ _) hg9
        go_ret
        exact ⟨A9, c9, rfl, cellsIn_of_own hown9, hc9, hb9⟩
      · have hL2 : L = S ++ 42 :: Q := by rw [HL.out, if_neg hS]
        clear HL
        subst hL2
        have g1 : (S == [49]) = false := by simpa using hS
        have g2 : (S != [49]) = true := by simpa using hS
        have a1 := fun W => add_listD S [42] (by simp; omega) W
        have a2 := fun W => add_listD (S ++ [42]) Q (by simp; omega) W
        go_wp2_with (first
          | (go_at_call 55; refine (HI.out _ Bb.out).mono ?_; rintro e w2 ⟨rfl, hb⟩; have B2 := Lib.hid (pt Bb.out hb); have HO2 := Lib.hid (own_past hb HOb.out); have hs2 := hb.size; clear hb)
          | (go_at_call 78; refine (HTr.out _).mono ?_; rintro e w' ⟨rfl, rfl⟩)
          | (at_builtin; go_must (refine wpList_append_cells _ rfl (.tmp 36) (.tmp 38) _ rfl (w.heap.size + 1) 9 i0 _ 1 16 Tryz.underlying102 hi0 hz0 hz1 hz2 rfl (by omega) _ 0 _ rfl (HO2.out.alloc _) (w2.heap.size + 1) (some ⟨w2.heap.size, 0, none⟩) 1 1 [strV (S ++ 42 :: Q)] rfl (cellsIn_one _ _ _) rfl (by simp [Value.oneCell']) (by simp only [maxLen]; omega) (by omega) (by first | omega | (simp; done) | (simp; omega)) ?_); intro v9 w9 hown9 hg9 _))
        obtain ⟨A9, c9, rfl, hc9, _⟩ := own_form hown9
        have hb9 := pg (pa B2.out) (HO2.out.alloc _) (Nat.le_succ _) hg9
        go_ret
        exact ⟨A9, c9, rfl, cellsIn_of_own hown9, hc9, hb9⟩

end Go.Proofs.YtnfbdkdjoekifaaGreatDoor
end
