/- Contracts: base.HasText, base.CopyTexts; the specification's Find and rangeErr. Lengths at most 1000.
Plain law: of valid lots, the ingredients of each as sets and by index. No program. -/
import Derived.Test.YtbojmcopagbheaaGreatDoorZDSets
import Derived.Test.YtbojmcopagbheaaGreatDoorZTRefStack
import Derived.Test.YtbojmcopagbheaaGreatDoorLOpen
import Derived.Test.YtbojmcopagbheaaGreatDoorRK

section
namespace Go.Proofs.YtbojmcopagbheaaGreatDoor
open Go.RowKit

def hasT (xs : List ByteArray) (x : ByteArray) : Bool := anyG (sameS x) xs
theorem anyG_step {α : Type} (p : α → Bool) (xs : List α) (k : Nat) (d : α) (h : k < xs.length) : anyG p (xs.drop k) = if p (xs.getD k d) = true then true else anyG p (xs.drop (k + 1)) := by
  have e : xs.getD k d = xs[k] := by simp [List.getD, h]
  rw [List.drop_eq_getElem_cons h, e]
  unfold anyG
  rw [List.any_cons]
  cases p xs[k] <;> simp

set_option maxHeartbeats 400000 in
theorem baseHasText_any (B : Nat) (A : Option Addr) (n c : Nat) (xs : List ByteArray) (x : ByteArray) (w : World) (hr : RowIn Value.string B w A xs) (hn : xs.length = n) (hm : n ≤ 100000) :
    Calls Tryz.prog 31 #[.slice A n c, .string x] w fun e w' => e = .returned (.bool (hasT xs x)) ∧ w = w' := by
  subst hn
  have HD := Lib.hid (show hasT xs x = anyG (sameS x) xs from rfl)
  generalize hasT xs x = V at *
  go_enter Tryz.func31, Tryz.ntmps31
  go_wp2
  go_loop [5] (fun i => ∃ k : Nat, k ≤ xs.length ∧ i = .int .i64 k ∧ V = anyG (sameS x) (xs.drop k)) (fun i => xs.length - (intOf i).toNat)
  case atStart => exact ⟨0, Nat.zero_le _, rfl, HD.out⟩
  case round =>
    obtain ⟨k, hk, rfl, hf⟩ := hrel
    by_cases hlt : k < xs.length
    · obtain ⟨b, off, rfl, hb, hc⟩ := hr.at_ hlt
      have hcell := hc k hlt
      have HF := Lib.hid (hf.trans (anyG_step (sameS x) xs k default hlt))
      clear hc hf hr
      generalize xs.getD k default = y at *
      have hs : sameS x y = (y.toList == x.toList) := by rw [sameS_comm]; exact sameS_list y x
      cases hxy : sameS x y with
      | true =>
        have HX := Lib.hid hxy
        have hb : (y.toList == x.toList) = true := by rw [← hs]; exact hxy
        clear hs hxy
        go_wp2
        go_ret
        exact ⟨ret_bool (by rw [HF.out, HX.out]; simp), rfl⟩
      | false =>
        have HX := Lib.hid hxy
        have hb : (y.toList == x.toList) = false := by rw [← hs]; exact hxy
        clear hs hxy
        go_wp2
        go_round
        case rel => exact ⟨k + 1, by omega, by go_num, by rw [HF.out, HX.out]; simp⟩
        case measure => simp [intOf]; omega
    · have HF := Lib.hid (show V = false by
        rw [hf, List.drop_eq_nil_of_le (by omega)]
        rfl)
      clear hf
      go_wp2
      go_ret
      exact ⟨ret_bool HF.out.symm, rfl⟩

/-- From A on lie the strings xs, in a block of strings. -/
def TextRow (w : World) (A : Option Addr) (xs : List ByteArray) : Prop :=
  xs = [] ∨ ∃ b off, A = some ⟨b, off, none⟩ ∧ (∃ (cs : Array Value) (fz : Nat × Nat), w.heap[b]? = some (Obj.cells cs 9 fz)) ∧ ∀ j, j < xs.length → w.cell? ⟨b, off + j, none⟩ = some (.string (xs.getD j default))
section
variable {w w' : World} {A : Option Addr} {xs : List ByteArray}
theorem TextRow.same (h : TextRow w A xs) (hk : ∀ (b : Nat) (cs : Array Value) (fz : Nat × Nat), w.heap[b]? = some (Obj.cells cs 9 fz) → w'.heap[b]? = w.heap[b]?) : TextRow w' A xs := by
  rcases h with h | ⟨b, off, hA, ⟨cs, fz, ht⟩, hc⟩
  · exact .inl h
  · exact .inr ⟨b, off, hA, ⟨cs, fz, (hk b cs fz ht).trans ht⟩, fun j hj => (World.cell?_of_block (hk b cs fz ht)).trans (hc j hj)⟩
theorem TextRow.row (h : TextRow w A xs) : RowIn Value.string w.heap.size w A xs := by
  rcases h with h | ⟨b, off, hA, ⟨cs, fz, ht⟩, hc⟩
  · exact .inl h
  · exact .inr ⟨b, off, hA, (Array.getElem?_eq_some_iff.1 ht).1, hc⟩
theorem TextRow.kept_below (hb : Below w.heap.size w w') : ∀ (b : Nat) (cs : Array Value) (fz : Nat × Nat), w.heap[b]? = some (Obj.cells cs 9 fz) → w'.heap[b]? = w.heap[b]? :=
  fun b _ _ ht => hb.block b (Array.getElem?_eq_some_iff.1 ht).1
theorem TextRow.past (h : TextRow w A xs) (hb : Below w.heap.size w w') : TextRow w' A xs := h.same (TextRow.kept_below hb)
theorem TextRow.kept_rows {base : Nat} {e : TypeId} {size n : Nat} {v : Value} {cs : List Value} (ho : w.ownsRow base e size v n cs) (hne : e ≠ 9) (hg : w.grownBy w' v.ownBlock) :
    ∀ (b : Nat) (cs : Array Value) (fz : Nat × Nat), w.heap[b]? = some (Obj.cells cs 9 fz) → w'.heap[b]? = w.heap[b]? := fun b cs fz ht => hg.block b (Array.getElem?_eq_some_iff.1 ht).1 fun he => by
  rcases ho.2 with ⟨h1, _⟩ | ⟨g, cap, cur, h1, _, hh, _⟩
  · rw [h1] at he; cases he
  · rw [h1] at he
    have : b = g := by simpa [Value.ownBlock] using he
    subst this
    rw [hh] at ht
    injection ht with ht
    injection ht with _ ht
    exact hne ht
theorem textRow_of_own {base n c : Nat} (h : w.ownsRow base 9 1 (.slice A n c) n (xs.map Value.string)) : TextRow w A xs := by
  have hi := rowS_of_own h
  rcases h.2 with ⟨h1, h2⟩ | ⟨g, cap, cur, hv, _, hh, _⟩
  · refine .inl ?_
    have := h.1
    rw [h2] at this
    simpa using this
  · injection hv with hA _ _
    rcases hi with h | ⟨b, off, hA2, hb, hc⟩
    · exact .inl h
    · rw [hA] at hA2
      injection hA2 with hA2
      injection hA2 with e1 e2 _
      subst e1 e2
      exact .inr ⟨g, 0, hA, ⟨cur, (0, 0), hh⟩, hc⟩
theorem RowIn.strs {B : Nat} (h : RowIn Value.string B w A xs) : CellsIn B w A (xs.map Value.string) := by
  rcases h with h | ⟨b, off, hA, hb, hc⟩
  · exact .inl (by simp [h])
  · exact .inr ⟨b, off, hA, hb, fun j hj => by
      have hj' : j < xs.length := by simpa using hj
      rw [hc j hj']
      simp [List.getD, hj']⟩
end

/-- A row of strings of the callee's own. -/
def TextRet (w : World) (xs : List ByteArray) (e : Ending) (w' : World) : Prop :=
  ∃ A c, e = .returned (.slice A xs.length c) ∧ TextRow w' A xs ∧ xs.length ≤ c ∧ Below w.heap.size w w'

set_option maxRecDepth 100000 in
set_option maxHeartbeats 400000 in
theorem copyTexts_any (B : Nat) (A : Option Addr) (n c : Nat) (xs : List ByteArray) (w : World) (hr : RowIn Value.string B w A xs) (hn : xs.length = n) (hB : B ≤ w.heap.size) (hm : n ≤ 1000) :
    Calls Tryz.prog 66 #[.slice A n c] w (TextRet w xs) := by
  obtain ⟨i0, hi0, hz0, hz1, hz2⟩ := info_parts string_info
  have HR := Lib.hid hr.strs
  have HN := Lib.hid hn
  clear hr hn
  go_enter Tryz.func66, Tryz.ntmps66
  have own0 : (w.alloc (.cells #[] 9)).ownsRow w.heap.size 9 1 (.slice (some ⟨w.heap.size, 0, none⟩) 0 0) 0 [] := World.ownsRow_lit w #[] 0 (Nat.le_refl _) (Nat.zero_le _) rfl
  have hcl : CellsIn B (w.alloc (.cells #[] 9)) A (List.map Value.string xs) := HR.out.below ((pa (Below.refl _ w)).mono hB)
  have hone : ∀ u ∈ List.map Value.string xs, u.oneCell' = true := by simp [Value.oneCell']
  have hlen : (List.map Value.string xs).length = n * 1 := by simp [HN.out]
  have hmx : 0 + n ≤ maxLen := by simp only [maxLen]; omega
  have HO := Lib.hid own0
  have HC := Lib.hid hcl
  have H1 := Lib.hid hone
  have HL := Lib.hid hlen
  have HM := Lib.hid hmx
  clear own0 hcl hone hlen hmx
  go_wp2_with (at_builtin; go_must (refine wpList_append_cells _ rfl (.tmp 3) (.tmp 4) _ rfl w.heap.size 9 i0 _ 1 16 Tryz.underlying56 hi0 hz0 hz1 hz2 rfl (by omega) (.slice (some ⟨w.heap.size, 0, none⟩) 0 0) 0 [] rfl HO.out B A n c _ rfl HC.out HL.out H1.out HM.out (by omega) (by simp) ?_); intro v1 w1 hown1 hg1 hat1)
  have HG := Lib.hid (pg (pa pr) HO.out (Nat.le_refl _) hg1)
  clear hg1
  rw [Nat.zero_add, List.nil_append] at hown1
  obtain ⟨A1, c1, rfl, hc1, _⟩ := own_form hown1
  have HT := Lib.hid (textRow_of_own hown1)
  clear hown1
  go_ret
  exact ⟨A1, c1, by rw [HN.out]; rfl, HT.out, by rw [HN.out]; exact hc1, HG.out⟩

/-- Whether a lot has a name. -/
def hasName (z : ByteArray) (x : Lot) : Bool := sameS x.name z

set_option maxHeartbeats 1000000 in
set_option maxRecDepth 100000 in
theorem refFind_any (B : Nat) (xs : List Lot) (A : Option Addr) (n c : Nat) (z : ByteArray) (w : World) (hr : LotsIn B w A xs) (hn : xs.length = n) (hm : n ≤ 1000) :
    Calls Tryz.prog 102 #[.slice A n c, .string z] w fun e w' => e = .returned (.int .i64 (findG (hasName z) xs 0)) ∧ w = w' := by
  subst hn
  have HD := Lib.hid (rfl : findG (hasName z) xs 0 = findG (hasName z) xs 0)
  generalize hV : findG (hasName z) xs 0 = V at HD ⊢
  have HV := Lib.hid hV
  clear hV
  go_enter Tryz.func102, Tryz.ntmps102
  go_wp2
  go_loop [5] (fun i => ∃ k : Nat, k ≤ xs.length ∧ i = .int .i64 k ∧ V = findG (hasName z) xs k) (fun i => xs.length - (intOf i).toNat)
  case atStart => exact ⟨0, Nat.zero_le _, rfl, HV.out.symm⟩
  case round =>
    obtain ⟨k, hk, rfl, hf⟩ := hrel
    by_cases hlt : k < xs.length
    · obtain ⟨b, off, rfl, hb, hc⟩ := hr.at_ hlt
      have hcell := (hc k hlt).1
      have HF := Lib.hid (hf.trans (findG_step (hasName z) xs k default hlt))
      have n0 : (0 : Int) ≤ (k : Int) := by omega
      have n1 : (k : Int) < (xs.length : Int) := by omega
      clear hc hf hr
      generalize xs.getD k default = y at *
      have hs : hasName z y = (y.name.toList == z.toList) := sameS_list y.name z
      cases hxy : hasName z y with
      | true =>
        have HX := Lib.hid hxy
        have hb : (y.name.toList == z.toList) = true := by rw [← hs]; exact hxy
        clear hs hxy
        go_wp2
        go_ret
        exact ⟨ret_int (by rw [HF.out, HX.out]; simp), rfl⟩
      | false =>
        have HX := Lib.hid hxy
        have hb : (y.name.toList == z.toList) = false := by rw [← hs]; exact hxy
        clear hs hxy
        go_wp2
        go_round
        case rel => exact ⟨k + 1, by omega, by go_num, by rw [HF.out, HX.out]; simp⟩
        case measure => simp [intOf]; omega
    · have HF := Lib.hid (show V = -1 by rw [hf]; exact findG_end _ _ _ (by omega))
      clear hf
      go_wp2
      go_ret
      exact ⟨ret_int HF.out.symm, rfl⟩

set_option maxHeartbeats 1000000 in
theorem refRange_any (lo hi : Int) (w : World) :
    Calls Tryz.prog 83 #[.agg #[.int .i64 lo, .int .i64 hi]] w fun e w' => e = .returned (.int .i64 (rangeErrV valueB lo hi)) ∧ Below w.heap.size w w' := by
  have hc := rangeErrV_cases valueB lo hi
  generalize rangeErrV valueB lo hi = R at *
  unfold valueB at hc
  rcases hc with ⟨h1, rfl⟩ | ⟨h1, h2, rfl⟩ | ⟨h1, h2, h3, rfl⟩ | ⟨h1, h2, h3, rfl⟩
  all_goals
    go_enter Tryz.func83, Tryz.ntmps83
    go_wp2_with (go_at_call 8; refine (baseWithin_any _ _ _ _).mono ?_; rintro e w' ⟨rfl, rfl⟩)
    go_ret
    exact ⟨rfl, pa pr⟩

theorem index_byte (s : ByteArray) (k : Nat) (hk : k < s.size) (w : World) : (Instr.index 9 (.string s) (.int .i64 (k : Int))).run Tryz.prog w = .ok (.int .u8 (byteAt s k)) w := by
  rw [run_index_string w 9 s .i64 (k : Int) Tryz.underlying9, dif_pos ⟨by omega, by omega⟩]
  have e : ((k : Int)).toNat = k := by omega
  have hb : k < s.data.size := hk
  simp only [e, byteAt]
  congr 3
  show (s.data[k]'hb).toNat = (s.data.getD k 0).toNat
  rw [Array.getD, dif_pos hb]
  rfl

set_option maxHeartbeats 1000000 in
set_option maxRecDepth 100000 in
theorem baseIsName_any (s : ByteArray) (w : World) (hs : s.size ≤ 1000) :
    Calls Tryz.prog 82 #[.string s] w fun e w' => e = .returned (.bool (nameB s)) ∧ w = w' := by
  have hw : withinB s.size 1 12 = (decide (1 ≤ (s.size : Int)) && decide ((s.size : Int) ≤ 12)) := rfl
  by_cases h0 : (s.size : Int) < 1
  · have HR := Lib.hid (show nameB s = false by unfold nameB; rw [hw, decide_eq_false (by omega)]; simp)
    clear hw
    have h0n : s.size < 1 := by omega
    go_enter Tryz.func82, Tryz.ntmps82
    go_wp2
    go_ret
    exact ⟨ret_bool HR.out.symm, rfl⟩
  · by_cases h1 : (12 : Int) < (s.size : Int)
    · have HR := Lib.hid (show nameB s = false by unfold nameB; rw [hw, decide_eq_false (show ¬ (s.size : Int) ≤ 12 by omega)]; simp)
      clear hw
      have h0d : decide ((s.size : Int) < 1) = false := decide_eq_false h0
      have h0n : ¬ s.size < 1 := by omega
      have h0m : ¬ s.size = 0 := by omega
      have h1n : 12 < s.size := by omega
      go_enter Tryz.func82, Tryz.ntmps82
      go_wp2
      go_ret
      exact ⟨ret_bool HR.out.symm, rfl⟩
    · have HW := Lib.hid (show withinB s.size 1 12 = true by rw [hw, decide_eq_true (show 1 ≤ (s.size : Int) by omega), decide_eq_true (show (s.size : Int) ≤ 12 by omega)]; rfl)
      clear hw
      have h0d : decide ((s.size : Int) < 1) = false := decide_eq_false h0
      have h1d : decide ((12 : Int) < (s.size : Int)) = false := decide_eq_false h1
      have h0n : ¬ s.size < 1 := by omega
      have h0m : ¬ s.size = 0 := by omega
      have h1n : ¬ 12 < s.size := by omega
      go_enter Tryz.func82, Tryz.ntmps82
      go_wp2
      clear h0d h1d h0n h0m h1n h0 h1
      go_loop [3] (fun i => ∃ k : Nat, k ≤ s.size ∧ i = .int .i64 k ∧ charsB s k = true) (fun i => s.size - (intOf i).toNat)
      case atStart => exact ⟨0, Nat.zero_le _, rfl, rfl⟩
      case round =>
        obtain ⟨k, hk, rfl, hf⟩ := hrel
        have HF := Lib.hid hf
        clear hf
        by_cases hlt : k < s.size
        · have hcell := index_byte s k hlt
          have hbd := byteAt_bd s k
          have hcase := char_cases k (byteAt s k) hbd.1 hbd.2
          have HS := Lib.hid (charsB_succ s k)
          generalize byteAt s k = c at *
          obtain ⟨hb0, hb1⟩ := hbd
          rcases hcase with ⟨hc, hcs⟩ | ⟨hc, hk1, hcs⟩ | ⟨hc, hk1, hcs⟩ | ⟨hc, hk1, hcs⟩
          · have HS2 := Lib.hid (show charsB s (k + 1) = true by rw [HS.out, HF.out, hc]; rfl)
            clear hc
            rcases hcs with ⟨h2, h3⟩ | ⟨h2, h3⟩
            all_goals
              go_wp2
              go_round
              case rel => exact ⟨k + 1, by omega, by go_num, HS2.out⟩
              case measure => simp [intOf]; omega
          · have HS2 := Lib.hid (show charsB s (k + 1) = true by rw [HS.out, HF.out, hc]; rfl)
            have hk0 : ((k : Int) == 0) = false := by simp; omega
            clear hc
            rcases hcs with rfl | ⟨h2, h3⟩
            · go_wp2
              go_round
              case rel => exact ⟨k + 1, by omega, by go_num, HS2.out⟩
              case measure => simp [intOf]; omega
            · have hne : (c != 45) = true := by rw [bne_iff_ne]; omega
              have g1 : decide (c ≤ 90) = true := decide_eq_true (by omega)
              have g2 : decide (65 ≤ c) = false := decide_eq_false (by omega)
              have g3 : decide (97 ≤ c) = false := decide_eq_false (by omega)
              have g4 : decide (c < 48) = false := decide_eq_false (by omega)
              have g5 : decide (57 < c) = false := decide_eq_false (by omega)
              go_wp2
              go_round
              case rel => exact ⟨k + 1, by omega, by go_num, HS2.out⟩
              case measure => simp [intOf]; omega
          · have HR := Lib.hid (show nameB s = false by
              unfold nameB
              rw [charsB_false (k := k + 1) (by rw [HS.out, HF.out, hc]; rfl) s.size hlt]
              rfl)
            have hk0 : ((k : Int) == 0) = true := by simp [hk1]
            clear hc hk1
            rcases hcs with h2 | ⟨h2, h3⟩ | h2
            all_goals
              try have g1 : decide (c ≤ 90) = false := decide_eq_false (by omega)
              try have g2 : decide (c ≤ 122) = false := decide_eq_false (by omega)
              go_wp2
              go_ret
              exact ⟨ret_bool HR.out.symm, rfl⟩
          · have HR := Lib.hid (show nameB s = false by
              unfold nameB
              rw [charsB_false (k := k + 1) (by rw [HS.out, HF.out, hc]; rfl) s.size hlt]
              rfl)
            have hk0 : ((k : Int) == 0) = false := by simp; omega
            have hne : (c != 45) = true := by rw [bne_iff_ne]; omega
            clear hc
            rcases hcs with h2 | ⟨h2, h3⟩ | ⟨h2, h3⟩ | ⟨h2, h3⟩ | h2
            all_goals
              try have g1 : decide (c ≤ 90) = false := decide_eq_false (by omega)
              try have g2 : decide (c ≤ 122) = false := decide_eq_false (by omega)
              try have g3 : decide (c < 48) = false := decide_eq_false (by omega)
              go_wp2
              go_ret
              exact ⟨ret_bool HR.out.symm, rfl⟩
        · have hke : k = s.size := by omega
          subst hke
          have HR := Lib.hid (show nameB s = true by unfold nameB; rw [HF.out, HW.out]; rfl)
          go_wp2
          go_ret
          exact ⟨ret_bool HR.out.symm, rfl⟩

end Go.Proofs.YtbojmcopagbheaaGreatDoor
end

section
namespace Go.Proofs.YtbojmcopagbheaaGreatDoor
open Go.RowKit

def nameAt (xs : List Lot) (i : Nat) : ByteArray := (xs.getD i default).name
def madeAt (xs : List Lot) (i : Nat) : List ByteArray := (xs.getD i default).made
/-- Lots are valid: no name twice, and what is made is there before. -/
def LotsOk (xs : List Lot) : Prop := xs.length ≤ 20 ∧ ∀ i, i < xs.length → goneB (fromV xs i) (nameAt xs i) = true ∧ (madeAt xs i).length ≤ 6 ∧ ∀ y ∈ madeAt xs i, goneB (fromV xs i) y = false

theorem lotsOk_of {xs : List Lot} (h : (openLotsV xs).2 = 0) : LotsOk xs := by
  unfold openLotsV at h
  by_cases hl : 20 < xs.length
  · rw [if_pos hl] at h; exact absurd h (by decide)
  · rw [if_neg hl] at h
    refine ⟨by omega, fun i hi => ?_⟩
    have hz : lotsE1 xs i = 0 := scan_zero h i hi
    unfold lotsE1 at hz
    obtain ⟨h1, h2⟩ := firstV_zero.1 hz
    obtain ⟨h3, h4⟩ := firstV_zero.1 h2
    have h5 := (unless_ne (by decide)).1 h3
    have h6 := (unless_ne (by decide)).1 (firstV_zero.1 h4).1
    refine ⟨h5, (lotE_made h1).1, fun y hy => ?_⟩
    have h7 : anyG (goneB (fromV xs i)) (xs.getD i default).made = false := by simpa using h6
    unfold anyG at h7
    rw [List.any_eq_false] at h7
    simpa using h7 y hy

theorem take_any {α : Type} (p : α → Bool) (xs : List α) (d : α) (i : Nat) (h : i < xs.length) : anyG p (xs.take (i + 1)) = (anyG p (xs.take i) || p (xs.getD i d)) := by
  unfold anyG
  have e : xs.getD i d = xs[i] := by simp [List.getD, h]
  rw [List.take_succ_eq_append_getElem h, List.any_append, e]
  simp
theorem any_at {α : Type} {p : α → Bool} {xs : List α} (d : α) {i : Nat} (hi : i ≤ xs.length) (h : anyG p (xs.take i) = true) : ∃ m, m < i ∧ p (xs.getD m d) = true := by
  unfold anyG at h
  rw [List.any_eq_true] at h
  obtain ⟨x, hx, hp⟩ := h
  obtain ⟨m, hm, rfl⟩ := List.getElem_of_mem hx
  simp only [List.length_take] at hm
  refine ⟨m, by omega, ?_⟩
  have e : xs.getD m d = xs[m]'(by omega) := by simp [List.getD, show m < xs.length by omega]
  rw [e]
  simpa using hp
theorem any_of {α : Type} {p : α → Bool} {xs : List α} (d : α) {i m : Nat} (hi : i ≤ xs.length) (hm : m < i) (h : p (xs.getD m d) = true) : anyG p (xs.take i) = true := by
  unfold anyG
  rw [List.any_eq_true]
  have e : xs.getD m d = xs[m]'(by omega) := by simp [List.getD, show m < xs.length by omega]
  rw [e] at h
  exact ⟨xs[m]'(by omega), List.mem_take_iff_getElem.2 ⟨m, by omega, rfl⟩, h⟩

theorem gone_take (xs : List Lot) : ∀ i, i ≤ xs.length → ∀ z, goneB (fromV xs i) z = !anyG (hasName z) (xs.take i)
  | 0, _, z => rfl
  | i + 1, hi, z => by
    rw [take_any (hasName z) xs default i (by omega), Bool.not_or, ← gone_take xs i (by omega) z]
    unfold goneB hasName
    show (if sameS z (xs.getD i default).name then some (ownV (fromV xs i) (xs.getD i default).made) else fromV xs i z).isNone = _
    rw [sameS_comm z]
    cases sameS (xs.getD i default).name z <;> simp

theorem gone_false {xs : List Lot} {i : Nat} {z : ByteArray} (hi : i ≤ xs.length) (h : goneB (fromV xs i) z = false) : ∃ m, m < i ∧ nameAt xs m = z := by
  rw [gone_take xs i hi z] at h
  obtain ⟨m, hm, hp⟩ := any_at default hi (by simpa using h)
  exact ⟨m, hm, sameS_iff.1 hp⟩
theorem gone_true {xs : List Lot} {i m : Nat} {z : ByteArray} (hi : i ≤ xs.length) (h : goneB (fromV xs i) z = true) (hm : m < i) : nameAt xs m ≠ z := fun e => by
  rw [gone_take xs i hi z, any_of default hi hm (show hasName z (xs.getD m default) = true from sameS_iff.2 e)] at h
  cases h

theorem name_inj {xs : List Lot} (ok : LotsOk xs) {i j : Nat} (hi : i < xs.length) (hj : j < xs.length) (h : nameAt xs i = nameAt xs j) : i = j := by
  rcases Nat.lt_trichotomy i j with h1 | h1 | h1
  · exact absurd h (gone_true (by omega) (ok.2 j hj).1 h1)
  · exact h1
  · exact absurd h.symm (gone_true (by omega) (ok.2 i hi).1 h1)

theorem findG_at {α : Type} {p : α → Bool} {xs : List α} (d : α) {m : Nat} (hm : m < xs.length) (hp : p (xs.getD m d) = true) (hno : ∀ j, j < m → p (xs.getD j d) = false) : ∀ q k, m - k = q → k ≤ m → findG p xs k = (m : Int)
  | 0, k, hq, hk => by
    obtain rfl : k = m := by omega
    rw [findG_step p xs k d hm, if_pos hp]
  | q + 1, k, hq, hk => by
    rw [findG_step p xs k d (by omega), if_neg (by rw [hno k (by omega)]; decide)]
    exact findG_at d hm hp hno q (k + 1) (by omega) (by omega)
theorem find_name {xs : List Lot} (ok : LotsOk xs) {m : Nat} (hm : m < xs.length) : findG (hasName (nameAt xs m)) xs 0 = (m : Int) :=
  findG_at default hm (sameS_iff.2 rfl) (fun j hj => by
    cases h : hasName (nameAt xs m) (xs.getD j default) with
    | false => rfl
    | true => exact absurd (name_inj ok (by omega) hm (sameS_iff.1 h)) (by omega)) m 0 (by omega) (by omega)

/-- Whether z is an ingredient of lot i. -/
def ingr (xs : List Lot) (i : Nat) (z : ByteArray) : Bool := ownV (fromV xs i) (madeAt xs i) z

theorem from_at {xs : List Lot} (ok : LotsOk xs) : ∀ k, k ≤ xs.length → ∀ i, i < k → fromV xs k (nameAt xs i) = some (ingr xs i)
  | 0, _, i, h => by omega
  | k + 1, hk, i, h => by
    show (if sameS (nameAt xs i) (xs.getD k default).name then some (ownV (fromV xs k) (xs.getD k default).made) else fromV xs k (nameAt xs i)) = _
    by_cases he : i = k
    · subst he
      have h1 : sameS (nameAt xs i) (xs.getD i default).name = true := sameS_self _
      rw [if_pos h1]
      rfl
    · have h1 : ¬ sameS (nameAt xs i) (xs.getD k default).name = true := fun e => he (name_inj ok (by omega) (by omega) (sameS_iff.1 e))
      rw [if_neg h1, from_at ok k (by omega) i (by omega)]
theorem inner_at {xs : List Lot} (ok : LotsOk xs) {k i : Nat} (hk : k ≤ xs.length) (hi : i < k) : innerOf (fromV xs k) (nameAt xs i) = ingr xs i := by
  unfold innerOf
  rw [from_at ok k hk i hi]
  rfl

theorem ownV_any (F : Fam) (made : List ByteArray) (z : ByteArray) : ownV F made z = made.any fun y => sameS z y || innerOf F y z := by
  have h : ∀ (made : List ByteArray) (a : ByteArray → Bool), made.foldl (fun own y z => own z || sameS z y || innerOf F y z) a z = (a z || made.any fun y => sameS z y || innerOf F y z) := by
    intro made
    induction made with
    | nil => intro a; simp
    | cons y l ih => intro a; rw [List.foldl_cons, ih, List.any_cons]; simp [Bool.or_assoc]
  unfold ownV
  rw [h]
  simp

theorem ingr_iff {xs : List Lot} (ok : LotsOk xs) {i : Nat} (hi : i < xs.length) (z : ByteArray) : ingr xs i z = true ↔ ∃ m, m < i ∧ nameAt xs m ∈ madeAt xs i ∧ (z = nameAt xs m ∨ ingr xs m z = true) := by
  unfold ingr
  rw [ownV_any, List.any_eq_true]
  constructor
  · rintro ⟨y, hy, h⟩
    obtain ⟨m, hm, rfl⟩ := gone_false (by omega) ((ok.2 i hi).2.2 y hy)
    refine ⟨m, hm, hy, ?_⟩
    rw [Bool.or_eq_true, sameS_iff, inner_at ok (by omega) hm] at h
    exact h
  · rintro ⟨m, hm, hy, h⟩
    refine ⟨nameAt xs m, hy, ?_⟩
    rw [Bool.or_eq_true, sameS_iff, inner_at ok (by omega) hm]
    exact h

/-- Whether lot j is an ingredient of lot i. -/
def ingD (xs : List Lot) (i j : Nat) : Bool := ingr xs i (nameAt xs j)

theorem ingD_iff {xs : List Lot} (ok : LotsOk xs) {i j : Nat} (hi : i < xs.length) (hj : j < xs.length) : ingD xs i j = true ↔ ∃ m, m < i ∧ nameAt xs m ∈ madeAt xs i ∧ (j = m ∨ ingD xs m j = true) := by
  unfold ingD
  rw [ingr_iff ok hi]
  constructor
  · rintro ⟨m, hm, hy, h | h⟩
    · exact ⟨m, hm, hy, .inl (name_inj ok hj (by omega) h)⟩
    · exact ⟨m, hm, hy, .inr h⟩
  · rintro ⟨m, hm, hy, h | h⟩
    · exact ⟨m, hm, hy, .inl (by rw [h])⟩
    · exact ⟨m, hm, hy, .inr h⟩
theorem ingD_made {xs : List Lot} (ok : LotsOk xs) {i j : Nat} (hi : i < xs.length) (hj : j < xs.length) (h : nameAt xs j ∈ madeAt xs i) : j < i ∧ ingD xs i j = true := by
  obtain ⟨m, hm, he⟩ := gone_false (by omega) ((ok.2 i hi).2.2 _ h)
  obtain rfl : m = j := name_inj ok (by omega) hj he
  exact ⟨hm, (ingD_iff ok hi hj).2 ⟨m, hm, h, .inl rfl⟩⟩
theorem ingD_lt {xs : List Lot} (ok : LotsOk xs) : ∀ i j, i < xs.length → j < xs.length → ingD xs i j = true → j < i := by
  intro i
  induction i using Nat.strongRecOn with
  | _ i ih =>
    intro j hi hj h
    obtain ⟨m, hm, _, h | h⟩ := (ingD_iff ok hi hj).1 h
    · omega
    · have := ih m hm j (by omega) hj h; omega
theorem ingD_trans {xs : List Lot} (ok : LotsOk xs) : ∀ a b c, a < xs.length → b < xs.length → c < xs.length → ingD xs a b = true → ingD xs b c = true → ingD xs a c = true := by
  intro a
  induction a using Nat.strongRecOn with
  | _ a ih =>
    intro b c ha hb hc h1 h2
    obtain ⟨m, hm, hy, h | h⟩ := (ingD_iff ok ha hb).1 h1
    · subst h
      exact (ingD_iff ok ha hc).2 ⟨b, hm, hy, .inr h2⟩
    · exact (ingD_iff ok ha hc).2 ⟨m, hm, hy, .inr (ih m hm b c (by omega) hb hc h h2)⟩

/-- The marks that the specification has set when the lots from i on have been looked at. -/
def Marks (xs : List Lot) (at_ i : Nat) (o : Nat → Bool) : Prop :=
  (∀ j, j < xs.length → o j = true → ingD xs at_ j = true) ∧ ∀ m, i ≤ m → m ≤ at_ → (m = at_ ∨ o m = true) → ∀ j, j < xs.length → nameAt xs j ∈ madeAt xs m → o j = true
def markV (xs : List Lot) (o : Nat → Bool) (ys : List ByteArray) : Nat → Bool := fun j => o j || ys.any fun y => sameS (nameAt xs j) y

theorem marks_start (xs : List Lot) (at_ : Nat) : Marks xs at_ (at_ + 1) fun _ => false := ⟨fun _ _ h => by simp at h, fun m h1 h2 => by omega⟩
theorem marks_skip {xs : List Lot} {at_ i : Nat} {o : Nat → Bool} (h : Marks xs at_ (i + 1) o) (hne : i ≠ at_) (ho : o i = false) : Marks xs at_ i o :=
  ⟨h.1, fun m h1 h2 h3 j hj hy => by
    by_cases he : m = i
    · subst he
      rcases h3 with h3 | h3
      · exact absurd h3 hne
      · rw [ho] at h3; cases h3
    · exact h.2 m (by omega) h2 h3 j hj hy⟩
theorem mark_iff {xs : List Lot} {o : Nat → Bool} {ys : List ByteArray} {j : Nat} : markV xs o ys j = true ↔ o j = true ∨ nameAt xs j ∈ ys := by
  unfold markV
  rw [Bool.or_eq_true, List.any_eq_true]
  constructor
  · rintro (h | ⟨y, hy, h⟩)
    · exact .inl h
    · exact .inr (by rw [sameS_iff.1 h]; exact hy)
  · rintro (h | h)
    · exact .inl h
    · exact .inr ⟨_, h, sameS_self _⟩
theorem marks_step {xs : List Lot} (ok : LotsOk xs) {at_ i : Nat} {o : Nat → Bool} (hat : at_ < xs.length) (hi : i ≤ at_) (h : Marks xs at_ (i + 1) o) (ho : i = at_ ∨ o i = true) : Marks xs at_ i (markV xs o (madeAt xs i)) := by
  refine ⟨fun j hj hm => ?_, fun m h1 h2 h3 j hj hy => ?_⟩
  · rcases mark_iff.1 hm with h1 | h1
    · exact h.1 j hj h1
    · have h2 := (ingD_made ok (by omega) hj h1).2
      rcases ho with rfl | ho
      · exact h2
      · exact ingD_trans ok at_ i j hat (by omega) hj (h.1 i (by omega) ho) h2
  · rw [mark_iff]
    by_cases he : m = i
    · subst he
      exact .inr hy
    · refine .inl (h.2 m (by omega) h2 ?_ j hj hy)
      rcases h3 with h3 | h3
      · exact .inl h3
      · rcases mark_iff.1 h3 with h4 | h4
        · exact .inr h4
        · have := (ingD_made ok (show i < xs.length by omega) (show m < xs.length by omega) h4).1; omega
theorem marks_end {xs : List Lot} (ok : LotsOk xs) {at_ : Nat} {o : Nat → Bool} (hat : at_ < xs.length) (h : Marks xs at_ 0 o) {j : Nat} (hj : j < xs.length) : o j = ingD xs at_ j := by
  rw [Bool.eq_iff_iff]
  refine ⟨h.1 j hj, ?_⟩
  have hall : ∀ m, m ≤ at_ → (m = at_ ∨ o m = true) → ingD xs m j = true → o j = true := by
    intro m
    induction m using Nat.strongRecOn with
    | _ m ih =>
      intro hm ho hd
      obtain ⟨q, hq, hy, h1⟩ := (ingD_iff ok (by omega) hj).1 hd
      have h2 := h.2 m (by omega) hm ho q (by omega) hy
      rcases h1 with rfl | h1
      · exact h2
      · exact ih q hq (by omega) (.inr h2) h1
  exact hall at_ (Nat.le_refl _) (.inl rfl)

/-- Which lots are ingredients of lot i. -/
def inV (xs : List Lot) (i : Nat) : List Bool := (List.range xs.length).map (ingD xs i)
/-- Whether one of the first k lots is an ingredient of lot i and not surely accepted, or lot i is not. -/
def suspK (xs : List Lot) (i k : Nat) : Bool := badB (xs.getD i default) || (List.range k).any fun q => ingD xs i q && badB (xs.getD q default)
theorem suspK_succ (xs : List Lot) (i k : Nat) : suspK xs i (k + 1) = (suspK xs i k || (ingD xs i k && badB (xs.getD k default))) := by
  unfold suspK
  rw [List.range_succ, List.any_append]
  simp [Bool.or_assoc]

theorem mem_namesV {p : Lot → Bool} {xs : List Lot} {z : ByteArray} : z ∈ namesV p xs ↔ ∃ k, k < xs.length ∧ p (xs.getD k default) = true ∧ nameAt xs k = z := by
  unfold namesV
  rw [List.mem_map]
  constructor
  · rintro ⟨x, hx, rfl⟩
    obtain ⟨hx1, hx2⟩ := List.mem_filter.1 hx
    obtain ⟨k, hk, rfl⟩ := List.getElem_of_mem hx1
    have e : xs.getD k default = xs[k] := by simp [List.getD, hk]
    exact ⟨k, hk, by rw [e]; exact hx2, by unfold nameAt; rw [e]⟩
  · rintro ⟨k, hk, hp, rfl⟩
    have e : xs.getD k default = xs[k] := by simp [List.getD, hk]
    exact ⟨xs.getD k default, List.mem_filter.2 ⟨by rw [e]; exact List.getElem_mem hk, hp⟩, rfl⟩

theorem susp_at {xs : List Lot} (ok : LotsOk xs) {i : Nat} (hi : i < xs.length) : suspB (fromV xs xs.length) (namesV badB xs) (xs.getD i default) = suspK xs i xs.length := by
  rw [Bool.eq_iff_iff]
  unfold suspB anyG suspK
  rw [List.any_eq_true, Bool.or_eq_true, List.any_eq_true]
  have hin : innerOf (fromV xs xs.length) (xs.getD i default).name = ingr xs i := inner_at ok (Nat.le_refl _) hi
  constructor
  · rintro ⟨z, hz, ht⟩
    obtain ⟨k, hk, hb, rfl⟩ := mem_namesV.1 hz
    unfold touchB at ht
    rw [Bool.or_eq_true, hin, sameS_iff] at ht
    rcases ht with ht | ht
    · obtain rfl := name_inj ok hk hi ht
      exact .inl hb
    · exact .inr ⟨k, List.mem_range.2 hk, by rw [Bool.and_eq_true]; exact ⟨ht, hb⟩⟩
  · rintro (hb | ⟨k, hk, h⟩)
    · exact ⟨nameAt xs i, mem_namesV.2 ⟨i, hi, hb, rfl⟩, by unfold touchB; rw [sameS_iff.2 (show nameAt xs i = (xs.getD i default).name from rfl)]; rfl⟩
    · rw [Bool.and_eq_true] at h
      have hk' := List.mem_range.1 hk
      refine ⟨nameAt xs k, mem_namesV.2 ⟨k, hk', h.2, rfl⟩, ?_⟩
      unfold touchB
      rw [hin, show ingr xs i (nameAt xs k) = true from h.1]
      simp

/-- The names of the first i lots for which a condition by index holds. -/
def pickV (p : Nat → Bool) (xs : List Lot) : Nat → List ByteArray
  | 0 => []
  | i + 1 => pickV p xs i ++ if p i then [nameAt xs i] else []
theorem pick_names {p : Lot → Bool} {q : Nat → Bool} {xs : List Lot} (h : ∀ i, i < xs.length → p (xs.getD i default) = q i) : ∀ i, i ≤ xs.length → pickV q xs i = namesV p (xs.take i)
  | 0, _ => rfl
  | i + 1, hi => by
    rw [namesV_succ p xs i (by omega), ← pick_names h i (by omega), h i (by omega)]
    rfl
theorem pick_all {p : Lot → Bool} {q : Nat → Bool} {xs : List Lot} (h : ∀ i, i < xs.length → p (xs.getD i default) = q i) : pickV q xs xs.length = namesV p xs := by
  rw [pick_names h xs.length (Nat.le_refl _), List.take_length]
theorem pick_len (p : Nat → Bool) (xs : List Lot) : ∀ i, (pickV p xs i).length ≤ i
  | 0 => Nat.le_refl _
  | i + 1 => by
    show (pickV p xs i ++ if p i then [nameAt xs i] else []).length ≤ i + 1
    have := pick_len p xs i
    rw [List.length_append]
    split <;> simp <;> omega
theorem suspects_pick {xs : List Lot} (ok : LotsOk xs) : pickV (fun i => suspK xs i xs.length) xs xs.length = suspectsV xs :=
  pick_all fun _ hi => susp_at ok hi

/-- A row of marks, as cells. -/
def marksC (n : Nat) (o : Nat → Bool) : Array Value := ((List.range n).map fun j => Value.bool (o j)).toArray
theorem marks_at {n : Nat} {o : Nat → Bool} {j : Nat} (h : j < n) : (marksC n o)[j]? = some (.bool (o j)) := by
  unfold marksC
  simp [h]
theorem marks_set {n : Nat} {o : Nat → Bool} {m : Nat} : (marksC n o).setIfInBounds m (.bool true) = marksC n fun j => o j || j == m := by
  unfold marksC
  apply Array.ext
  · simp
  · intro j h1 h2
    simp only [List.setIfInBounds_toArray, List.getElem_toArray, List.getElem_set, List.getElem_map, List.getElem_range]
    by_cases he : m = j
    · subst he; simp
    · have : (j == m) = false := by simpa using fun e => he e.symm
      simp [he, this]
theorem marksC_ext {n : Nat} {o o2 : Nat → Bool} (h : ∀ j, j < n → o j = o2 j) : marksC n o = marksC n o2 := by
  unfold marksC
  congr 1
  apply List.map_congr_left
  intro j hj
  rw [h j (List.mem_range.1 hj)]
theorem marks_one {xs : List Lot} (ok : LotsOk xs) {o : Nat → Bool} {ys : List ByteArray} {k m : Nat} (hk : k < ys.length) (hm : m < xs.length) (he : nameAt xs m = ys.getD k default) {j : Nat} (hj : j < xs.length) : markV xs o (ys.take (k + 1)) j = (markV xs o (ys.take k) j || j == m) := by
  unfold markV
  have h := take_any (fun y => sameS (nameAt xs j) y) ys default k hk
  unfold anyG at h
  rw [h, ← he, Bool.or_assoc]
  congr 2
  rw [Bool.eq_iff_iff, sameS_iff, beq_iff_eq]
  exact ⟨fun e => name_inj ok hj hm e, fun e => by rw [e]⟩

end Go.Proofs.YtbojmcopagbheaaGreatDoor
end
