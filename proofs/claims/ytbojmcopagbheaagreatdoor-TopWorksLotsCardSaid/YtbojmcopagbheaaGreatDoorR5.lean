/- Contracts: base.HasText, base.CopyTexts; the specification's Find and rangeErr. Lengths at most 1000.
Plain law: of valid lots, the ingredients of each as sets and by index. No program.
Plain law: lots traced after their limits were turned: with limits that accept everything nothing is suspect; one lot that is surely refused makes itself and its products suspect, and nothing else. No program is in sight.
Contracts: the specification's CopyLot and CopyLots: lots in memory of their own. Lengths at most 1000.
Contract: the specification's CopyLots: lots in memory of their own. Lengths at most 1000. -/
import Derived.Test.YtbojmcopagbheaaGreatDoorZDSets
import Derived.Test.YtbojmcopagbheaaGreatDoorZTRefStack
import Derived.Test.YtbojmcopagbheaaGreatDoorLOpen
import Derived.Test.YtbojmcopagbheaaGreatDoorZFSusp
import Derived.Test.YtbojmcopagbheaaGreatDoorZEOpenLots

section
namespace Go.Proofs.YtbojmcopagbheaaGreatDoor
open Go.RowKit

def hasT (xs : List ByteArray) (x : ByteArray) : Bool := anyG (sameS x) xs
theorem anyG_step {α : Type} (p : α → Bool) (xs : List α) (k : Nat) (d : α) (h : k < xs.length) : anyG p (xs.drop k) = if p (xs.getD k d) = true then true else anyG p (xs.drop (k + 1)) := by
  have e : xs.getD k d = xs[k] := by simp [List.getD, h]
  rw [List.drop_eq_getElem_cons h, e]
  unfold anyG
  rw [List.any_cons]
  cases p xs[k] <;> simp

set_option maxHeartbeats 400000 in
theorem baseHasText_any (B : Nat) (A : Option Addr) (n c : Nat) (xs : List ByteArray) (x : ByteArray) (w : World) (hr : RowIn Value.string B w A xs) (hn : xs.length = n) (hm : n ≤ 100000) :
    Calls Tryz.prog 31 #[.slice A n c, .string x] w fun e w' => e = .returned (.bool (hasT xs x)) ∧ w = w' := by
  subst hn
  have HD := Lib.hid (show hasT xs x = anyG (sameS x) xs from rfl)
  generalize hasT xs x = V at *
  go_enter Tryz.func31, Tryz.ntmps31
  go_wp2
  go_loop [5] (fun i => ∃ k : Nat, k ≤ xs.length ∧ i = .int .i64 k ∧ V = anyG (sameS x) (xs.drop k)) (fun i => xs.length - (intOf i).toNat)
  case atStart => exact ⟨0, Nat.zero_le _, rfl, HD.out⟩
  case round =>
    obtain ⟨k, hk, rfl, hf⟩ := hrel
    by_cases hlt : k < xs.length
    · obtain ⟨b, off, rfl, hb, hc⟩ := hr.at_ hlt
      have hcell := hc k hlt
      have HF := Lib.hid (hf.trans (anyG_step (sameS x) xs k default hlt))
      clear hc hf hr
      generalize xs.getD k default = y at *
      have hs : sameS x y = (y.toList == x.toList) := by rw [sameS_comm]; exact sameS_list y x
      cases hxy : sameS x y with
      | true =>
        have HX := Lib.hid hxy
        have hb : (y.toList == x.toList) = true := by rw [← hs]; exact hxy
        clear hs hxy
        go_wp2
        go_ret
        exact ⟨ret_bool (by rw [HF.out, HX.out]; simp), rfl⟩
      | false =>
        have HX := Lib.hid hxy
        have hb : (y.toList == x.toList) = false := by rw [← hs]; exact hxy
        clear hs hxy
        go_wp2
        go_round
        case rel => exact ⟨k + 1, by omega, by go_num, by rw [HF.out, HX.out]; simp⟩
        case measure => simp [intOf]; omega
    · have HF := Lib.hid (show V = false by
        rw [hf, List.drop_eq_nil_of_le (by omega)]
        rfl)
      clear hf
      go_wp2
      go_ret
      exact ⟨ret_bool HF.out.symm, rfl⟩

/-- From A on lie the strings xs, in a block of strings. -/
def TextRow (w : World) (A : Option Addr) (xs : List ByteArray) : Prop :=
  xs = [] ∨ ∃ b off, A = some ⟨b, off, none⟩ ∧ (∃ (cs : Array Value) (fz : Nat × Nat), w.heap[b]? = some (Obj.cells cs 9 fz)) ∧ ∀ j, j < xs.length → w.cell? ⟨b, off + j, none⟩ = some (.string (xs.getD j default))
section
variable {w w' : World} {A : Option Addr} {xs : List ByteArray}
theorem TextRow.same (h : TextRow w A xs) (hk : ∀ (b : Nat) (cs : Array Value) (fz : Nat × Nat), w.heap[b]? = some (Obj.cells cs 9 fz) → w'.heap[b]? = w.heap[b]?) : TextRow w' A xs := by
  rcases h with h | ⟨b, off, hA, ⟨cs, fz, ht⟩, hc⟩
  · exact .inl h
  · exact .inr ⟨b, off, hA, ⟨cs, fz, (hk b cs fz ht).trans ht⟩, fun j hj => (World.cell?_of_block (hk b cs fz ht)).trans (hc j hj)⟩
theorem TextRow.row (h : TextRow w A xs) : RowIn Value.string w.heap.size w A xs := by
  rcases h with h | ⟨b, off, hA, ⟨cs, fz, ht⟩, hc⟩
  · exact .inl h
  · exact .inr ⟨b, off, hA, (Array.getElem?_eq_some_iff.1 ht).1, hc⟩
theorem TextRow.kept_below (hb : Below w.heap.size w w') : ∀ (b : Nat) (cs : Array Value) (fz : Nat × Nat), w.heap[b]? = some (Obj.cells cs 9 fz) → w'.heap[b]? = w.heap[b]? :=
  fun b _ _ ht => hb.block b (Array.getElem?_eq_some_iff.1 ht).1
theorem TextRow.past (h : TextRow w A xs) (hb : Below w.heap.size w w') : TextRow w' A xs := h.same (TextRow.kept_below hb)
theorem TextRow.kept_rows {base : Nat} {e : TypeId} {size n : Nat} {v : Value} {cs : List Value} (ho : w.ownsRow base e size v n cs) (hne : e ≠ 9) (hg : w.grownBy w' v.ownBlock) :
    ∀ (b : Nat) (cs : Array Value) (fz : Nat × Nat), w.heap[b]? = some (Obj.cells cs 9 fz) → w'.heap[b]? = w.heap[b]? := fun b cs fz ht => hg.block b (Array.getElem?_eq_some_iff.1 ht).1 fun he => by
  rcases ho.2 with ⟨h1, _⟩ | ⟨g, cap, cur, h1, _, hh, _⟩
  · rw [h1] at he; cases he
  · rw [h1] at he
    have : b = g := by simpa [Value.ownBlock] using he
    subst this
    rw [hh] at ht
    injection ht with ht
    injection ht with _ ht
    exact hne ht
theorem textRow_of_own {base n c : Nat} (h : w.ownsRow base 9 1 (.slice A n c) n (xs.map Value.string)) : TextRow w A xs := by
  have hi := rowS_of_own h
  rcases h.2 with ⟨h1, h2⟩ | ⟨g, cap, cur, hv, _, hh, _⟩
  · refine .inl ?_
    have := h.1
    rw [h2] at this
    simpa using this
  · injection hv with hA _ _
    rcases hi with h | ⟨b, off, hA2, hb, hc⟩
    · exact .inl h
    · rw [hA] at hA2
      injection hA2 with hA2
      injection hA2 with e1 e2 _
      subst e1 e2
      exact .inr ⟨g, 0, hA, ⟨cur, (0, 0), hh⟩, hc⟩
theorem RowIn.strs {B : Nat} (h : RowIn Value.string B w A xs) : CellsIn B w A (xs.map Value.string) := by
  rcases h with h | ⟨b, off, hA, hb, hc⟩
  · exact .inl (by simp [h])
  · exact .inr ⟨b, off, hA, hb, fun j hj => by
      have hj' : j < xs.length := by simpa using hj
      rw [hc j hj']
      simp [List.getD, hj']⟩
end

/-- A row of strings of the callee's own. -/
def TextRet (w : World) (xs : List ByteArray) (e : Ending) (w' : World) : Prop :=
  ∃ A c, e = .returned (.slice A xs.length c) ∧ TextRow w' A xs ∧ xs.length ≤ c ∧ Below w.heap.size w w'

set_option maxRecDepth 100000 in
set_option maxHeartbeats 400000 in
theorem copyTexts_any (B : Nat) (A : Option Addr) (n c : Nat) (xs : List ByteArray) (w : World) (hr : RowIn Value.string B w A xs) (hn : xs.length = n) (hB : B ≤ w.heap.size) (hm : n ≤ 1000) :
    Calls Tryz.prog 66 #[.slice A n c] w (TextRet w xs) := by
  obtain ⟨i0, hi0, hz0, hz1, hz2⟩ := info_parts string_info
  have HR := Lib.hid hr.strs
  have HN := Lib.hid hn
  clear hr hn
  go_enter Tryz.func66, Tryz.ntmps66
  have own0 : (w.alloc (.cells #[] 9)).ownsRow w.heap.size 9 1 (.slice (some ⟨w.heap.size, 0, none⟩) 0 0) 0 [] := World.ownsRow_lit w #[] 0 (Nat.le_refl _) (Nat.zero_le _) rfl
  have hcl : CellsIn B (w.alloc (.cells #[] 9)) A (List.map Value.string xs) := HR.out.below ((pa (Below.refl _ w)).mono hB)
  have hone : ∀ u ∈ List.map Value.string xs, u.oneCell' = true := by simp [Value.oneCell']
  have hlen : (List.map Value.string xs).length = n * 1 := by simp [HN.out]
  have hmx : 0 + n ≤ maxLen := by simp only [maxLen]; omega
  have HO := Lib.hid own0
  have HC := Lib.hid hcl
  have H1 := Lib.hid hone
  have HL := Lib.hid hlen
  have HM := Lib.hid hmx
  clear own0 hcl hone hlen hmx
  go_wp2_with (at_builtin; go_must (refine wpList_append_cells _ rfl (.tmp 3) (.tmp 4) _ rfl w.heap.size 9 i0 _ 1 16 Tryz.underlying56 hi0 hz0 hz1 hz2 rfl (by omega) (.slice (some ⟨w.heap.size, 0, none⟩) 0 0) 0 [] rfl HO.out B A n c _ rfl HC.out HL.out H1.out HM.out (by omega) (by simp) ?_); intro v1 w1 hown1 hg1 hat1)
  have HG := Lib.hid (pg (pa pr) HO.out (Nat.le_refl _) hg1)
  clear hg1
  rw [Nat.zero_add, List.nil_append] at hown1
  obtain ⟨A1, c1, rfl, hc1, _⟩ := own_form hown1
  have HT := Lib.hid (textRow_of_own hown1)
  clear hown1
  go_ret
  exact ⟨A1, c1, by rw [HN.out]; rfl, HT.out, by rw [HN.out]; exact hc1, HG.out⟩

/-- Whether a lot has a name. -/
def hasName (z : ByteArray) (x : Lot) : Bool := sameS x.name z

set_option maxHeartbeats 1000000 in
set_option maxRecDepth 100000 in
theorem refFind_any (B : Nat) (xs : List Lot) (A : Option Addr) (n c : Nat) (z : ByteArray) (w : World) (hr : LotsIn B w A xs) (hn : xs.length = n) (hm : n ≤ 1000) :
    Calls Tryz.prog 102 #[.slice A n c, .string z] w fun e w' => e = .returned (.int .i64 (findG (hasName z) xs 0)) ∧ w = w' := by
  subst hn
  have HD := Lib.hid (rfl : findG (hasName z) xs 0 = findG (hasName z) xs 0)
  generalize hV : findG (hasName z) xs 0 = V at HD ⊢
  have HV := Lib.hid hV
  clear hV
  go_enter Tryz.func102, Tryz.ntmps102
  go_wp2
  go_loop [5] (fun i => ∃ k : Nat, k ≤ xs.length ∧ i = .int .i64 k ∧ V = findG (hasName z) xs k) (fun i => xs.length - (intOf i).toNat)
  case atStart => exact ⟨0, Nat.zero_le _, rfl, HV.out.symm⟩
  case round =>
    obtain ⟨k, hk, rfl, hf⟩ := hrel
    by_cases hlt : k < xs.length
    · obtain ⟨b, off, rfl, hb, hc⟩ := hr.at_ hlt
      have hcell := (hc k hlt).1
      have HF := Lib.hid (hf.trans (findG_step (hasName z) xs k default hlt))
      have n0 : (0 : Int) ≤ (k : Int) := by omega
      have n1 : (k : Int) < (xs.length : Int) := by omega
      clear hc hf hr
      generalize xs.getD k default = y at *
      have hs : hasName z y = (y.name.toList == z.toList) := sameS_list y.name z
      cases hxy : hasName z y with
      | true =>
        have HX := Lib.hid hxy
        have hb : (y.name.toList == z.toList) = true := by rw [← hs]; exact hxy
        clear hs hxy
        go_wp2
        go_ret
        exact ⟨ret_int (by rw [HF.out, HX.out]; simp), rfl⟩
      | false =>
        have HX := Lib.hid hxy
        have hb : (y.name.toList == z.toList) = false := by rw [← hs]; exact hxy
        clear hs hxy
        go_wp2
        go_round
        case rel => exact ⟨k + 1, by omega, by go_num, by rw [HF.out, HX.out]; simp⟩
        case measure => simp [intOf]; omega
    · have HF := Lib.hid (show V = -1 by rw [hf]; exact findG_end _ _ _ (by omega))
      clear hf
      go_wp2
      go_ret
      exact ⟨ret_int HF.out.symm, rfl⟩

set_option maxHeartbeats 1000000 in
theorem refRange_any (lo hi : Int) (w : World) :
    Calls Tryz.prog 83 #[.agg #[.int .i64 lo, .int .i64 hi]] w fun e w' => e = .returned (.int .i64 (rangeErrV valueB lo hi)) ∧ Below w.heap.size w w' := by
  have hc := rangeErrV_cases valueB lo hi
  generalize rangeErrV valueB lo hi = R at *
  unfold valueB at hc
  rcases hc with ⟨h1, rfl⟩ | ⟨h1, h2, rfl⟩ | ⟨h1, h2, h3, rfl⟩ | ⟨h1, h2, h3, rfl⟩
  all_goals
    go_enter Tryz.func83, Tryz.ntmps83
    go_wp2_with (go_at_call 8; refine (baseWithin_any _ _ _ _).mono ?_; rintro e w' ⟨rfl, rfl⟩)
    go_ret
    exact ⟨rfl, pa pr⟩

theorem index_byte (s : ByteArray) (k : Nat) (hk : k < s.size) (w : World) : (Instr.index 9 (.string s) (.int .i64 (k : Int))).run Tryz.prog w = .ok (.int .u8 (byteAt s k)) w := by
  rw [run_index_string w 9 s .i64 (k : Int) Tryz.underlying9, dif_pos ⟨by omega, by omega⟩]
  have e : ((k : Int)).toNat = k := by omega
  have hb : k < s.data.size := hk
  simp only [e, byteAt]
  congr 3
  show (s.data[k]'hb).toNat = (s.data.getD k 0).toNat
  rw [Array.getD, dif_pos hb]
  rfl

set_option maxHeartbeats 1000000 in
set_option maxRecDepth 100000 in
theorem baseIsName_any (s : ByteArray) (w : World) (hs : s.size ≤ 1000) :
    Calls Tryz.prog 82 #[.string s] w fun e w' => e = .returned (.bool (nameB s)) ∧ w = w' := by
  have hw : withinB s.size 1 12 = (decide (1 ≤ (s.size : Int)) && decide ((s.size : Int) ≤ 12)) := rfl
  by_cases h0 : (s.size : Int) < 1
  · have HR := Lib.hid (show nameB s = false by unfold nameB; rw [hw, decide_eq_false (by omega)]; simp)
    clear hw
    have h0n : s.size < 1 := by omega
    go_enter Tryz.func82, Tryz.ntmps82
    go_wp2
    go_ret
    exact ⟨ret_bool HR.out.symm, rfl⟩
  · by_cases h1 : (12 : Int) < (s.size : Int)
    · have HR := Lib.hid (show nameB s = false by unfold nameB; rw [hw, decide_eq_false (show ¬ (s.size : Int) ≤ 12 by omega)]; simp)
      clear hw
      have h0d : decide ((s.size : Int) < 1) = false := decide_eq_false h0
      have h0n : ¬ s.size < 1 := by omega
      have h0m : ¬ s.size = 0 := by omega
      have h1n : 12 < s.size := by omega
      go_enter Tryz.func82, Tryz.ntmps82
      go_wp2
      go_ret
      exact ⟨ret_bool HR.out.symm, rfl⟩
    · have HW := Lib.hid (show withinB s.size 1 12 = true by rw [hw, decide_eq_true (show 1 ≤ (s.size : Int) by omega), decide_eq_true (show (s.size : Int) ≤ 12 by omega)]; rfl)
      clear hw
      have h0d : decide ((s.size : Int) < 1) = false := decide_eq_false h0
      have h1d : decide ((12 : Int) < (s.size : Int)) = false := decide_eq_false h1
      have h0n : ¬ s.size < 1 := by omega
      have h0m : ¬ s.size = 0 := by omega
      have h1n : ¬ 12 < s.size := by omega
      go_enter Tryz.func82, Tryz.ntmps82
      go_wp2
      clear h0d h1d h0n h0m h1n h0 h1
      go_loop [3] (fun i => ∃ k : Nat, k ≤ s.size ∧ i = .int .i64 k ∧ charsB s k = true) (fun i => s.size - (intOf i).toNat)
      case atStart => exact ⟨0, Nat.zero_le _, rfl, rfl⟩
      case round =>
        obtain ⟨k, hk, rfl, hf⟩ := hrel
        have HF := Lib.hid hf
        clear hf
        by_cases hlt : k < s.size
        · have hcell := index_byte s k hlt
          have hbd := byteAt_bd s k
          have hcase := char_cases k (byteAt s k) hbd.1 hbd.2
          have HS := Lib.hid (charsB_succ s k)
          generalize byteAt s k = c at *
          obtain ⟨hb0, hb1⟩ := hbd
          rcases hcase with ⟨hc, hcs⟩ | ⟨hc, hk1, hcs⟩ | ⟨hc, hk1, hcs⟩ | ⟨hc, hk1, hcs⟩
          · have HS2 := Lib.hid (show charsB s (k + 1) = true by rw [HS.out, HF.out, hc]; rfl)
            clear hc
            rcases hcs with ⟨h2, h3⟩ | ⟨h2, h3⟩
            all_goals
              go_wp2
              go_round
              case rel => exact ⟨k + 1, by omega, by go_num, HS2.out⟩
              case measure => simp [intOf]; omega
          · have HS2 := Lib.hid (show charsB s (k + 1) = true by rw [HS.out, HF.out, hc]; rfl)
            have hk0 : ((k : Int) == 0) = false := by simp; omega
            clear hc
            rcases hcs with rfl | ⟨h2, h3⟩
            · go_wp2
              go_round
              case rel => exact ⟨k + 1, by omega, by go_num, HS2.out⟩
              case measure => simp [intOf]; omega
            · have hne : (c != 45) = true := by rw [bne_iff_ne]; omega
              have g1 : decide (c ≤ 90) = true := decide_eq_true (by omega)
              have g2 : decide (65 ≤ c) = false := decide_eq_false (by omega)
              have g3 : decide (97 ≤ c) = false := decide_eq_false (by omega)
              have g4 : decide (c < 48) = false := decide_eq_false (by omega)
              have g5 : decide (57 < c) = false := decide_eq_false (by omega)
              go_wp2
              go_round
              case rel => exact ⟨k + 1, by omega, by go_num, HS2.out⟩
              case measure => simp [intOf]; omega
          · have HR := Lib.hid (show nameB s = false by
              unfold nameB
              rw [charsB_false (k := k + 1) (by rw [HS.out, HF.out, hc]; rfl) s.size hlt]
              rfl)
            have hk0 : ((k : Int) == 0) = true := by simp [hk1]
            clear hc hk1
            rcases hcs with h2 | ⟨h2, h3⟩ | h2
            all_goals
              try have g1 : decide (c ≤ 90) = false := decide_eq_false (by omega)
              try have g2 : decide (c ≤ 122) = false := decide_eq_false (by omega)
              go_wp2
              go_ret
              exact ⟨ret_bool HR.out.symm, rfl⟩
          · have HR := Lib.hid (show nameB s = false by
              unfold nameB
              rw [charsB_false (k := k + 1) (by rw [HS.out, HF.out, hc]; rfl) s.size hlt]
              rfl)
            have hk0 : ((k : Int) == 0) = false := by simp; omega
            have hne : (c != 45) = true := by rw [bne_iff_ne]; omega
            clear hc
            rcases hcs with h2 | ⟨h2, h3⟩ | ⟨h2, h3⟩ | ⟨h2, h3⟩ | h2
            all_goals
              try have g1 : decide (c ≤ 90) = false := decide_eq_false (by omega)
              try have g2 : decide (c ≤ 122) = false := decide_eq_false (by omega)
              try have g3 : decide (c < 48) = false := decide_eq_false (by omega)
              go_wp2
              go_ret
              exact ⟨ret_bool HR.out.symm, rfl⟩
        · have hke : k = s.size := by omega
          subst hke
          have HR := Lib.hid (show nameB s = true by unfold nameB; rw [HF.out, HW.out]; rfl)
          go_wp2
          go_ret
          exact ⟨ret_bool HR.out.symm, rfl⟩

end Go.Proofs.YtbojmcopagbheaaGreatDoor
end

section
namespace Go.Proofs.YtbojmcopagbheaaGreatDoor
open Go.RowKit

def nameAt (xs : List Lot) (i : Nat) : ByteArray := (xs.getD i default).name
def madeAt (xs : List Lot) (i : Nat) : List ByteArray := (xs.getD i default).made
/-- Lots are valid: no name twice, and what is made is there before. -/
def LotsOk (xs : List Lot) : Prop := xs.length ≤ 20 ∧ ∀ i, i < xs.length → goneB (fromV xs i) (nameAt xs i) = true ∧ (madeAt xs i).length ≤ 6 ∧ ∀ y ∈ madeAt xs i, goneB (fromV xs i) y = false

theorem lotsOk_of {xs : List Lot} (h : (openLotsV xs).2 = 0) : LotsOk xs := by
  unfold openLotsV at h
  by_cases hl : 20 < xs.length
  · rw [if_pos hl] at h; exact absurd h (by decide)
  · rw [if_neg hl] at h
    refine ⟨by omega, fun i hi => ?_⟩
    have hz : lotsE1 xs i = 0 := scan_zero h i hi
    unfold lotsE1 at hz
    obtain ⟨h1, h2⟩ := firstV_zero.1 hz
    obtain ⟨h3, h4⟩ := firstV_zero.1 h2
    have h5 := (unless_ne (by decide)).1 h3
    have h6 := (unless_ne (by decide)).1 (firstV_zero.1 h4).1
    refine ⟨h5, (lotE_made h1).1, fun y hy => ?_⟩
    have h7 : anyG (goneB (fromV xs i)) (xs.getD i default).made = false := by simpa using h6
    unfold anyG at h7
    rw [List.any_eq_false] at h7
    simpa using h7 y hy

theorem take_any {α : Type} (p : α → Bool) (xs : List α) (d : α) (i : Nat) (h : i < xs.length) : anyG p (xs.take (i + 1)) = (anyG p (xs.take i) || p (xs.getD i d)) := by
  unfold anyG
  have e : xs.getD i d = xs[i] := by simp [List.getD, h]
  rw [List.take_succ_eq_append_getElem h, List.any_append, e]
  simp
theorem any_at {α : Type} {p : α → Bool} {xs : List α} (d : α) {i : Nat} (hi : i ≤ xs.length) (h : anyG p (xs.take i) = true) : ∃ m, m < i ∧ p (xs.getD m d) = true := by
  unfold anyG at h
  rw [List.any_eq_true] at h
  obtain ⟨x, hx, hp⟩ := h
  obtain ⟨m, hm, rfl⟩ := List.getElem_of_mem hx
  simp only [List.length_take] at hm
  refine ⟨m, by omega, ?_⟩
  have e : xs.getD m d = xs[m]'(by omega) := by simp [List.getD, show m < xs.length by omega]
  rw [e]
  simpa using hp
theorem any_of {α : Type} {p : α → Bool} {xs : List α} (d : α) {i m : Nat} (hi : i ≤ xs.length) (hm : m < i) (h : p (xs.getD m d) = true) : anyG p (xs.take i) = true := by
  unfold anyG
  rw [List.any_eq_true]
  have e : xs.getD m d = xs[m]'(by omega) := by simp [List.getD, show m < xs.length by omega]
  rw [e] at h
  exact ⟨xs[m]'(by omega), List.mem_take_iff_getElem.2 ⟨m, by omega, rfl⟩, h⟩

theorem gone_take (xs : List Lot) : ∀ i, i ≤ xs.length → ∀ z, goneB (fromV xs i) z = !anyG (hasName z) (xs.take i)
  | 0, _, z => rfl
  | i + 1, hi, z => by
    rw [take_any (hasName z) xs default i (by omega), Bool.not_or, ← gone_take xs i (by omega) z]
    unfold goneB hasName
    show (if sameS z (xs.getD i default).name then some (ownV (fromV xs i) (xs.getD i default).made) else fromV xs i z).isNone = _
    rw [sameS_comm z]
    cases sameS (xs.getD i default).name z <;> simp

theorem gone_false {xs : List Lot} {i : Nat} {z : ByteArray} (hi : i ≤ xs.length) (h : goneB (fromV xs i) z = false) : ∃ m, m < i ∧ nameAt xs m = z := by
  rw [gone_take xs i hi z] at h
  obtain ⟨m, hm, hp⟩ := any_at default hi (by simpa using h)
  exact ⟨m, hm, sameS_iff.1 hp⟩
theorem gone_true {xs : List Lot} {i m : Nat} {z : ByteArray} (hi : i ≤ xs.length) (h : goneB (fromV xs i) z = true) (hm : m < i) : nameAt xs m ≠ z := fun e => by
  rw [gone_take xs i hi z, any_of default hi hm (show hasName z (xs.getD m default) = true from sameS_iff.2 e)] at h
  cases h

theorem name_inj {xs : List Lot} (ok : LotsOk xs) {i j : Nat} (hi : i < xs.length) (hj : j < xs.length) (h : nameAt xs i = nameAt xs j) : i = j := by
  rcases Nat.lt_trichotomy i j with h1 | h1 | h1
  · exact absurd h (gone_true (by omega) (ok.2 j hj).1 h1)
  · exact h1
  · exact absurd h.symm (gone_true (by omega) (ok.2 i hi).1 h1)

theorem findG_at {α : Type} {p : α → Bool} {xs : List α} (d : α) {m : Nat} (hm : m < xs.length) (hp : p (xs.getD m d) = true) (hno : ∀ j, j < m → p (xs.getD j d) = false) : ∀ q k, m - k = q → k ≤ m → findG p xs k = (m : Int)
  | 0, k, hq, hk => by
    obtain rfl : k = m := by omega
    rw [findG_step p xs k d hm, if_pos hp]
  | q + 1, k, hq, hk => by
    rw [findG_step p xs k d (by omega), if_neg (by rw [hno k (by omega)]; decide)]
    exact findG_at d hm hp hno q (k + 1) (by omega) (by omega)
theorem find_name {xs : List Lot} (ok : LotsOk xs) {m : Nat} (hm : m < xs.length) : findG (hasName (nameAt xs m)) xs 0 = (m : Int) :=
  findG_at default hm (sameS_iff.2 rfl) (fun j hj => by
    cases h : hasName (nameAt xs m) (xs.getD j default) with
    | false => rfl
    | true => exact absurd (name_inj ok (by omega) hm (sameS_iff.1 h)) (by omega)) m 0 (by omega) (by omega)

/-- Whether z is an ingredient of lot i. -/
def ingr (xs : List Lot) (i : Nat) (z : ByteArray) : Bool := ownV (fromV xs i) (madeAt xs i) z

theorem from_at {xs : List Lot} (ok : LotsOk xs) : ∀ k, k ≤ xs.length → ∀ i, i < k → fromV xs k (nameAt xs i) = some (ingr xs i)
  | 0, _, i, h => by omega
  | k + 1, hk, i, h => by
    show (if sameS (nameAt xs i) (xs.getD k default).name then some (ownV (fromV xs k) (xs.getD k default).made) else fromV xs k (nameAt xs i)) = _
    by_cases he : i = k
    · subst he
      have h1 : sameS (nameAt xs i) (xs.getD i default).name = true := sameS_self _
      rw [if_pos h1]
      rfl
    · have h1 : ¬ sameS (nameAt xs i) (xs.getD k default).name = true := fun e => he (name_inj ok (by omega) (by omega) (sameS_iff.1 e))
      rw [if_neg h1, from_at ok k (by omega) i (by omega)]
theorem inner_at {xs : List Lot} (ok : LotsOk xs) {k i : Nat} (hk : k ≤ xs.length) (hi : i < k) : innerOf (fromV xs k) (nameAt xs i) = ingr xs i := by
  unfold innerOf
  rw [from_at ok k hk i hi]
  rfl

theorem ownV_any (F : Fam) (made : List ByteArray) (z : ByteArray) : ownV F made z = made.any fun y => sameS z y || innerOf F y z := by
  have h : ∀ (made : List ByteArray) (a : ByteArray → Bool), made.foldl (fun own y z => own z || sameS z y || innerOf F y z) a z = (a z || made.any fun y => sameS z y || innerOf F y z) := by
    intro made
    induction made with
    | nil => intro a; simp
    | cons y l ih => intro a; rw [List.foldl_cons, ih, List.any_cons]; simp [Bool.or_assoc]
  unfold ownV
  rw [h]
  simp

theorem ingr_iff {xs : List Lot} (ok : LotsOk xs) {i : Nat} (hi : i < xs.length) (z : ByteArray) : ingr xs i z = true ↔ ∃ m, m < i ∧ nameAt xs m ∈ madeAt xs i ∧ (z = nameAt xs m ∨ ingr xs m z = true) := by
  unfold ingr
  rw [ownV_any, List.any_eq_true]
  constructor
  · rintro ⟨y, hy, h⟩
    obtain ⟨m, hm, rfl⟩ := gone_false (by omega) ((ok.2 i hi).2.2 y hy)
    refine ⟨m, hm, hy, ?_⟩
    rw [Bool.or_eq_true, sameS_iff, inner_at ok (by omega) hm] at h
    exact h
  · rintro ⟨m, hm, hy, h⟩
    refine ⟨nameAt xs m, hy, ?_⟩
    rw [Bool.or_eq_true, sameS_iff, inner_at ok (by omega) hm]
    exact h

/-- Whether lot j is an ingredient of lot i. -/
def ingD (xs : List Lot) (i j : Nat) : Bool := ingr xs i (nameAt xs j)

theorem ingD_iff {xs : List Lot} (ok : LotsOk xs) {i j : Nat} (hi : i < xs.length) (hj : j < xs.length) : ingD xs i j = true ↔ ∃ m, m < i ∧ nameAt xs m ∈ madeAt xs i ∧ (j = m ∨ ingD xs m j = true) := by
  unfold ingD
  rw [ingr_iff ok hi]
  constructor
  · rintro ⟨m, hm, hy, h | h⟩
    · exact ⟨m, hm, hy, .inl (name_inj ok hj (by omega) h)⟩
    · exact ⟨m, hm, hy, .inr h⟩
  · rintro ⟨m, hm, hy, h | h⟩
    · exact ⟨m, hm, hy, .inl (by rw [h])⟩
    · exact ⟨m, hm, hy, .inr h⟩
theorem ingD_made {xs : List Lot} (ok : LotsOk xs) {i j : Nat} (hi : i < xs.length) (hj : j < xs.length) (h : nameAt xs j ∈ madeAt xs i) : j < i ∧ ingD xs i j = true := by
  obtain ⟨m, hm, he⟩ := gone_false (by omega) ((ok.2 i hi).2.2 _ h)
  obtain rfl : m = j := name_inj ok (by omega) hj he
  exact ⟨hm, (ingD_iff ok hi hj).2 ⟨m, hm, h, .inl rfl⟩⟩
theorem ingD_lt {xs : List Lot} (ok : LotsOk xs) : ∀ i j, i < xs.length → j < xs.length → ingD xs i j = true → j < i := by
  intro i
  induction i using Nat.strongRecOn with
  | _ i ih =>
    intro j hi hj h
    obtain ⟨m, hm, _, h | h⟩ := (ingD_iff ok hi hj).1 h
    · omega
    · have := ih m hm j (by omega) hj h; omega
theorem ingD_trans {xs : List Lot} (ok : LotsOk xs) : ∀ a b c, a < xs.length → b < xs.length → c < xs.length → ingD xs a b = true → ingD xs b c = true → ingD xs a c = true := by
  intro a
  induction a using Nat.strongRecOn with
  | _ a ih =>
    intro b c ha hb hc h1 h2
    obtain ⟨m, hm, hy, h | h⟩ := (ingD_iff ok ha hb).1 h1
    · subst h
      exact (ingD_iff ok ha hc).2 ⟨b, hm, hy, .inr h2⟩
    · exact (ingD_iff ok ha hc).2 ⟨m, hm, hy, .inr (ih m hm b c (by omega) hb hc h h2)⟩

/-- The marks that the specification has set when the lots from i on have been looked at. -/
def Marks (xs : List Lot) (at_ i : Nat) (o : Nat → Bool) : Prop :=
  (∀ j, j < xs.length → o j = true → ingD xs at_ j = true) ∧ ∀ m, i ≤ m → m ≤ at_ → (m = at_ ∨ o m = true) → ∀ j, j < xs.length → nameAt xs j ∈ madeAt xs m → o j = true
def markV (xs : List Lot) (o : Nat → Bool) (ys : List ByteArray) : Nat → Bool := fun j => o j || ys.any fun y => sameS (nameAt xs j) y

theorem marks_start (xs : List Lot) (at_ : Nat) : Marks xs at_ (at_ + 1) fun _ => false := ⟨fun _ _ h => by simp at h, fun m h1 h2 => by omega⟩
theorem marks_skip {xs : List Lot} {at_ i : Nat} {o : Nat → Bool} (h : Marks xs at_ (i + 1) o) (hne : i ≠ at_) (ho : o i = false) : Marks xs at_ i o :=
  ⟨h.1, fun m h1 h2 h3 j hj hy => by
    by_cases he : m = i
    · subst he
      rcases h3 with h3 | h3
      · exact absurd h3 hne
      · rw [ho] at h3; cases h3
    · exact h.2 m (by omega) h2 h3 j hj hy⟩
theorem mark_iff {xs : List Lot} {o : Nat → Bool} {ys : List ByteArray} {j : Nat} : markV xs o ys j = true ↔ o j = true ∨ nameAt xs j ∈ ys := by
  unfold markV
  rw [Bool.or_eq_true, List.any_eq_true]
  constructor
  · rintro (h | ⟨y, hy, h⟩)
    · exact .inl h
    · exact .inr (by rw [sameS_iff.1 h]; exact hy)
  · rintro (h | h)
    · exact .inl h
    · exact .inr ⟨_, h, sameS_self _⟩
theorem marks_step {xs : List Lot} (ok : LotsOk xs) {at_ i : Nat} {o : Nat → Bool} (hat : at_ < xs.length) (hi : i ≤ at_) (h : Marks xs at_ (i + 1) o) (ho : i = at_ ∨ o i = true) : Marks xs at_ i (markV xs o (madeAt xs i)) := by
  refine ⟨fun j hj hm => ?_, fun m h1 h2 h3 j hj hy => ?_⟩
  · rcases mark_iff.1 hm with h1 | h1
    · exact h.1 j hj h1
    · have h2 := (ingD_made ok (by omega) hj h1).2
      rcases ho with rfl | ho
      · exact h2
      · exact ingD_trans ok at_ i j hat (by omega) hj (h.1 i (by omega) ho) h2
  · rw [mark_iff]
    by_cases he : m = i
    · subst he
      exact .inr hy
    · refine .inl (h.2 m (by omega) h2 ?_ j hj hy)
      rcases h3 with h3 | h3
      · exact .inl h3
      · rcases mark_iff.1 h3 with h4 | h4
        · exact .inr h4
        · have := (ingD_made ok (show i < xs.length by omega) (show m < xs.length by omega) h4).1; omega
theorem marks_end {xs : List Lot} (ok : LotsOk xs) {at_ : Nat} {o : Nat → Bool} (hat : at_ < xs.length) (h : Marks xs at_ 0 o) {j : Nat} (hj : j < xs.length) : o j = ingD xs at_ j := by
  rw [Bool.eq_iff_iff]
  refine ⟨h.1 j hj, ?_⟩
  have hall : ∀ m, m ≤ at_ → (m = at_ ∨ o m = true) → ingD xs m j = true → o j = true := by
    intro m
    induction m using Nat.strongRecOn with
    | _ m ih =>
      intro hm ho hd
      obtain ⟨q, hq, hy, h1⟩ := (ingD_iff ok (by omega) hj).1 hd
      have h2 := h.2 m (by omega) hm ho q (by omega) hy
      rcases h1 with rfl | h1
      · exact h2
      · exact ih q hq (by omega) (.inr h2) h1
  exact hall at_ (Nat.le_refl _) (.inl rfl)

/-- Which lots are ingredients of lot i. -/
def inV (xs : List Lot) (i : Nat) : List Bool := (List.range xs.length).map (ingD xs i)
/-- Whether one of the first k lots is an ingredient of lot i and not surely accepted, or lot i is not. -/
def suspK (xs : List Lot) (i k : Nat) : Bool := badB (xs.getD i default) || (List.range k).any fun q => ingD xs i q && badB (xs.getD q default)
theorem suspK_succ (xs : List Lot) (i k : Nat) : suspK xs i (k + 1) = (suspK xs i k || (ingD xs i k && badB (xs.getD k default))) := by
  unfold suspK
  rw [List.range_succ, List.any_append]
  simp [Bool.or_assoc]

theorem mem_namesV {p : Lot → Bool} {xs : List Lot} {z : ByteArray} : z ∈ namesV p xs ↔ ∃ k, k < xs.length ∧ p (xs.getD k default) = true ∧ nameAt xs k = z := by
  unfold namesV
  rw [List.mem_map]
  constructor
  · rintro ⟨x, hx, rfl⟩
    obtain ⟨hx1, hx2⟩ := List.mem_filter.1 hx
    obtain ⟨k, hk, rfl⟩ := List.getElem_of_mem hx1
    have e : xs.getD k default = xs[k] := by simp [List.getD, hk]
    exact ⟨k, hk, by rw [e]; exact hx2, by unfold nameAt; rw [e]⟩
  · rintro ⟨k, hk, hp, rfl⟩
    have e : xs.getD k default = xs[k] := by simp [List.getD, hk]
    exact ⟨xs.getD k default, List.mem_filter.2 ⟨by rw [e]; exact List.getElem_mem hk, hp⟩, rfl⟩

theorem susp_at {xs : List Lot} (ok : LotsOk xs) {i : Nat} (hi : i < xs.length) : suspB (fromV xs xs.length) (namesV badB xs) (xs.getD i default) = suspK xs i xs.length := by
  rw [Bool.eq_iff_iff]
  unfold suspB anyG suspK
  rw [List.any_eq_true, Bool.or_eq_true, List.any_eq_true]
  have hin : innerOf (fromV xs xs.length) (xs.getD i default).name = ingr xs i := inner_at ok (Nat.le_refl _) hi
  constructor
  · rintro ⟨z, hz, ht⟩
    obtain ⟨k, hk, hb, rfl⟩ := mem_namesV.1 hz
    unfold touchB at ht
    rw [Bool.or_eq_true, hin, sameS_iff] at ht
    rcases ht with ht | ht
    · obtain rfl := name_inj ok hk hi ht
      exact .inl hb
    · exact .inr ⟨k, List.mem_range.2 hk, by rw [Bool.and_eq_true]; exact ⟨ht, hb⟩⟩
  · rintro (hb | ⟨k, hk, h⟩)
    · exact ⟨nameAt xs i, mem_namesV.2 ⟨i, hi, hb, rfl⟩, by unfold touchB; rw [sameS_iff.2 (show nameAt xs i = (xs.getD i default).name from rfl)]; rfl⟩
    · rw [Bool.and_eq_true] at h
      have hk' := List.mem_range.1 hk
      refine ⟨nameAt xs k, mem_namesV.2 ⟨k, hk', h.2, rfl⟩, ?_⟩
      unfold touchB
      rw [hin, show ingr xs i (nameAt xs k) = true from h.1]
      simp

/-- The names of the first i lots for which a condition by index holds. -/
def pickV (p : Nat → Bool) (xs : List Lot) : Nat → List ByteArray
  | 0 => []
  | i + 1 => pickV p xs i ++ if p i then [nameAt xs i] else []
theorem pick_names {p : Lot → Bool} {q : Nat → Bool} {xs : List Lot} (h : ∀ i, i < xs.length → p (xs.getD i default) = q i) : ∀ i, i ≤ xs.length → pickV q xs i = namesV p (xs.take i)
  | 0, _ => rfl
  | i + 1, hi => by
    rw [namesV_succ p xs i (by omega), ← pick_names h i (by omega), h i (by omega)]
    rfl
theorem pick_all {p : Lot → Bool} {q : Nat → Bool} {xs : List Lot} (h : ∀ i, i < xs.length → p (xs.getD i default) = q i) : pickV q xs xs.length = namesV p xs := by
  rw [pick_names h xs.length (Nat.le_refl _), List.take_length]
theorem pick_len (p : Nat → Bool) (xs : List Lot) : ∀ i, (pickV p xs i).length ≤ i
  | 0 => Nat.le_refl _
  | i + 1 => by
    show (pickV p xs i ++ if p i then [nameAt xs i] else []).length ≤ i + 1
    have := pick_len p xs i
    rw [List.length_append]
    split <;> simp <;> omega
theorem suspects_pick {xs : List Lot} (ok : LotsOk xs) : pickV (fun i => suspK xs i xs.length) xs xs.length = suspectsV xs :=
  pick_all fun _ hi => susp_at ok hi

/-- A row of marks, as cells. -/
def marksC (n : Nat) (o : Nat → Bool) : Array Value := ((List.range n).map fun j => Value.bool (o j)).toArray
theorem marks_at {n : Nat} {o : Nat → Bool} {j : Nat} (h : j < n) : (marksC n o)[j]? = some (.bool (o j)) := by
  unfold marksC
  simp [h]
theorem marks_set {n : Nat} {o : Nat → Bool} {m : Nat} : (marksC n o).setIfInBounds m (.bool true) = marksC n fun j => o j || j == m := by
  unfold marksC
  apply Array.ext
  · simp
  · intro j h1 h2
    simp only [List.setIfInBounds_toArray, List.getElem_toArray, List.getElem_set, List.getElem_map, List.getElem_range]
    by_cases he : m = j
    · subst he; simp
    · have : (j == m) = false := by simpa using fun e => he e.symm
      simp [he, this]
theorem marksC_ext {n : Nat} {o o2 : Nat → Bool} (h : ∀ j, j < n → o j = o2 j) : marksC n o = marksC n o2 := by
  unfold marksC
  congr 1
  apply List.map_congr_left
  intro j hj
  rw [h j (List.mem_range.1 hj)]
theorem marks_one {xs : List Lot} (ok : LotsOk xs) {o : Nat → Bool} {ys : List ByteArray} {k m : Nat} (hk : k < ys.length) (hm : m < xs.length) (he : nameAt xs m = ys.getD k default) {j : Nat} (hj : j < xs.length) : markV xs o (ys.take (k + 1)) j = (markV xs o (ys.take k) j || j == m) := by
  unfold markV
  have h := take_any (fun y => sameS (nameAt xs j) y) ys default k hk
  unfold anyG at h
  rw [h, ← he, Bool.or_assoc]
  congr 2
  rw [Bool.eq_iff_iff, sameS_iff, beq_iff_eq]
  exact ⟨fun e => name_inj ok hj hm e, fun e => by rw [e]⟩

end Go.Proofs.YtbojmcopagbheaaGreatDoor
end

section
namespace Go.Proofs.YtbojmcopagbheaaGreatDoor

/-- The same names and made things. -/
def SameFam (xs zs : List Lot) : Prop := zs.length = xs.length ∧ ∀ i, nameAt zs i = nameAt xs i ∧ madeAt zs i = madeAt xs i
theorem same_from {xs zs : List Lot} (h : SameFam xs zs) : ∀ i, fromV zs i = fromV xs i
  | 0 => rfl
  | i + 1 => by
    funext z
    show (if sameS z (nameAt zs i) then some (ownV (fromV zs i) (madeAt zs i)) else fromV zs i z) = (if sameS z (nameAt xs i) then some (ownV (fromV xs i) (madeAt xs i)) else fromV xs i z)
    rw [same_from h i, (h.2 i).1, (h.2 i).2]
theorem same_ok {xs zs : List Lot} (h : SameFam xs zs) (ok : LotsOk xs) : LotsOk zs := by
  refine ⟨by rw [h.1]; exact ok.1, fun i hi => ?_⟩
  rw [same_from h, (h.2 i).1, (h.2 i).2]
  exact ok.2 i (by rw [← h.1]; exact hi)
theorem same_ingD {xs zs : List Lot} (h : SameFam xs zs) (i j : Nat) : ingD zs i j = ingD xs i j := by
  unfold ingD ingr
  rw [same_from h, (h.2 i).2, (h.2 j).1]
theorem scan_zeros {f : Nat → Int} {n : Nat} : ∀ (d k : Nat), n - k = d → (∀ i, k ≤ i → i < n → f i = 0) → (scan f n k).2 = 0
  | 0, k, hd, _ => by rw [scan_end (by omega)]
  | d + 1, k, hd, h => by
    rw [scan_step (by omega), if_pos (h k (Nat.le_refl _) (by omega))]
    exact scan_zeros d (k + 1) (by omega) fun i h1 h2 => h i (by omega) h2
theorem scan_each {f : Nat → Int} {n : Nat} : ∀ (d k : Nat), n - k = d → (scan f n k).2 = 0 → ∀ i, k ≤ i → i < n → f i = 0
  | 0, k, hd, _, i, h1, h2 => by omega
  | d + 1, k, hd, h, i, h1, h2 => by
    rw [scan_step (by omega)] at h
    split at h
    · rename_i hk
      rcases Nat.lt_or_ge k i with h3 | h3
      · exact scan_each d (k + 1) (by omega) h i h3 h2
      · obtain rfl : i = k := by omega
        exact hk
    · contradiction
theorem open_each {xs : List Lot} (h0 : (openLotsV xs).2 = 0) : xs.length ≤ 20 ∧ ∀ i, i < xs.length → lotsE1 xs i = 0 := by
  unfold openLotsV at h0
  split at h0
  · contradiction
  · exact ⟨by omega, fun i hi => scan_each _ 0 rfl h0 i (Nat.zero_le _) hi⟩
theorem same_open {xs zs : List Lot} (h : SameFam xs zs) (h0 : (openLotsV xs).2 = 0) (hE : ∀ i, i < zs.length → lotE (zs.getD i default) = 0) : (openLotsV zs).2 = 0 := by
  obtain ⟨h1, h2⟩ := open_each h0
  unfold openLotsV
  rw [if_neg (by rw [h.1]; omega)]
  refine scan_zeros _ 0 rfl fun i _ hi => ?_
  have q := h2 i (by rw [← h.1]; exact hi)
  obtain ⟨_, q2⟩ := firstV_zero.1 q
  refine firstV_zero.2 ⟨hE i hi, ?_⟩
  rw [same_from h]
  have e1 : (zs.getD i default).name = (xs.getD i default).name := (h.2 i).1
  have e2 : (zs.getD i default).made = (xs.getD i default).made := (h.2 i).2
  rw [e1, e2]
  exact q2

theorem pick_none {p : Nat → Bool} (xs : List Lot) : ∀ i, (∀ j, j < i → p j = false) → pickV p xs i = []
  | 0, _ => rfl
  | i + 1, h => by
    show pickV p xs i ++ (if p i then [nameAt xs i] else []) = []
    rw [pick_none xs i (fun j hj => h j (by omega)), h i (by omega)]
    rfl
theorem pick_same {p q : Nat → Bool} {xs zs : List Lot} (hn : ∀ i, nameAt zs i = nameAt xs i) : ∀ i, (∀ j, j < i → p j = q j) → pickV p zs i = pickV q xs i
  | 0, _ => rfl
  | i + 1, h => by
    show pickV p zs i ++ (if p i then [nameAt zs i] else []) = pickV q xs i ++ (if q i then [nameAt xs i] else [])
    rw [pick_same hn i (fun j hj => h j (by omega)), h i (by omega), hn i]
theorem pick_add {p q : Nat → Bool} {xs : List Lot} {k : Nat} (hq : q k = false) : ∀ i, (∀ j, j < i → p j = (decide (j = k) || q j)) → (pickV p xs i).length = (pickV q xs i).length + (if k < i then 1 else 0)
  | 0, _ => by simp [pickV]
  | i + 1, h => by
    have ih := pick_add (xs := xs) hq i (fun j hj => h j (by omega))
    have e := h i (by omega)
    show (pickV p xs i ++ (if p i then [nameAt xs i] else [])).length = (pickV q xs i ++ (if q i then [nameAt xs i] else [])).length + _
    rw [List.length_append, List.length_append, ih, e]
    by_cases hk : i = k
    · subst hk
      rw [hq]
      simp
    · have hd : decide (i = k) = false := by simpa using hk
      rw [hd, Bool.false_or]
      by_cases h2 : k < i
      · have h3 : k < i + 1 := by omega
        rw [if_pos h2, if_pos h3]; omega
      · have h3 : ¬ k < i + 1 := by omega
        rw [if_neg h2, if_neg h3]; omega
/-- The products of a name. -/
def prodV (xs : List Lot) (z : ByteArray) : List ByteArray := namesV (fun x => innerOf (fromV xs xs.length) x.name z) xs
theorem prod_pick {xs : List Lot} (ok : LotsOk xs) (k : Nat) : pickV (fun i => ingD xs i k) xs xs.length = prodV xs (nameAt xs k) :=
  pick_all fun i hi => by
    show innerOf (fromV xs xs.length) (nameAt xs i) (nameAt xs k) = ingD xs i k
    rw [inner_at ok (Nat.le_refl _) hi]
    rfl
theorem prod_same {xs zs : List Lot} (h : SameFam xs zs) (ok : LotsOk xs) (k : Nat) : prodV zs (nameAt xs k) = prodV xs (nameAt xs k) := by
  rw [← prod_pick ok k, ← (h.2 k).1, ← prod_pick (same_ok h ok) k, h.1]
  exact pick_same (fun i => (h.2 i).1) _ fun j _ => same_ingD h j k
/-- Nothing is suspect where everything is accepted. -/
theorem susp_none {zs : List Lot} (ok : LotsOk zs) (hg : ∀ i, i < zs.length → badB (zs.getD i default) = false) : suspectsV zs = [] := by
  rw [← suspects_pick ok]
  refine pick_none zs _ fun j hj => ?_
  unfold suspK
  rw [hg j hj, Bool.false_or, Bool.eq_false_iff]
  intro h
  rw [List.any_eq_true] at h
  obtain ⟨q, hq, h⟩ := h
  rw [hg q (List.mem_range.1 hq), Bool.and_false] at h
  cases h
theorem suspK_one {zs : List Lot} {k : Nat} (hk : k < zs.length) (hb : ∀ i, i < zs.length → badB (zs.getD i default) = decide (i = k)) {i : Nat} (hi : i < zs.length) : suspK zs i zs.length = (decide (i = k) || ingD zs i k) := by
  unfold suspK
  rw [hb i hi]
  congr 1
  rw [Bool.eq_iff_iff, List.any_eq_true]
  constructor
  · rintro ⟨q, hq, h⟩
    rw [hb q (List.mem_range.1 hq), Bool.and_eq_true, decide_eq_true_eq] at h
    rw [← h.2]; exact h.1
  · intro h
    exact ⟨k, List.mem_range.2 hk, by rw [hb k hk, h]; simp⟩
/-- One lot that is refused: itself and its products are suspect, and nothing else. -/
theorem susp_one {zs : List Lot} (ok : LotsOk zs) {k : Nat} (hk : k < zs.length) (hb : ∀ i, i < zs.length → badB (zs.getD i default) = decide (i = k)) :
    (suspectsV zs).length = (prodV zs (nameAt zs k)).length + 1 ∧ nameAt zs k ∈ suspectsV zs ∧ ∀ y ∈ prodV zs (nameAt zs k), y ∈ suspectsV zs := by
  have hself : ingD zs k k = false := by
    cases h : ingD zs k k with
    | false => rfl
    | true => exact absurd (ingD_lt ok k k hk hk h) (Nat.lt_irrefl _)
  refine ⟨?_, ?_, fun y hy => ?_⟩
  · rw [← suspects_pick ok, ← prod_pick ok k, pick_add (q := fun i => ingD zs i k) hself _ (fun j hj => suspK_one hk hb hj), if_pos hk]
  · unfold suspectsV
    exact mem_namesV.2 ⟨k, hk, by rw [susp_at ok hk, suspK_one hk hb hk]; simp, rfl⟩
  · unfold prodV at hy
    obtain ⟨m, hm, hp, he⟩ := mem_namesV.1 hy
    have hp2 : innerOf (fromV zs zs.length) (nameAt zs m) (nameAt zs k) = true := hp
    rw [inner_at ok (Nat.le_refl _) hm] at hp2
    unfold suspectsV
    refine mem_namesV.2 ⟨m, hm, ?_, he⟩
    rw [susp_at ok hm, suspK_one hk hb hm, show ingD zs m k = true from hp2, Bool.or_true]

/-- A lot whose limits accept everything; a lot that is surely refused. -/
def wideL (x : Lot) : Lot := { x with llo := -1000000, lhi := 1000000 }
def badL (x : Lot) : Lot := { x with mlo := 5, mhi := 6, llo := 7, lhi := 8 }
theorem wide_ok {x : Lot} (h : lotE x = 0) : lotE (wideL x) = 0 ∧ badB (wideL x) = false := by
  unfold lotE at h
  split at h
  · contradiction
  · rename_i h1
    split at h
    · contradiction
    · rename_i h2
      obtain ⟨e1, e2⟩ := firstV_zero.1 (show firstV [rangeErrV valueB x.mlo x.mhi, rangeErrV valueB x.llo x.lhi] = 0 from h)
      constructor
      · unfold lotE
        rw [if_neg (show ¬ lotE1 (wideL x) ≠ 0 from h1), if_neg (show ¬ (scan (madeErr (wideL x).made) (wideL x).made.length 0).2 ≠ 0 from h2)]
        exact firstV_zero.2 ⟨e1, show firstV [rangeErrV valueB (-1000000) 1000000] = 0 by decide⟩
      · have e1' : firstV [unlessV (valueB x.mlo && valueB x.mhi) 2, unlessV (decide (x.mlo ≤ x.mhi)) 9] = 0 := e1
        obtain ⟨e3, _⟩ := firstV_zero.1 e1'
        have e3 := (unless_ne (by decide)).1 e3
        simp only [valueB, withinB, Bool.and_eq_true, decide_eq_true_eq] at e3
        unfold badB acceptV wideL
        rw [if_pos (by dsimp only; omega)]
        rfl
theorem bad_ok {x : Lot} (h : lotE x = 0) : lotE (badL x) = 0 ∧ badB (badL x) = true := by
  unfold lotE at h
  split at h
  · contradiction
  · rename_i h1
    split at h
    · contradiction
    · rename_i h2
      constructor
      · unfold lotE
        rw [if_neg (show ¬ lotE1 (badL x) ≠ 0 from h1), if_neg (show ¬ (scan (madeErr (badL x).made) (badL x).made.length 0).2 ≠ 0 from h2)]
        exact (by decide : firstV [rangeErrV valueB 5 6, rangeErrV valueB 7 8] = 0)
      · exact (by decide : ((if (7 : Int) ≤ 5 ∧ (6 : Int) ≤ 8 then (2 : Int) else if (8 : Int) < 5 ∨ (6 : Int) < 7 then 0 else 1) != 2) = true)
theorem getD_map {α β : Type} (f : α → β) (l : List α) (i : Nat) (d : α) (e : β) (hi : i < l.length) : (l.map f).getD i e = f (l.getD i d) := by simp [List.getD, hi]
theorem getD_none {α : Type} (l : List α) (i : Nat) (d : α) (hi : ¬ i < l.length) : l.getD i d = d := by simp [List.getD, hi]
theorem wide_same (xs : List Lot) : SameFam xs (xs.map wideL) := by
  refine ⟨by simp, fun i => ?_⟩
  unfold nameAt madeAt
  by_cases hi : i < xs.length
  · rw [getD_map wideL xs i default default hi]
    exact ⟨rfl, rfl⟩
  · rw [getD_none _ _ _ (by simpa using hi), getD_none _ _ _ hi]
    exact ⟨rfl, rfl⟩
/-- The lots with wide limits, and lot k refused. -/
def markL (xs : List Lot) (k : Nat) : List Lot := (xs.map wideL).set k (badL (wideL (xs.getD k default)))
theorem getD_setL {l : List Lot} {k i : Nat} {x : Lot} (hi : i < l.length) : (l.set k x).getD i default = if k = i then x else l.getD i default := by
  by_cases h : k = i
  · subst h; simp [List.getD, hi]
  · simp [List.getD, h, List.getElem?_set_ne h]
theorem mark_at {xs : List Lot} {k i : Nat} (hi : i < xs.length) : (markL xs k).getD i default = if k = i then badL (wideL (xs.getD i default)) else wideL (xs.getD i default) := by
  unfold markL
  rw [getD_setL (by simpa using hi), getD_map wideL xs i default default hi]
  by_cases h : k = i
  · subst h; rfl
  · rw [if_neg h, if_neg h]
theorem mark_same (xs : List Lot) (k : Nat) : SameFam xs (markL xs k) := by
  refine ⟨by simp [markL], fun i => ?_⟩
  unfold nameAt madeAt
  by_cases hi : i < xs.length
  · rw [mark_at hi]
    split <;> exact ⟨rfl, rfl⟩
  · rw [getD_none _ _ _ (by simpa [markL] using hi), getD_none _ _ _ hi]
    exact ⟨rfl, rfl⟩
/-- THE LAW, in plain words. -/
theorem top_lots {xs : List Lot} (h0 : (openLotsV xs).2 = 0) (hE : ∀ i, i < xs.length → lotE (xs.getD i default) = 0) {k : Nat} (hk : k < xs.length) :
    (openLotsV (xs.map wideL)).2 = 0 ∧ suspectsV (xs.map wideL) = [] ∧ (openLotsV (markL xs k)).2 = 0 ∧ prodV (markL xs k) (nameAt xs k) = prodV xs (nameAt xs k) ∧
    (suspectsV (markL xs k)).length = (prodV (markL xs k) (nameAt xs k)).length + 1 ∧ nameAt xs k ∈ suspectsV (markL xs k) ∧ ∀ y ∈ prodV (markL xs k) (nameAt xs k), y ∈ suspectsV (markL xs k) := by
  have ok := lotsOk_of h0
  have hw := wide_same xs
  have hm := mark_same xs k
  have hmk : k < (markL xs k).length := by rw [hm.1]; exact hk
  have hb : ∀ i, i < (markL xs k).length → badB ((markL xs k).getD i default) = decide (i = k) := fun i hi => by
    have hi' : i < xs.length := by rw [← hm.1]; exact hi
    rw [mark_at hi']
    by_cases h : k = i
    · subst h
      rw [if_pos rfl, (bad_ok (wide_ok (hE k hk)).1).2]
      simp
    · rw [if_neg h, (wide_ok (hE i hi')).2]
      have : ¬ i = k := fun e => h e.symm
      simp [this]
  have q := susp_one (same_ok hm ok) hmk hb
  have e : nameAt (markL xs k) k = nameAt xs k := (hm.2 k).1
  rw [e] at q
  refine ⟨same_open hw h0 fun i hi => ?_, susp_none (same_ok hw ok) fun i hi => ?_, same_open hm h0 fun i hi => ?_, prod_same hm ok k, q⟩
  · have hi' : i < xs.length := by simpa using hi
    rw [getD_map wideL xs i default default hi']
    exact (wide_ok (hE i hi')).1
  · have hi' : i < xs.length := by simpa using hi
    rw [getD_map wideL xs i default default hi']
    exact (wide_ok (hE i hi')).2
  · have hi' : i < xs.length := by rw [← hm.1]; exact hi
    rw [mark_at hi']
    split
    · exact (bad_ok (wide_ok (hE i hi')).1).1
    · exact (wide_ok (hE i hi')).1

end Go.Proofs.YtbojmcopagbheaaGreatDoor
end

section
namespace Go.Proofs.YtbojmcopagbheaaGreatDoor
open Go.RowKit

def lotC (x : Lot) (A : Option Addr) (c : Nat) : Array Value := #[.string x.name, .slice A x.made.length c, .int .i64 x.mlo, .int .i64 x.mhi, .int .i64 x.llo, .int .i64 x.lhi]
theorem blk_six {w : World} {g : Nat} {t : TypeId} {a0 a1 a2 a3 a4 a5 : Value} (h : Blk w g t #[a0, a1, a2, a3, a4, a5]) : w.cell? ⟨g, 0, none⟩ = some a0 ∧ w.cell? ⟨g, 1, none⟩ = some a1 ∧ w.cell? ⟨g, 2, none⟩ = some a2 ∧ w.cell? ⟨g, 3, none⟩ = some a3 ∧ w.cell? ⟨g, 4, none⟩ = some a4 ∧ w.cell? ⟨g, 5, none⟩ = some a5 :=
  ⟨h.cellAt 0 rfl, h.cellAt 1 rfl, h.cellAt 2 rfl, h.cellAt 3 rfl, h.cellAt 4 rfl, h.cellAt 5 rfl⟩
def LotRet (w : World) (x : Lot) (e : Ending) (w' : World) : Prop :=
  ∃ A c, e = .returned (.agg #[.string x.name, .slice A x.made.length c, .int .i64 x.mlo, .int .i64 x.mhi, .int .i64 x.llo, .int .i64 x.lhi]) ∧ TextRow w' A x.made ∧ x.made.length ≤ c ∧ Below w.heap.size w w'

set_option maxHeartbeats 4000000 in
set_option maxRecDepth 100000 in
theorem copyLot_any (B : Nat) (x : Lot) (A : Option Addr) (n c : Nat) (w : World) (hn : x.made.length = n) (hr : RowIn Value.string B w A x.made) (hB : B ≤ w.heap.size) (hs : SmallLot x) :
    Calls Tryz.prog 25 #[.agg #[.string x.name, .slice A n c, .int .i64 x.mlo, .int .i64 x.mhi, .int .i64 x.llo, .int .i64 x.lhi]] w (LotRet w x) := by
  obtain ⟨nm, xs, mlo, mhi, llo, lhi⟩ := x
  obtain ⟨hs1, hs2, hs3⟩ := hs
  dsimp only at *
  have HR := Lib.hid hr
  have hn2 : n ≤ 1000 := by omega
  have HN := Lib.hid hn
  clear hr hs3 hn
  go_enter Tryz.func25, Tryz.ntmps25
  go_wp2_with (go_at_call 66; go_must (refine (copyTexts_any B A n c xs _ (HR.out.below ((pa (pa pr)).mono hB)) HN.out (Nat.le_trans hB (pa (pa pr)).size) hn2).mono ?_); rintro e w1 ⟨A1, c1, rfl, hrow, hc1, hb1⟩; have HRow := Lib.hid hrow; clear hrow; have hz1 := hb1.size; simp only [World.size_alloc] at hz1; have k0 : Blk w1 w.heap.size 58 #[.string nm, .slice A n c, .int .i64 mlo, .int .i64 mhi, .int .i64 llo, .int .i64 lhi] := ((Blk.newAt rfl).alloc).past hb1; have k1 : Blk w1 (w.heap.size + 1) 58 #[.string ByteArray.empty, .slice none 0 0, .int .i64 0, .int .i64 0, .int .i64 0, .int .i64 0] := (Blk.newAt (by simp)).past hb1; obtain ⟨e0, e1, e2, e3, e4, e5⟩ := blk_six k0; have ef0 := k0.frozen 0; have ef1 := k0.frozen 1; have ef2 := k0.frozen 2; have ef3 := k0.frozen 3; have ef4 := k0.frozen 4; have ef5 := k0.frozen 5; obtain ⟨g0, g1, g2, g3, g4, g5⟩ := blk_six k1; have gf0 := k1.frozen 0; have gf1 := k1.frozen 1; have gf2 := k1.frozen 2; have gf3 := k1.frozen 3; have gf4 := k1.frozen 4; have gf5 := k1.frozen 5; have x0 := k0.lt; have x1 := k1.lt)
  obtain ⟨wF, hwF⟩ : ∃ wF : World, wF = ((((((w1.setCell ⟨w.heap.size, 1, none⟩ (.slice A1 xs.length c1)).setCell ⟨w.heap.size + 1, 0, none⟩ (.string nm)).setCell ⟨w.heap.size + 1, 1, none⟩ (.slice A1 xs.length c1)).setCell ⟨w.heap.size + 1, 2, none⟩ (.int .i64 mlo)).setCell ⟨w.heap.size + 1, 3, none⟩ (.int .i64 mhi)).setCell ⟨w.heap.size + 1, 4, none⟩ (.int .i64 llo)).setCell ⟨w.heap.size + 1, 5, none⟩ (.int .i64 lhi) := ⟨_, rfl⟩
  have kF : Blk wF (w.heap.size + 1) 58 #[.string nm, .slice A1 xs.length c1, .int .i64 mlo, .int .i64 mhi, .int .i64 llo, .int .i64 lhi] := by
    rw [hwF]
    exact (((((((k1.far (p := ⟨w.heap.size, 1, none⟩) (Nat.succ_ne_self _)).set_ 0 _).set_ 1 _).set_ 2 _).set_ 3 _).set_ 4 _).set_ 5 _)
  obtain ⟨i0, i1, i2, i3, i4, i5⟩ := blk_six kF
  rw [← hwF]
  refine bodyPost_ret (v := .agg #[.string nm, .slice A1 xs.length c1, .int .i64 mlo, .int .i64 mhi, .int .i64 llo, .int .i64 lhi]) (by simp [results, Tryz.results25, go_sem, i0, i1, i2, i3, i4, i5]) rfl ⟨A1, c1, rfl, HRow.out.same fun b cs fz ht => ?_, hc1, ?_⟩
  all_goals rw [hwF]
  · have n0 : b ≠ w.heap.size := fun e => by
      subst e
      unfold Blk at k0
      rw [k0] at ht
      injection ht with ht
      injection ht with _ ht
      exact absurd ht (by decide)
    have n1 : b ≠ w.heap.size + 1 := fun e => by
      subst e
      unfold Blk at k1
      rw [k1] at ht
      injection ht with ht
      injection ht with _ ht
      exact absurd ht (by decide)
    simp only [ne_eq, n0, n1, not_false_eq_true, Below.heap_setCell]
  · exact ps (ps (ps (ps (ps (ps (ps (pt (pa (pa pr)) hb1) (Nat.le_refl _)) (Nat.le_succ _)) (Nat.le_succ _)) (Nat.le_succ _)) (Nat.le_succ _)) (Nat.le_succ _)) (Nat.le_succ _)

end Go.Proofs.YtbojmcopagbheaaGreatDoor
end

section
namespace Go.Proofs.YtbojmcopagbheaaGreatDoor
open Go.RowKit

/-- The values us are the cells of the lots xs, one behind the other. -/
def LotRow (w : World) (us : List Value) (xs : List Lot) : Prop :=
  us.length = xs.length * 6 ∧ ∀ i, i < xs.length → ∃ A c, us[i * 6]? = some (.string (xs.getD i default).name) ∧ us[i * 6 + 1]? = some (.slice A (xs.getD i default).made.length c) ∧ TextRow w A (xs.getD i default).made ∧ (xs.getD i default).made.length ≤ c ∧
    us[i * 6 + 2]? = some (.int .i64 (xs.getD i default).mlo) ∧ us[i * 6 + 3]? = some (.int .i64 (xs.getD i default).mhi) ∧ us[i * 6 + 4]? = some (.int .i64 (xs.getD i default).llo) ∧ us[i * 6 + 5]? = some (.int .i64 (xs.getD i default).lhi)

section
variable {w w' : World} {us : List Value} {xs : List Lot}
theorem LotRow.nil : LotRow w [] [] := ⟨rfl, fun i hi => by simp at hi⟩
theorem LotRow.same (h : LotRow w us xs) (hk : ∀ (b : Nat) (cs : Array Value) (fz : Nat × Nat), w.heap[b]? = some (Obj.cells cs 9 fz) → w'.heap[b]? = w.heap[b]?) : LotRow w' us xs :=
  ⟨h.1, fun i hi => by
    obtain ⟨A, c, h0, h1, h2, h3⟩ := h.2 i hi
    exact ⟨A, c, h0, h1, h2.same hk, h3⟩⟩
theorem LotRow.snoc (h : LotRow w us xs) {x : Lot} {A : Option Addr} {c : Nat} (hx : TextRow w A x.made) (hc : x.made.length ≤ c) :
    LotRow w (us ++ [.string x.name, .slice A x.made.length c, .int .i64 x.mlo, .int .i64 x.mhi, .int .i64 x.llo, .int .i64 x.lhi]) (xs ++ [x]) := by
  refine ⟨by simp [h.1]; omega, fun i hi => ?_⟩
  rcases Nat.lt_or_ge i xs.length with hl | hl
  · obtain ⟨A', c', h0, h1, h2, h3, h4, h5, h6, h7⟩ := h.2 i hl
    have e : (xs ++ [x]).getD i default = xs.getD i default := by simp [List.getD, List.getElem?_append_left hl]
    have hu := h.1
    rw [e]
    refine ⟨A', c', ?_, ?_, h2, h3, ?_, ?_, ?_, ?_⟩
    all_goals rw [List.getElem?_append_left (by omega)]; assumption
  · have hie : i = xs.length := by simp at hi; omega
    subst hie
    have e : (xs ++ [x]).getD xs.length default = x := by simp [List.getD]
    have hu := h.1
    rw [e]
    refine ⟨A, c, ?_, ?_, hx, hc, ?_, ?_, ?_, ?_⟩
    · rw [List.getElem?_append_right (by omega), show xs.length * 6 - us.length = 0 by omega]; rfl
    · rw [List.getElem?_append_right (by omega), show xs.length * 6 + 1 - us.length = 1 by omega]; rfl
    · rw [List.getElem?_append_right (by omega), show xs.length * 6 + 2 - us.length = 2 by omega]; rfl
    · rw [List.getElem?_append_right (by omega), show xs.length * 6 + 3 - us.length = 3 by omega]; rfl
    · rw [List.getElem?_append_right (by omega), show xs.length * 6 + 4 - us.length = 4 by omega]; rfl
    · rw [List.getElem?_append_right (by omega), show xs.length * 6 + 5 - us.length = 5 by omega]; rfl
theorem LotRow.lots {base n c : Nat} {A : Option Addr} (h : LotRow w us xs) (ho : w.ownsRow base 58 6 (.slice A n c) n us) : LotsIn w.heap.size w A xs := by
  rcases cellsIn_of_own ho with hu | ⟨b, off, hA, hb, hc⟩
  · refine .inl ?_
    have := h.1
    rw [hu] at this
    exact List.eq_nil_of_length_eq_zero (by simp at this; omega)
  · refine .inr ⟨b, off, hA, hb, fun i hi => ?_⟩
    obtain ⟨A', c', h0, h1, h2, h3, h4, h5, h6, h7⟩ := h.2 i hi
    have hl := h.1
    have hcell : ∀ q v, us[i * 6 + q]? = some v → w.cell? ⟨b, off + i * 6 + q, none⟩ = some v := fun q v hv => by
      rw [Nat.add_assoc]
      exact (hc _ (List.getElem?_eq_some_iff.1 hv).1).trans hv
    exact ⟨hcell 0 _ h0, A', c', hcell 1 _ h1, h2.row, h3, hcell 2 _ h4, hcell 3 _ h5, hcell 4 _ h6, hcell 5 _ h7⟩
theorem cellsIn_block (w : World) (t : TypeId) (cs : Array Value) : CellsIn (w.heap.size + 1) (w.alloc (.cells cs t)) (some ⟨w.heap.size, 0, none⟩) cs.toList := .inr ⟨w.heap.size, 0, rfl, by omega, fun q hq => by
  rw [Nat.zero_add]
  exact ((Blk.new w t cs).cell q).trans (by simp)⟩
end

theorem lot_info : (Tryz.prog.info? 58).map (fun i => (i.zero, i.size, i.bytes)) = some (some (.agg #[.string ByteArray.empty, .slice none 0 0, .int .i64 0, .int .i64 0, .int .i64 0, .int .i64 0]), 6, 72) := by kernel_rfl

/-- Lots of the callee's own. -/
def LotsRet (w : World) (xs : List Lot) (e : Ending) (w' : World) : Prop :=
  ∃ A c, e = .returned (.slice A xs.length c) ∧ LotsIn w'.heap.size w' A xs ∧ xs.length ≤ c ∧ Below w.heap.size w w'

set_option maxHeartbeats 4000000 in
set_option maxRecDepth 100000 in
theorem copyLots_any (B : Nat) (xs : List Lot) (A : Option Addr) (n c : Nat) (w : World) (hr : LotsIn B w A xs) (hn : xs.length = n) (hB : B ≤ w.heap.size) (hs : SmallLots xs) :
    Calls Tryz.prog 28 #[.slice A n c] w (LotsRet w xs) := by
  obtain ⟨i0, hi0, hz0, hz1, hz2⟩ := info_parts lot_info
  obtain ⟨hs1, hs2⟩ := hs
  have HR := Lib.hid hr
  have HS := Lib.hid hs2
  clear hr hs2
  subst hn
  go_enter Tryz.func28, Tryz.ntmps28
  go_wp2
  go_loopw [3, 4] (fun ov ix wr => ∃ (i : Nat) (A' : Option Addr) (c' : Nat) (us : List Value), ov = .slice A' i c' ∧ ix = .int .i64 (i : Int) ∧ i ≤ xs.length ∧ wr.ownsRow w.heap.size 58 6 (.slice A' i c') i us ∧ LotRow wr us (xs.take i) ∧ Below w.heap.size w wr) (fun _ ix _ => xs.length - (intOf ix).toNat)
  case atStart => exact ⟨0, none, 0, [], rfl, rfl, Nat.zero_le _, World.ownsRow_nil _ _ _ _, LotRow.nil, pr⟩
  case round =>
    obtain ⟨i, A', c', us, rfl, rfl, hi, hown, hrow, hq⟩ := hrel
    by_cases hlt : i < xs.length
    · obtain ⟨b, off, hA, hbB, hct⟩ := (HR.out.below (hq.mono hB)).at_ hlt
      subst hA
      obtain ⟨t0, A3, c3, t1, tr, tc, t2, t3, t4, t5⟩ := hct i hlt
      have hBr : B ≤ wr.heap.size := Nat.le_trans hB hq.size
      have hbw : b < wr.heap.size := Nat.lt_of_lt_of_le hbB hBr
      have n0 : (0 : Int) ≤ (i : Int) := by omega
      have n1 : (i : Int) < (xs.length : Int) := by omega
      have hstep := Lib.hid (show xs.take (i + 1) = xs.take i ++ [xs.getD i default] by
        have e : xs.getD i default = xs[i] := by simp [List.getD, hlt]
        rw [List.take_succ_eq_append_getElem hlt, e])
      have hsm := HS.out i hlt
      generalize xs.getD i default = x at *
      have HCall := Lib.hid (copyLot_any B x A3 x.made.length c3 wr rfl tr hBr hsm)
      have HOwn := Lib.hid hown
      have HRow := Lib.hid hrow
      have HQ := Lib.hid hq
      have hqs := hq.size
      clear hct hown hrow hsm tr hq
      go_wp2_with (first
        | (go_at_call 25; go_must (refine HCall.out.mono ?_); rintro e w1 ⟨A1, c1, rfl, hrow1, hc1, hb1⟩; have hzz := hb1.size; have HRow1 := Lib.hid hrow1; have HB1 := Lib.hid hb1; have HO1 := Lib.hid ((ownsRow_past hb1 HOwn.out).alloc (.cells #[.string x.name, .slice A1 x.made.length c1, .int .i64 x.mlo, .int .i64 x.mhi, .int .i64 x.llo, .int .i64 x.lhi] 58)); have HC := Lib.hid (cellsIn_block w1 58 #[.string x.name, .slice A1 x.made.length c1, .int .i64 x.mlo, .int .i64 x.mhi, .int .i64 x.llo, .int .i64 x.lhi]); clear hrow1 hb1 t0 t1 t2 t3 t4 t5)
        | (at_builtin; go_must (refine wpList_append_cells _ rfl (.tmp 11) (.tmp 17) _ rfl w.heap.size 58 i0 _ 6 72 Tryz.underlying53 hi0 hz0 hz1 hz2 rfl (by omega) _ i us rfl HO1.out (w1.heap.size + 1) (some ⟨w1.heap.size, 0, none⟩) 1 1 _ rfl HC.out rfl (by simp [Value.oneCell']) (by simp only [maxLen]; omega) (by omega) (by simp; omega) ?_); intro v3 w3 hown3 hg3 hat3; obtain ⟨A4, c4, rfl, hc4, hm4⟩ := own_form hown3))
      have HB3 := Lib.hid (show Below w.heap.size w w3 from pg (pa (pt HQ.out HB1.out)) HO1.out (Nat.le_refl _) hg3)
      have HRow3 := Lib.hid (((HRow.out.same (TextRow.kept_below HB1.out)).snoc HRow1.out hc1 |>.same (TextRow.kept_below (pa pr))).same (TextRow.kept_rows HO1.out (by decide) hg3))
      have HOwn3 := Lib.hid hown3
      clear hown3 hg3 hat3
      go_roundw
      case rel => exact ⟨i + 1, A4, c4, _, rfl, by go_num, by omega, HOwn3.out, by rw [hstep.out]; exact HRow3.out, HB3.out⟩
      case measure => simp [intOf]; omega
    · obtain rfl : i = xs.length := by omega
      rw [List.take_length] at hrow
      have HL := Lib.hid (hrow.lots hown)
      obtain ⟨A2, c2, hv, hcap, _⟩ := own_form hown
      have hcap' : xs.length ≤ c' := by injection hv with _ _ h; omega
      clear hown hrow hv
      go_wp2
      go_ret
      exact ⟨A', c', rfl, HL.out, hcap', hq⟩

end Go.Proofs.YtbojmcopagbheaaGreatDoor
end
