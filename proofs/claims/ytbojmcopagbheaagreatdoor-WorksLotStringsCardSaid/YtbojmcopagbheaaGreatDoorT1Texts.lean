/- Contracts: base.HasText, base.CopyTexts; the specification's Find and rangeErr. Lengths at most 1000. -/
import Derived.Test.YtbojmcopagbheaaGreatDoorZDSets
import Derived.Test.YtbojmcopagbheaaGreatDoorZTRefStack
namespace Go.Proofs.YtbojmcopagbheaaGreatDoor
open Go.RowKit

def hasT (xs : List ByteArray) (x : ByteArray) : Bool := anyG (sameS x) xs
theorem anyG_step {α : Type} (p : α → Bool) (xs : List α) (k : Nat) (d : α) (h : k < xs.length) : anyG p (xs.drop k) = if p (xs.getD k d) = true then true else anyG p (xs.drop (k + 1)) := by
  have e : xs.getD k d = xs[k] := by simp [List.getD, h]
  rw [List.drop_eq_getElem_cons h, e]
  unfold anyG
  rw [List.any_cons]
  cases p xs[k] <;> simp

set_option maxHeartbeats 400000 in
theorem baseHasText_any (B : Nat) (A : Option Addr) (n c : Nat) (xs : List ByteArray) (x : ByteArray) (w : World) (hr : RowIn Value.string B w A xs) (hn : xs.length = n) (hm : n ≤ 100000) :
    Calls Tryz.prog 31 #[.slice A n c, .string x] w fun e w' => e = .returned (.bool (hasT xs x)) ∧ w = w' := by
  subst hn
  have HD := Lib.hid (show hasT xs x = anyG (sameS x) xs from rfl)
  generalize hasT xs x = V at *
  go_enter Tryz.func31, Tryz.ntmps31
  go_wp2
  go_loop [5] (fun i => ∃ k : Nat, k ≤ xs.length ∧ i = .int .i64 k ∧ V = anyG (sameS x) (xs.drop k)) (fun i => xs.length - (intOf i).toNat)
  case atStart => exact ⟨0, Nat.zero_le _, rfl, HD.out⟩
  case round =>
    obtain ⟨k, hk, rfl, hf⟩ := hrel
    by_cases hlt : k < xs.length
    · obtain ⟨b, off, rfl, hb, hc⟩ := hr.at_ hlt
      have hcell := hc k hlt
      have HF := Lib.hid (hf.trans (anyG_step (sameS x) xs k default hlt))
      clear hc hf hr
      generalize xs.getD k default = y at *
      have hs : sameS x y = (y.toList == x.toList) := by rw [sameS_comm]; exact sameS_list y x
      cases hxy : sameS x y with
      | true =>
        have HX := Lib.hid hxy
        have hb : (y.toList == x.toList) = true := by rw [← hs]; exact hxy
        clear hs hxy
        go_wp2
        go_ret
        exact ⟨ret_bool (by rw [HF.out, HX.out]; simp), rfl⟩
      | false =>
        have HX := Lib.hid hxy
        have hb : (y.toList == x.toList) = false := by rw [← hs]; exact hxy
        clear hs hxy
        go_wp2
        go_round
        case rel => exact ⟨k + 1, by omega, by go_num, by rw [HF.out, HX.out]; simp⟩
        case measure => simp [intOf]; omega
    · have HF := Lib.hid (show V = false by
        rw [hf, List.drop_eq_nil_of_le (by omega)]
        rfl)
      clear hf
      go_wp2
      go_ret
      exact ⟨ret_bool HF.out.symm, rfl⟩

/-- From A on lie the strings xs, in a block of strings. -/
def TextRow (w : World) (A : Option Addr) (xs : List ByteArray) : Prop :=
  xs = [] ∨ ∃ b off, A = some ⟨b, off, none⟩ ∧ (∃ (cs : Array Value) (fz : Nat × Nat), w.heap[b]? = some (Obj.cells cs 9 fz)) ∧ ∀ j, j < xs.length → w.cell? ⟨b, off + j, none⟩ = some (.string (xs.getD j default))
section
variable {w w' : World} {A : Option Addr} {xs : List ByteArray}
theorem TextRow.same (h : TextRow w A xs) (hk : ∀ (b : Nat) (cs : Array Value) (fz : Nat × Nat), w.heap[b]? = some (Obj.cells cs 9 fz) → w'.heap[b]? = w.heap[b]?) : TextRow w' A xs := by
  rcases h with h | ⟨b, off, hA, ⟨cs, fz, ht⟩, hc⟩
  · exact .inl h
  · exact .inr ⟨b, off, hA, ⟨cs, fz, (hk b cs fz ht).trans ht⟩, fun j hj => (World.cell?_of_block (hk b cs fz ht)).trans (hc j hj)⟩
theorem TextRow.row (h : TextRow w A xs) : RowIn Value.string w.heap.size w A xs := by
  rcases h with h | ⟨b, off, hA, ⟨cs, fz, ht⟩, hc⟩
  · exact .inl h
  · exact .inr ⟨b, off, hA, (Array.getElem?_eq_some_iff.1 ht).1, hc⟩
theorem TextRow.kept_below (hb : Below w.heap.size w w') : ∀ (b : Nat) (cs : Array Value) (fz : Nat × Nat), w.heap[b]? = some (Obj.cells cs 9 fz) → w'.heap[b]? = w.heap[b]? :=
  fun b _ _ ht => hb.block b (Array.getElem?_eq_some_iff.1 ht).1
theorem TextRow.past (h : TextRow w A xs) (hb : Below w.heap.size w w') : TextRow w' A xs := h.same (TextRow.kept_below hb)
theorem TextRow.kept_rows {base : Nat} {e : TypeId} {size n : Nat} {v : Value} {cs : List Value} (ho : w.ownsRow base e size v n cs) (hne : e ≠ 9) (hg : w.grownBy w' v.ownBlock) :
    ∀ (b : Nat) (cs : Array Value) (fz : Nat × Nat), w.heap[b]? = some (Obj.cells cs 9 fz) → w'.heap[b]? = w.heap[b]? := fun b cs fz ht => hg.block b (Array.getElem?_eq_some_iff.1 ht).1 fun he => by
  rcases ho.2 with ⟨h1, _⟩ | ⟨g, cap, cur, h1, _, hh, _⟩
  · rw [h1] at he; cases he
  · rw [h1] at he
    have : b = g := by simpa [Value.ownBlock] using he
    subst this
    rw [hh] at ht
    injection ht with ht
    injection ht with _ ht
    exact hne ht
theorem textRow_of_own {base n c : Nat} (h : w.ownsRow base 9 1 (.slice A n c) n (xs.map Value.string)) : TextRow w A xs := by
  have hi := rowS_of_own h
  rcases h.2 with ⟨h1, h2⟩ | ⟨g, cap, cur, hv, _, hh, _⟩
  · refine .inl ?_
    have := h.1
    rw [h2] at this
    simpa using this
  · injection hv with hA _ _
    rcases hi with h | ⟨b, off, hA2, hb, hc⟩
    · exact .inl h
    · rw [hA] at hA2
      injection hA2 with hA2
      injection hA2 with e1 e2 _
      subst e1 e2
      exact .inr ⟨g, 0, hA, ⟨cur, (0, 0), hh⟩, hc⟩
theorem RowIn.strs {B : Nat} (h : RowIn Value.string B w A xs) : CellsIn B w A (xs.map Value.string) := by
  rcases h with h | ⟨b, off, hA, hb, hc⟩
  · exact .inl (by simp [h])
  · exact .inr ⟨b, off, hA, hb, fun j hj => by
      have hj' : j < xs.length := by simpa using hj
      rw [hc j hj']
      simp [List.getD, hj']⟩
end

/-- A row of strings of the callee's own. -/
def TextRet (w : World) (xs : List ByteArray) (e : Ending) (w' : World) : Prop :=
  ∃ A c, e = .returned (.slice A xs.length c) ∧ TextRow w' A xs ∧ xs.length ≤ c ∧ Below w.heap.size w w'

set_option maxRecDepth 100000 in
set_option maxHeartbeats 400000 in
theorem copyTexts_any (B : Nat) (A : Option Addr) (n c : Nat) (xs : List ByteArray) (w : World) (hr : RowIn Value.string B w A xs) (hn : xs.length = n) (hB : B ≤ w.heap.size) (hm : n ≤ 1000) :
    Calls Tryz.prog 66 #[.slice A n c] w (TextRet w xs) := by
  obtain ⟨i0, hi0, hz0, hz1, hz2⟩ := info_parts string_info
  have HR := Lib.hid hr.strs
  have HN := Lib.hid hn
  clear hr hn
  go_enter Tryz.func66, Tryz.ntmps66
  have own0 : (w.alloc (.cells #[] 9)).ownsRow w.heap.size 9 1 (.slice (some ⟨w.heap.size, 0, none⟩) 0 0) 0 [] := World.ownsRow_lit w #[] 0 (Nat.le_refl _) (Nat.zero_le _) rfl
  have hcl : CellsIn B (w.alloc (.cells #[] 9)) A (List.map Value.string xs) := HR.out.below ((pa (Below.refl _ w)).mono hB)
  have hone : ∀ u ∈ List.map Value.string xs, u.oneCell' = true := by simp [Value.oneCell']
  have hlen : (List.map Value.string xs).length = n * 1 := by simp [HN.out]
  have hmx : 0 + n ≤ maxLen := by simp only [maxLen]; omega
  have HO := Lib.hid own0
  have HC := Lib.hid hcl
  have H1 := Lib.hid hone
  have HL := Lib.hid hlen
  have HM := Lib.hid hmx
  clear own0 hcl hone hlen hmx
  go_wp2_with (at_builtin; go_must (refine wpList_append_cells _ rfl (.tmp 3) (.tmp 4) _ rfl w.heap.size 9 i0 _ 1 16 Tryz.underlying56 hi0 hz0 hz1 hz2 rfl (by omega) (.slice (some ⟨w.heap.size, 0, none⟩) 0 0) 0 [] rfl HO.out B A n c _ rfl HC.out HL.out H1.out HM.out (by omega) (by simp) ?_); intro v1 w1 hown1 hg1 hat1)
  have HG := Lib.hid (pg (pa pr) HO.out (Nat.le_refl _) hg1)
  clear hg1
  rw [Nat.zero_add, List.nil_append] at hown1
  obtain ⟨A1, c1, rfl, hc1, _⟩ := own_form hown1
  have HT := Lib.hid (textRow_of_own hown1)
  clear hown1
  go_ret
  exact ⟨A1, c1, by rw [HN.out]; rfl, HT.out, by rw [HN.out]; exact hc1, HG.out⟩

/-- Whether a lot has a name. -/
def hasName (z : ByteArray) (x : Lot) : Bool := sameS x.name z

set_option maxHeartbeats 1000000 in
set_option maxRecDepth 100000 in
theorem refFind_any (B : Nat) (xs : List Lot) (A : Option Addr) (n c : Nat) (z : ByteArray) (w : World) (hr : LotsIn B w A xs) (hn : xs.length = n) (hm : n ≤ 1000) :
    Calls Tryz.prog 102 #[.slice A n c, .string z] w fun e w' => e = .returned (.int .i64 (findG (hasName z) xs 0)) ∧ w = w' := by
  subst hn
  have HD := Lib.hid (rfl : findG (hasName z) xs 0 = findG (hasName z) xs 0)
  generalize hV : findG (hasName z) xs 0 = V at HD ⊢
  have HV := Lib.hid hV
  clear hV
  go_enter Tryz.func102, Tryz.ntmps102
  go_wp2
  go_loop [5] (fun i => ∃ k : Nat, k ≤ xs.length ∧ i = .int .i64 k ∧ V = findG (hasName z) xs k) (fun i => xs.length - (intOf i).toNat)
  case atStart => exact ⟨0, Nat.zero_le _, rfl, HV.out.symm⟩
  case round =>
    obtain ⟨k, hk, rfl, hf⟩ := hrel
    by_cases hlt : k < xs.length
    · obtain ⟨b, off, rfl, hb, hc⟩ := hr.at_ hlt
      have hcell := (hc k hlt).1
      have HF := Lib.hid (hf.trans (findG_step (hasName z) xs k default hlt))
      have n0 : (0 : Int) ≤ (k : Int) := by omega
      have n1 : (k : Int) < (xs.length : Int) := by omega
      clear hc hf hr
      generalize xs.getD k default = y at *
      have hs : hasName z y = (y.name.toList == z.toList) := sameS_list y.name z
      cases hxy : hasName z y with
      | true =>
        have HX := Lib.hid hxy
        have hb : (y.name.toList == z.toList) = true := by rw [← hs]; exact hxy
        clear hs hxy
        go_wp2
        go_ret
        exact ⟨ret_int (by rw [HF.out, HX.out]; simp), rfl⟩
      | false =>
        have HX := Lib.hid hxy
        have hb : (y.name.toList == z.toList) = false := by rw [← hs]; exact hxy
        clear hs hxy
        go_wp2
        go_round
        case rel => exact ⟨k + 1, by omega, by go_num, by rw [HF.out, HX.out]; simp⟩
        case measure => simp [intOf]; omega
    · have HF := Lib.hid (show V = -1 by rw [hf]; exact findG_end _ _ _ (by omega))
      clear hf
      go_wp2
      go_ret
      exact ⟨ret_int HF.out.symm, rfl⟩

set_option maxHeartbeats 1000000 in
theorem refRange_any (lo hi : Int) (w : World) :
    Calls Tryz.prog 83 #[.agg #[.int .i64 lo, .int .i64 hi]] w fun e w' => e = .returned (.int .i64 (rangeErrV valueB lo hi)) ∧ Below w.heap.size w w' := by
  have hc := rangeErrV_cases valueB lo hi
  generalize rangeErrV valueB lo hi = R at *
  unfold valueB at hc
  rcases hc with ⟨h1, rfl⟩ | ⟨h1, h2, rfl⟩ | ⟨h1, h2, h3, rfl⟩ | ⟨h1, h2, h3, rfl⟩
  all_goals
    go_enter Tryz.func83, Tryz.ntmps83
    go_wp2_with (go_at_call 8; refine (baseWithin_any _ _ _ _).mono ?_; rintro e w' ⟨rfl, rfl⟩)
    go_ret
    exact ⟨rfl, pa pr⟩

theorem index_byte (s : ByteArray) (k : Nat) (hk : k < s.size) (w : World) : (Instr.index 9 (.string s) (.int .i64 (k : Int))).run Tryz.prog w = .ok (.int .u8 (byteAt s k)) w := by
  rw [run_index_string w 9 s .i64 (k : Int) Tryz.underlying9, dif_pos ⟨by omega, by omega⟩]
  have e : ((k : Int)).toNat = k := by omega
  have hb : k < s.data.size := hk
  simp only [e, byteAt]
  congr 3
  show (s.data[k]'hb).toNat = (s.data.getD k 0).toNat
  rw [Array.getD, dif_pos hb]
  rfl

set_option maxHeartbeats 1000000 in
set_option maxRecDepth 100000 in
theorem baseIsName_any (s : ByteArray) (w : World) (hs : s.size ≤ 1000) :
    Calls Tryz.prog 82 #[.string s] w fun e w' => e = .returned (.bool (nameB s)) ∧ w = w' := by
  have hw : withinB s.size 1 12 = (decide (1 ≤ (s.size : Int)) && decide ((s.size : Int) ≤ 12)) := rfl
  by_cases h0 : (s.size : Int) < 1
  · have HR := Lib.hid (show nameB s = false by unfold nameB; rw [hw, decide_eq_false (by omega)]; simp)
    clear hw
    have h0n : s.size < 1 := by omega
    go_enter Tryz.func82, Tryz.ntmps82
    go_wp2
    go_ret
    exact ⟨ret_bool HR.out.symm, rfl⟩
  · by_cases h1 : (12 : Int) < (s.size : Int)
    · have HR := Lib.hid (show nameB s = false by unfold nameB; rw [hw, decide_eq_false (show ¬ (s.size : Int) ≤ 12 by omega)]; simp)
      clear hw
      have h0d : decide ((s.size : Int) < 1) = false := decide_eq_false h0
      have h0n : ¬ s.size < 1 := by omega
      have h0m : ¬ s.size = 0 := by omega
      have h1n : 12 < s.size := by omega
      go_enter Tryz.func82, Tryz.ntmps82
      go_wp2
      go_ret
      exact ⟨ret_bool HR.out.symm, rfl⟩
    · have HW := Lib.hid (show withinB s.size 1 12 = true by rw [hw, decide_eq_true (show 1 ≤ (s.size : Int) by omega), decide_eq_true (show (s.size : Int) ≤ 12 by omega)]; rfl)
      clear hw
      have h0d : decide ((s.size : Int) < 1) = false := decide_eq_false h0
      have h1d : decide ((12 : Int) < (s.size : Int)) = false := decide_eq_false h1
      have h0n : ¬ s.size < 1 := by omega
      have h0m : ¬ s.size = 0 := by omega
      have h1n : ¬ 12 < s.size := by omega
      go_enter Tryz.func82, Tryz.ntmps82
      go_wp2
      clear h0d h1d h0n h0m h1n h0 h1
      go_loop [3] (fun i => ∃ k : Nat, k ≤ s.size ∧ i = .int .i64 k ∧ charsB s k = true) (fun i => s.size - (intOf i).toNat)
      case atStart => exact ⟨0, Nat.zero_le _, rfl, rfl⟩
      case round =>
        obtain ⟨k, hk, rfl, hf⟩ := hrel
        have HF := Lib.hid hf
        clear hf
        by_cases hlt : k < s.size
        · have hcell := index_byte s k hlt
          have hbd := byteAt_bd s k
          have hcase := char_cases k (byteAt s k) hbd.1 hbd.2
          have HS := Lib.hid (charsB_succ s k)
          generalize byteAt s k = c at *
          obtain ⟨hb0, hb1⟩ := hbd
          rcases hcase with ⟨hc, hcs⟩ | ⟨hc, hk1, hcs⟩ | ⟨hc, hk1, hcs⟩ | ⟨hc, hk1, hcs⟩
          · have HS2 := Lib.hid (show charsB s (k + 1) = true by rw [HS.out, HF.out, hc]; rfl)
            clear hc
            rcases hcs with ⟨h2, h3⟩ | ⟨h2, h3⟩
            all_goals
              go_wp2
              go_round
              case rel => exact ⟨k + 1, by omega, by go_num, HS2.out⟩
              case measure => simp [intOf]; omega
          · have HS2 := Lib.hid (show charsB s (k + 1) = true by rw [HS.out, HF.out, hc]; rfl)
            have hk0 : ((k : Int) == 0) = false := by simp; omega
            clear hc
            rcases hcs with rfl | ⟨h2, h3⟩
            · go_wp2
              go_round
              case rel => exact ⟨k + 1, by omega, by go_num, HS2.out⟩
              case measure => simp [intOf]; omega
            · have hne : (c != 45) = true := by rw [bne_iff_ne]; omega
              have g1 : decide (c ≤ 90) = true := decide_eq_true (by omega)
              have g2 : decide (65 ≤ c) = false := decide_eq_false (by omega)
              have g3 : decide (97 ≤ c) = false := decide_eq_false (by omega)
              have g4 : decide (c < 48) = false := decide_eq_false (by omega)
              have g5 : decide (57 < c) = false := decide_eq_false (by omega)
              go_wp2
              go_round
              case rel => exact ⟨k + 1, by omega, by go_num, HS2.out⟩
              case measure => simp [intOf]; omega
          · have HR := Lib.hid (show nameB s = false by
              unfold nameB
              rw [charsB_false (k := k + 1) (by rw [HS.out, HF.out, hc]; rfl) s.size hlt]
              rfl)
            have hk0 : ((k : Int) == 0) = true := by simp [hk1]
            clear hc hk1
            rcases hcs with h2 | ⟨h2, h3⟩ | h2
            all_goals
              try have g1 : decide (c ≤ 90) = false := decide_eq_false (by omega)
              try have g2 : decide (c ≤ 122) = false := decide_eq_false (by omega)
              go_wp2
              go_ret
              exact ⟨ret_bool HR.out.symm, rfl⟩
          · have HR := Lib.hid (show nameB s = false by
              unfold nameB
              rw [charsB_false (k := k + 1) (by rw [HS.out, HF.out, hc]; rfl) s.size hlt]
              rfl)
            have hk0 : ((k : Int) == 0) = false := by simp; omega
            have hne : (c != 45) = true := by rw [bne_iff_ne]; omega
            clear hc
            rcases hcs with h2 | ⟨h2, h3⟩ | ⟨h2, h3⟩ | ⟨h2, h3⟩ | h2
            all_goals
              try have g1 : decide (c ≤ 90) = false := decide_eq_false (by omega)
              try have g2 : decide (c ≤ 122) = false := decide_eq_false (by omega)
              try have g3 : decide (c < 48) = false := decide_eq_false (by omega)
              go_wp2
              go_ret
              exact ⟨ret_bool HR.out.symm, rfl⟩
        · have hke : k = s.size := by omega
          subst hke
          have HR := Lib.hid (show nameB s = true by unfold nameB; rw [HF.out, HW.out]; rfl)
          go_wp2
          go_ret
          exact ⟨ret_bool HR.out.symm, rfl⟩

end Go.Proofs.YtbojmcopagbheaaGreatDoor
