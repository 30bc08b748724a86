/- Contracts: whether a string is a name (design, base). Strings of at most 1000 bytes. -/
import Derived.Test.YtnfbdkdjoekifaaGreatDoorOa5
import Derived.Test.YtnfbdkdjoekifaaGreatDoorOa4
import Derived.Laws.IdiomStrings

section
namespace Go.Proofs.YtnfbdkdjoekifaaGreatDoor
open Go.RowKit

def byteAt (s : ByteArray) (i : Nat) : Int := ((s.data.getD i 0).toNat : Int)
def letterB (c : Int) : Bool := (decide (97 ≤ c) && decide (c ≤ 122)) || (decide (65 ≤ c) && decide (c ≤ 90))
def charB (i : Nat) (c : Int) : Bool := letterB c || (!(i == 0) && (c == 45 || withinB c 48 57))
def charsB (s : ByteArray) (k : Nat) : Bool := (List.range k).all fun i => charB i (byteAt s i)
def nameB (s : ByteArray) : Bool := charsB s s.size && withinB s.size 1 12

theorem charsB_succ (s : ByteArray) (k : Nat) : charsB s (k + 1) = (charsB s k && charB k (byteAt s k)) := by
  unfold charsB
  rw [List.range_succ, List.all_append]
  simp
theorem charsB_false {s : ByteArray} {k : Nat} (h : charsB s k = false) : ∀ n, k ≤ n → charsB s n = false := by
  intro n hn
  obtain ⟨m, rfl⟩ : ∃ m, n = k + m := ⟨n - k, by omega⟩
  clear hn
  induction m with
  | zero => exact h
  | succ m ih => rw [← Nat.add_assoc, charsB_succ, ih]; rfl
theorem byteAt_bd (s : ByteArray) (i : Nat) : 0 ≤ byteAt s i ∧ byteAt s i ≤ 255 := by
  unfold byteAt
  have := (s.data.getD i 0).toNat_lt
  omega

/-- The cases of a byte: what decides whether it may stand at place k. -/
theorem char_cases (k : Nat) (c : Int) (h0 : 0 ≤ c) (h1 : c ≤ 255) :
    (charB k c = true ∧ ((97 ≤ c ∧ c ≤ 122) ∨ (65 ≤ c ∧ c ≤ 90))) ∨
    (charB k c = true ∧ 1 ≤ k ∧ ((c = 45) ∨ (48 ≤ c ∧ c ≤ 57))) ∨
    (charB k c = false ∧ k = 0 ∧ ((c ≤ 64) ∨ (91 ≤ c ∧ c ≤ 96) ∨ 123 ≤ c)) ∨
    (charB k c = false ∧ 1 ≤ k ∧ ((c ≤ 44) ∨ (46 ≤ c ∧ c ≤ 47) ∨ (58 ≤ c ∧ c ≤ 64) ∨ (91 ≤ c ∧ c ≤ 96) ∨ 123 ≤ c)) := by
  have e : charB k c = true ↔ ((97 ≤ c ∧ c ≤ 122) ∨ (65 ≤ c ∧ c ≤ 90)) ∨ (k ≠ 0 ∧ (c = 45 ∨ (48 ≤ c ∧ c ≤ 57))) := by
    simp [charB, letterB, withinB]
  cases h : charB k c with
  | true =>
    rcases e.1 h with e | ⟨hk, e⟩
    · exact .inl ⟨rfl, e⟩
    · exact .inr (.inl ⟨rfl, by omega, e⟩)
  | false =>
    have e2 : ¬(((97 ≤ c ∧ c ≤ 122) ∨ (65 ≤ c ∧ c ≤ 90)) ∨ (k ≠ 0 ∧ (c = 45 ∨ (48 ≤ c ∧ c ≤ 57)))) := fun hh => by
      rw [e.2 hh] at h; cases h
    by_cases hk : k = 0
    · exact .inr (.inr (.inl ⟨rfl, hk, by omega⟩))
    · exact .inr (.inr (.inr ⟨rfl, by omega, by omega⟩))

set_option maxHeartbeats 1000000 in
set_option maxRecDepth 100000 in
theorem isName_any (s : ByteArray) (w : World) (hs : s.size ≤ 1000) :
    Calls Tryz.prog 90 #[.string s] w fun e w' => e = .returned (.bool (nameB s)) ∧ Below w.heap.size w w' := by
  have hconv := fun w => run_bytes_of_string (P := Tryz.prog) w 9 130 5 s Tryz.underlying9 Tryz.underlying130 Tryz.underlying5
  obtain ⟨C, cap, fr, hC, hCe⟩ : ∃ (C : Array Value) (cap : Nat) (fr : Nat × Nat), (∀ j, j < s.size → C[j]? = some (.int .u8 (byteAt s j))) ∧ (convert 9 130 (.string s)).run Tryz.prog w = .ok (.slice (some ⟨w.heap.size, 0, none⟩) s.size cap) (w.alloc (.cells C 5 fr)).drew := by
    refine ⟨_, _, _, fun j hj => ?_, hconv w⟩
    rw [bytesRow_at s _ j hj]
    simp [byteAt, Array.getD, hj]
  have hcell : ∀ j, j < s.size → (w.alloc (.cells C 5 fr)).cell? ⟨w.heap.size, j, none⟩ = some (.int .u8 (byteAt s j)) := fun j hj => (World.cell?_alloc_mark w C 5 fr j).trans (hC j hj)
  have HCell := Lib.hid hcell
  have hb : Below w.heap.size w (w.alloc (.cells C 5 fr)).drew := pd (pa pr)
  have HB := Lib.hid hb
  clear hconv hC hcell hb
  go_enter Tryz.func90, Tryz.ntmps90
  go_wp2
  go_loop [9] (fun i => ∃ k : Nat, k ≤ s.size ∧ i = .int .i64 k ∧ charsB s k = true) (fun i => s.size - (intOf i).toNat)
  case atStart => exact ⟨0, Nat.zero_le _, rfl, rfl⟩
  case round =>
    obtain ⟨k, hk, rfl, hf⟩ := hrel
    have HF := Lib.hid hf
    clear hf
    by_cases hlt : k < s.size
    · have hcell := HCell.out k hlt
      have hbd := byteAt_bd s k
      have hcase := char_cases k (byteAt s k) hbd.1 hbd.2
      have HS := Lib.hid (charsB_succ s k)
      generalize byteAt s k = c at *
      obtain ⟨hb0, hb1⟩ := hbd
      have h48 : withinB c 48 57 = (decide (48 ≤ c) && decide (c ≤ 57)) := rfl
      rcases hcase with ⟨hc, hcs⟩ | ⟨hc, hk1, hcs⟩ | ⟨hc, hk1, hcs⟩ | ⟨hc, hk1, hcs⟩
      · have HS2 := Lib.hid (show charsB s (k + 1) = true by rw [HS.out, HF.out, hc]; rfl)
        clear hc h48
        rcases hcs with ⟨h2, h3⟩ | ⟨h2, h3⟩
        all_goals
          go_wp2
          go_round
          case rel => exact ⟨k + 1, by omega, by go_num, HS2.out⟩
          case measure => simp [intOf]; omega
      · have HS2 := Lib.hid (show charsB s (k + 1) = true by rw [HS.out, HF.out, hc]; rfl)
        have hk0 : ((k : Int) == 0) = false := by simp; omega
        clear hc
        rcases hcs with rfl | ⟨h2, h3⟩
        · clear h48
          go_wp2
          go_round
          case rel => exact ⟨k + 1, by omega, by go_num, HS2.out⟩
          case measure => simp [intOf]; omega
        · have hne : (c != 45) = true := by rw [bne_iff_ne]; omega
          have h48' : withinB c 48 57 = true := by rw [h48]; simp; omega
          clear h48
          go_wp2_with (go_at_call 49; refine (within_any _ _ _ _).mono ?_; rintro e w' ⟨rfl, rfl⟩)
          go_round
          case rel => exact ⟨k + 1, by omega, by go_num, HS2.out⟩
          case measure => simp [intOf]; omega
      · have hres : nameB s = false := by
          unfold nameB
          rw [charsB_false (k := k + 1) (by rw [HS.out, HF.out, hc]; rfl) s.size hlt]
          rfl
        have HR := Lib.hid hres
        have hk0 : ((k : Int) == 0) = true := by simp [hk1]
        clear hc hres h48 hk1
        rcases hcs with h2 | ⟨h2, h3⟩ | h2
        all_goals
          try have g1 : decide (c ≤ 90) = false := decide_eq_false (by omega)
          try have g2 : decide (c ≤ 122) = false := decide_eq_false (by omega)
          go_wp2
          go_ret
          exact ⟨ret_bool HR.out.symm, HB.out⟩
      · have hres : nameB s = false := by
          unfold nameB
          rw [charsB_false (k := k + 1) (by rw [HS.out, HF.out, hc]; rfl) s.size hlt]
          rfl
        have HR := Lib.hid hres
        have hk0 : ((k : Int) == 0) = false := by simp; omega
        have hne : (c != 45) = true := by rw [bne_iff_ne]; omega
        have h48' : withinB c 48 57 = false := by rw [h48]; simp; omega
        clear hc hres h48
        rcases hcs with h2 | ⟨h2, h3⟩ | ⟨h2, h3⟩ | ⟨h2, h3⟩ | h2
        all_goals
          try have g1 : decide (c ≤ 90) = false := decide_eq_false (by omega)
          try have g2 : decide (c ≤ 122) = false := decide_eq_false (by omega)
          go_wp2_with (go_at_call 49; refine (within_any _ _ _ _).mono ?_; rintro e w' ⟨rfl, rfl⟩)
          go_ret
          exact ⟨ret_bool HR.out.symm, HB.out⟩
    · have hke : k = s.size := by omega
      subst hke
      have HR := Lib.hid (show nameB s = withinB s.size 1 12 by unfold nameB; rw [HF.out]; rfl)
      go_wp2_with (go_at_call 49; refine (within_any _ _ _ _).mono ?_; rintro e w' ⟨rfl, rfl⟩)
      go_ret
      exact ⟨ret_bool HR.out.symm, HB.out⟩


theorem index_byte (s : ByteArray) (k : Nat) (hk : k < s.size) (w : World) : (Instr.index 9 (.string s) (.int .i64 (k : Int))).run Tryz.prog w = .ok (.int .u8 (byteAt s k)) w := by
  rw [run_index_string w 9 s .i64 (k : Int) Tryz.underlying9, dif_pos ⟨by omega, by omega⟩]
  have e : ((k : Int)).toNat = k := by omega
  have hb : k < s.data.size := hk
  simp only [e, byteAt]
  congr 3
  show (s.data[k]'hb).toNat = (s.data.getD k 0).toNat
  rw [Array.getD, dif_pos hb]
  rfl

set_option maxHeartbeats 1000000 in
set_option maxRecDepth 100000 in
theorem baseIsName_any (s : ByteArray) (w : World) (hs : s.size ≤ 1000) :
    Calls Tryz.prog 98 #[.string s] w fun e w' => e = .returned (.bool (nameB s)) ∧ w = w' := by
  have hw : withinB s.size 1 12 = (decide (1 ≤ (s.size : Int)) && decide ((s.size : Int) ≤ 12)) := rfl
  by_cases h0 : (s.size : Int) < 1
  · have HR := Lib.hid (show nameB s = false by unfold nameB; rw [hw, decide_eq_false (by omega)]; simp)
    clear hw
    have h0n : s.size < 1 := by omega
    go_enter Tryz.func98, Tryz.ntmps98
    go_wp2
    go_ret
    exact ⟨ret_bool HR.out.symm, rfl⟩
  · by_cases h1 : (12 : Int) < (s.size : Int)
    · have HR := Lib.hid (show nameB s = false by unfold nameB; rw [hw, decide_eq_false (show ¬ (s.size : Int) ≤ 12 by omega)]; simp)
      clear hw
      have h0d : decide ((s.size : Int) < 1) = false := decide_eq_false h0
      have h0n : ¬ s.size < 1 := by omega
      have h0m : ¬ s.size = 0 := by omega
      have h1n : 12 < s.size := by omega
      go_enter Tryz.func98, Tryz.ntmps98
      go_wp2
      go_ret
      exact ⟨ret_bool HR.out.symm, rfl⟩
    · have HW := Lib.hid (show withinB s.size 1 12 = true by rw [hw, decide_eq_true (show 1 ≤ (s.size : Int) by omega), decide_eq_true (show (s.size : Int) ≤ 12 by omega)]; rfl)
      clear hw
      have h0d : decide ((s.size : Int) < 1) = false := decide_eq_false h0
      have h1d : decide ((12 : Int) < (s.size : Int)) = false := decide_eq_false h1
      have h0n : ¬ s.size < 1 := by omega
      have h0m : ¬ s.size = 0 := by omega
      have h1n : ¬ 12 < s.size := by omega
      go_enter Tryz.func98, Tryz.ntmps98
      go_wp2
      clear h0d h1d h0n h0m h1n h0 h1
      go_loop [3] (fun i => ∃ k : Nat, k ≤ s.size ∧ i = .int .i64 k ∧ charsB s k = true) (fun i => s.size - (intOf i).toNat)
      case atStart => exact ⟨0, Nat.zero_le _, rfl, rfl⟩
      case round =>
        obtain ⟨k, hk, rfl, hf⟩ := hrel
        have HF := Lib.hid hf
        clear hf
        by_cases hlt : k < s.size
        · have hcell := index_byte s k hlt
          have hbd := byteAt_bd s k
          have hcase := char_cases k (byteAt s k) hbd.1 hbd.2
          have HS := Lib.hid (charsB_succ s k)
          generalize byteAt s k = c at *
          obtain ⟨hb0, hb1⟩ := hbd
          rcases hcase with ⟨hc, hcs⟩ | ⟨hc, hk1, hcs⟩ | ⟨hc, hk1, hcs⟩ | ⟨hc, hk1, hcs⟩
          · have HS2 := Lib.hid (show charsB s (k + 1) = true by rw [HS.out, HF.out, hc]; rfl)
            clear hc
            rcases hcs with ⟨h2, h3⟩ | ⟨h2, h3⟩
            all_goals
              go_wp2
              go_round
              case rel => exact ⟨k + 1, by omega, by go_num, HS2.out⟩
              case measure => simp [intOf]; omega
          · have HS2 := Lib.hid (show charsB s (k + 1) = true by rw [HS.out, HF.out, hc]; rfl)
            have hk0 : ((k : Int) == 0) = false := by simp; omega
            clear hc
            rcases hcs with rfl | ⟨h2, h3⟩
            · go_wp2
              go_round
              case rel => exact ⟨k + 1, by omega, by go_num, HS2.out⟩
              case measure => simp [intOf]; omega
            · have hne : (c != 45) = true := by rw [bne_iff_ne]; omega
              have g1 : decide (c ≤ 90) = true := decide_eq_true (by omega)
              have g2 : decide (65 ≤ c) = false := decide_eq_false (by omega)
              have g3 : decide (97 ≤ c) = false := decide_eq_false (by omega)
              have g4 : decide (c < 48) = false := decide_eq_false (by omega)
              have g5 : decide (57 < c) = false := decide_eq_false (by omega)
              go_wp2
              go_round
              case rel => exact ⟨k + 1, by omega, by go_num, HS2.out⟩
              case measure => simp [intOf]; omega
          · have HR := Lib.hid (show nameB s = false by
              unfold nameB
              rw [charsB_false (k := k + 1) (by rw [HS.out, HF.out, hc]; rfl) s.size hlt]
              rfl)
            have hk0 : ((k : Int) == 0) = true := by simp [hk1]
            clear hc hk1
            rcases hcs with h2 | ⟨h2, h3⟩ | h2
            all_goals
              try have g1 : decide (c ≤ 90) = false := decide_eq_false (by omega)
              try have g2 : decide (c ≤ 122) = false := decide_eq_false (by omega)
              go_wp2
              go_ret
              exact ⟨ret_bool HR.out.symm, rfl⟩
          · have HR := Lib.hid (show nameB s = false by
              unfold nameB
              rw [charsB_false (k := k + 1) (by rw [HS.out, HF.out, hc]; rfl) s.size hlt]
              rfl)
            have hk0 : ((k : Int) == 0) = false := by simp; omega
            have hne : (c != 45) = true := by rw [bne_iff_ne]; omega
            clear hc
            rcases hcs with h2 | ⟨h2, h3⟩ | ⟨h2, h3⟩ | ⟨h2, h3⟩ | h2
            all_goals
              try have g1 : decide (c ≤ 90) = false := decide_eq_false (by omega)
              try have g2 : decide (c ≤ 122) = false := decide_eq_false (by omega)
              try have g3 : decide (c < 48) = false := decide_eq_false (by omega)
              go_wp2
              go_ret
              exact ⟨ret_bool HR.out.symm, rfl⟩
        · have hke : k = s.size := by omega
          subst hke
          have HR := Lib.hid (show nameB s = true by unfold nameB; rw [HF.out, HW.out]; rfl)
          go_wp2
          go_ret
          exact ⟨ret_bool HR.out.symm, rfl⟩


end Go.Proofs.YtnfbdkdjoekifaaGreatDoor
end
