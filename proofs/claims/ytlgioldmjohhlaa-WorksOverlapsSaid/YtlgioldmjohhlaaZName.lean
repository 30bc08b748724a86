/- Contract: whether a string is a name. Strings of at most 1000 bytes. -/
import Derived.Test.YtlgioldmjohhlaaYTexts
import Derived.Laws.IdiomStrings
namespace Go.Proofs.Ytlgioldmjohhlaa
open Go.RowKit

def byteAt (s : ByteArray) (i : Nat) : Int := ((s.data.getD i 0).toNat : Int)
def letterB (c : Int) : Bool := (decide (97 ≤ c) && decide (c ≤ 122)) || (decide (65 ≤ c) && decide (c ≤ 90))
def charB (i : Nat) (c : Int) : Bool := letterB c || (!(i == 0) && (c == 45 || withinB c 48 57))
def charsB (s : ByteArray) (k : Nat) : Bool := (List.range k).all fun i => charB i (byteAt s i)
def nameB (s : ByteArray) : Bool := charsB s s.size && withinB s.size 1 12

theorem charsB_succ (s : ByteArray) (k : Nat) : charsB s (k + 1) = (charsB s k && charB k (byteAt s k)) := by
  unfold charsB
  rw [List.range_succ, List.all_append]
  simp
theorem charsB_false {s : ByteArray} {k : Nat} (h : charsB s k = false) : ∀ n, k ≤ n → charsB s n = false := by
  intro n hn
  obtain ⟨m, rfl⟩ : ∃ m, n = k + m := ⟨n - k, by omega⟩
  clear hn
  induction m with
  | zero => exact h
  | succ m ih => rw [← Nat.add_assoc, charsB_succ, ih]; rfl
theorem byteAt_bd (s : ByteArray) (i : Nat) : 0 ≤ byteAt s i ∧ byteAt s i ≤ 255 := by
  unfold byteAt
  have := (s.data.getD i 0).toNat_lt
  omega

/-- The cases of a byte: what decides whether it may stand at place k. -/
theorem char_cases (k : Nat) (c : Int) (h0 : 0 ≤ c) (h1 : c ≤ 255) :
    (charB k c = true ∧ ((97 ≤ c ∧ c ≤ 122) ∨ (65 ≤ c ∧ c ≤ 90))) ∨
    (charB k c = true ∧ 1 ≤ k ∧ ((c = 45) ∨ (48 ≤ c ∧ c ≤ 57))) ∨
    (charB k c = false ∧ k = 0 ∧ ((c ≤ 64) ∨ (91 ≤ c ∧ c ≤ 96) ∨ 123 ≤ c)) ∨
    (charB k c = false ∧ 1 ≤ k ∧ ((c ≤ 44) ∨ (46 ≤ c ∧ c ≤ 47) ∨ (58 ≤ c ∧ c ≤ 64) ∨ (91 ≤ c ∧ c ≤ 96) ∨ 123 ≤ c)) := by
  have e : charB k c = true ↔ ((97 ≤ c ∧ c ≤ 122) ∨ (65 ≤ c ∧ c ≤ 90)) ∨ (k ≠ 0 ∧ (c = 45 ∨ (48 ≤ c ∧ c ≤ 57))) := by
    simp [charB, letterB, withinB]
  cases h : charB k c with
  | true =>
    rcases e.1 h with e | ⟨hk, e⟩
    · exact .inl ⟨rfl, e⟩
    · exact .inr (.inl ⟨rfl, by omega, e⟩)
  | false =>
    have e2 : ¬(((97 ≤ c ∧ c ≤ 122) ∨ (65 ≤ c ∧ c ≤ 90)) ∨ (k ≠ 0 ∧ (c = 45 ∨ (48 ≤ c ∧ c ≤ 57)))) := fun hh => by
      rw [e.2 hh] at h; cases h
    by_cases hk : k = 0
    · exact .inr (.inr (.inl ⟨rfl, hk, by omega⟩))
    · exact .inr (.inr (.inr ⟨rfl, by omega, by omega⟩))

set_option maxHeartbeats 1000000 in
set_option maxRecDepth 100000 in
theorem isName_any (s : ByteArray) (w : World) (hs : s.size ≤ 1000) :
    Calls Try.prog 138 #[.string s] w fun e w' => e = .returned (.bool (nameB s)) ∧ Below w.heap.size w w' := by
  have hconv := fun w => run_bytes_of_string (P := Try.prog) w 9 169 5 s Try.underlying9 Try.underlying169 Try.underlying5
  obtain ⟨C, cap, fr, hC, hCe⟩ : ∃ (C : Array Value) (cap : Nat) (fr : Nat × Nat), (∀ j, j < s.size → C[j]? = some (.int .u8 (byteAt s j))) ∧ (convert 9 169 (.string s)).run Try.prog w = .ok (.slice (some ⟨w.heap.size, 0, none⟩) s.size cap) (w.alloc (.cells C 5 fr)).drew := by
    refine ⟨_, _, _, fun j hj => ?_, hconv w⟩
    rw [bytesRow_at s _ j hj]
    simp [byteAt, Array.getD, hj]
  have hcell : ∀ j, j < s.size → (w.alloc (.cells C 5 fr)).cell? ⟨w.heap.size, j, none⟩ = some (.int .u8 (byteAt s j)) := fun j hj => (World.cell?_alloc_mark w C 5 fr j).trans (hC j hj)
  have HCell := Lib.hid hcell
  have hb : Below w.heap.size w (w.alloc (.cells C 5 fr)).drew := pd (pa pr)
  have HB := Lib.hid hb
  clear hconv hC hcell hb
  go_enter Try.func138, Try.ntmps138
  go_wp2
  go_loop [9] (fun i => ∃ k : Nat, k ≤ s.size ∧ i = .int .i64 k ∧ charsB s k = true) (fun i => s.size - (intOf i).toNat)
  case atStart => exact ⟨0, Nat.zero_le _, rfl, rfl⟩
  case round =>
    obtain ⟨k, hk, rfl, hf⟩ := hrel
    have HF := Lib.hid hf
    clear hf
    by_cases hlt : k < s.size
    · have hcell := HCell.out k hlt
      have hbd := byteAt_bd s k
      have hcase := char_cases k (byteAt s k) hbd.1 hbd.2
      have HS := Lib.hid (charsB_succ s k)
      generalize byteAt s k = c at *
      obtain ⟨hb0, hb1⟩ := hbd
      have h48 : withinB c 48 57 = (decide (48 ≤ c) && decide (c ≤ 57)) := rfl
      rcases hcase with ⟨hc, hcs⟩ | ⟨hc, hk1, hcs⟩ | ⟨hc, hk1, hcs⟩ | ⟨hc, hk1, hcs⟩
      · have HS2 := Lib.hid (show charsB s (k + 1) = true by rw [HS.out, HF.out, hc]; rfl)
        clear hc h48
        rcases hcs with ⟨h2, h3⟩ | ⟨h2, h3⟩
        all_goals
          go_wp2
          go_round
          case rel => exact ⟨k + 1, by omega, by go_num, HS2.out⟩
          case measure => simp [intOf]; omega
      · have HS2 := Lib.hid (show charsB s (k + 1) = true by rw [HS.out, HF.out, hc]; rfl)
        have hk0 : ((k : Int) == 0) = false := by simp; omega
        clear hc
        rcases hcs with rfl | ⟨h2, h3⟩
        · clear h48
          go_wp2
          go_round
          case rel => exact ⟨k + 1, by omega, by go_num, HS2.out⟩
          case measure => simp [intOf]; omega
        · have hne : (c != 45) = true := by rw [bne_iff_ne]; omega
          have h48' : withinB c 48 57 = true := by rw [h48]; simp; omega
          clear h48
          go_wp2_with (go_at_call 88; refine (within_any _ _ _ _).mono ?_; rintro e w' ⟨rfl, rfl⟩)
          go_round
          case rel => exact ⟨k + 1, by omega, by go_num, HS2.out⟩
          case measure => simp [intOf]; omega
      · have hres : nameB s = false := by
          unfold nameB
          rw [charsB_false (k := k + 1) (by rw [HS.out, HF.out, hc]; rfl) s.size hlt]
          rfl
        have HR := Lib.hid hres
        have hk0 : ((k : Int) == 0) = true := by simp [hk1]
        clear hc hres h48 hk1
        rcases hcs with h2 | ⟨h2, h3⟩ | h2
        all_goals
          try have g1 : decide (c ≤ 90) = false := decide_eq_false (by omega)
          try have g2 : decide (c ≤ 122) = false := decide_eq_false (by omega)
          go_wp2
          go_ret
          exact ⟨ret_bool HR.out.symm, HB.out⟩
      · have hres : nameB s = false := by
          unfold nameB
          rw [charsB_false (k := k + 1) (by rw [HS.out, HF.out, hc]; rfl) s.size hlt]
          rfl
        have HR := Lib.hid hres
        have hk0 : ((k : Int) == 0) = false := by simp; omega
        have hne : (c != 45) = true := by rw [bne_iff_ne]; omega
        have h48' : withinB c 48 57 = false := by rw [h48]; simp; omega
        clear hc hres h48
        rcases hcs with h2 | ⟨h2, h3⟩ | ⟨h2, h3⟩ | ⟨h2, h3⟩ | h2
        all_goals
          try have g1 : decide (c ≤ 90) = false := decide_eq_false (by omega)
          try have g2 : decide (c ≤ 122) = false := decide_eq_false (by omega)
          go_wp2_with (go_at_call 88; refine (within_any _ _ _ _).mono ?_; rintro e w' ⟨rfl, rfl⟩)
          go_ret
          exact ⟨ret_bool HR.out.symm, HB.out⟩
    · have hke : k = s.size := by omega
      subst hke
      have HR := Lib.hid (show nameB s = withinB s.size 1 12 by unfold nameB; rw [HF.out]; rfl)
      go_wp2_with (go_at_call 88; refine (within_any _ _ _ _).mono ?_; rintro e w' ⟨rfl, rfl⟩)
      go_ret
      exact ⟨ret_bool HR.out.symm, HB.out⟩

end Go.Proofs.Ytlgioldmjohhlaa
