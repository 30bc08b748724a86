/- Plain facts on decimal numerals: the specification's reading and writing of numbers is that of the library.
Plain facts on strings: cut at a byte, joined, decimal numerals of at most so many digits. No program is in sight.
Plain facts on the strings of units: what is parsed, what is written, and that the one undoes the other. No program is in sight. -/
import Derived.Test.YtpdkbhjcpddnpaaGreatDoorRows
import Derived.Lib.AtoiAll
import Derived.Lib.Atoi
import Derived.Lib.ItoaNum
import Derived.Lib.Strings
import Derived.Lib.Split
import Derived.Lib.SplitLaws
import Derived.Lib.IndexBytes
import Derived.Lib.CutLaws
import Derived.Lib.Join
import Derived.Test.YtpdkbhjcpddnpaaGreatDoorN2

section
namespace Go.Proofs.YtpdkbhjcpddnpaaGreatDoor
open Go.Lib

/-- The specification's number of at most so many digits. -/
def restV (l : List UInt8) : List UInt8 := if l.head? = some 45 then l.tail else l
def numberV (l : List UInt8) (digits : Nat) : Option Int :=
  if restV l = [] ∨ digits < (restV l).length ∨ ((restV l).head? = some 48 ∧ 1 < l.length) then none
  else (decFrom 0 (restV l)).map fun m => if l.head? = some 45 then -(m : Int) else (m : Int)

theorem decFrom_ge : ∀ (l : List UInt8) (acc m : Nat), decFrom acc l = some m → acc ≤ m
  | [], acc, m, h => by simp only [decFrom, Option.some.injEq] at h; omega
  | c :: l, acc, m, h => by
    simp only [decFrom] at h
    cases hd : digitVal c with
    | none => rw [hd] at h; cases h
    | some d =>
      rw [hd] at h
      have := decFrom_ge l _ m h
      omega
theorem digitVal_iff {c : UInt8} {d : Nat} : digitVal c = some d ↔ 48 ≤ c.toNat ∧ c.toNat ≤ 57 ∧ d = c.toNat - 48 := by
  constructor
  · exact digitVal_eq
  · rintro ⟨h1, h2, rfl⟩
    unfold digitVal
    rw [if_pos ⟨h1, h2⟩]
theorem parse_of_dec : ∀ (l : List UInt8) (acc m : Nat), decFrom acc l = some m → m < 18446744073709551616 → parseUint10 acc l = .ok m
  | [], acc, m, h, _ => by simp only [decFrom, Option.some.injEq] at h; subst h; rfl
  | c :: l, acc, m, h, hm => by
    simp only [decFrom] at h
    cases hd : digitVal c with
    | none => rw [hd] at h; cases h
    | some d =>
      rw [hd] at h
      obtain ⟨h1, h2, rfl⟩ := digitVal_iff.1 hd
      have hge := decFrom_ge l _ m h
      simp only [parseUint10]
      rw [if_pos ⟨h1, h2⟩, if_neg (by omega), if_neg (by omega)]
      exact parse_of_dec l _ m h hm
theorem decFrom_snoc : ∀ (l : List UInt8) (acc : Nat) (c : UInt8), decFrom acc (l ++ [c]) = (decFrom acc l).bind fun m => (digitVal c).map fun d => m * 10 + d
  | [], acc, c => by
    simp only [List.nil_append, decFrom, Option.bind_some]
    cases digitVal c <;> rfl
  | b :: l, acc, c => by
    simp only [List.cons_append, decFrom]
    cases digitVal b with
    | none => rfl
    | some d => exact decFrom_snoc l _ c
theorem ofNat_digit {d : Nat} (h : d < 10) : (UInt8.ofNat (48 + d)).toNat = 48 + d := by
  rw [UInt8.toNat_ofNat']
  omega
theorem digit_ofNat {d : Nat} (h : d < 10) : digitVal (UInt8.ofNat (48 + d)) = some d := digitVal_iff.2 (by rw [ofNat_digit h]; omega)
theorem digit_char {c : UInt8} {d : Nat} (h : digitVal c = some d) : UInt8.ofNat (48 + d) = c ∧ d < 10 := by
  obtain ⟨h1, h2, rfl⟩ := digitVal_iff.1 h
  refine ⟨?_, by omega⟩
  rw [show 48 + (c.toNat - 48) = c.toNat by omega]
  exact UInt8.ofNat_toNat
theorem dec_digits (u : Nat) : decFrom 0 (decDigits u) = some u := by
  induction u using Nat.strongRecOn with
  | _ u ih =>
    by_cases h : u < 10
    · rw [decDigits, dif_pos h]
      simp only [decFrom, digit_ofNat h]
      simp
    · rw [decDigits, dif_neg h, decFrom_snoc, ih (u / 10) (by omega), digit_ofNat (by omega)]
      simp only [Option.bind_some, Option.map_some, Option.some.injEq]
      omega
theorem digits_head (u : Nat) : ∃ d, digitVal ((decDigits u).headD 0) = some d ∧ decDigits u ≠ [] ∧ (decDigits u).head? = some ((decDigits u).headD 0) ∧ (1 ≤ u → (decDigits u).headD 0 ≠ 48) := by
  induction u using Nat.strongRecOn with
  | _ u ih =>
    by_cases h : u < 10
    · rw [decDigits, dif_pos h]
      refine ⟨u, digit_ofNat h, by simp, rfl, fun h1 e => ?_⟩
      have := ofNat_digit h
      simp only [List.headD_cons] at e
      rw [e] at this
      simp at this
      omega
    · obtain ⟨d, h1, h2, h3, h4⟩ := ih (u / 10) (by omega)
      rw [decDigits, dif_neg h]
      cases hl : decDigits (u / 10) with
      | nil => exact absurd hl h2
      | cons b r =>
        rw [hl] at h1 h4
        refine ⟨d, h1, by simp, rfl, fun _ => ?_⟩
        have := h4 (by omega)
        simpa using this
theorem digits_of : ∀ (n : Nat) (l : List UInt8) (m : Nat), l.length = n → decFrom 0 l = some m → l ≠ [] → (l.head? ≠ some 48 ∨ l.length = 1) → decDigits m = l ∧ (l.head? ≠ some 48 → 1 ≤ m)
  | 0, l, m, hn, _, hne, _ => absurd (List.eq_nil_of_length_eq_zero hn) hne
  | n + 1, l, m, hn, h, hne, hz => by
    obtain ⟨r, c, rfl⟩ : ∃ r c, l = r ++ [c] := ⟨l.dropLast, l.getLast hne, (List.dropLast_concat_getLast hne).symm⟩
    rw [decFrom_snoc] at h
    cases hr : decFrom 0 r with
    | none => rw [hr] at h; cases h
    | some m2 =>
      cases hd : digitVal c with
      | none => rw [hr, hd] at h; cases h
      | some d =>
        rw [hr, hd] at h
        simp only [Option.bind_some, Option.map_some, Option.some.injEq] at h
        obtain ⟨hc, hd10⟩ := digit_char hd
        by_cases hr0 : r = []
        · subst hr0
          simp only [decFrom, Option.some.injEq] at hr
          subst hr
          have hm : m = d := by omega
          subst hm
          rw [decDigits, dif_pos hd10, hc]
          refine ⟨rfl, fun h48 => ?_⟩
          rcases Nat.eq_zero_or_pos m with h0 | h0
          · subst h0
            rw [← hc] at h48
            exact absurd rfl h48
          · exact h0
        · have hlen : 1 ≤ r.length := Nat.pos_of_ne_zero fun e => hr0 (List.eq_nil_of_length_eq_zero e)
          have hhead : (r ++ [c]).head? = r.head? := by
            cases r with
            | nil => exact absurd rfl hr0
            | cons b r => rfl
          have h48 : r.head? ≠ some 48 := by
            rcases hz with hz | hz
            · rw [hhead] at hz; exact hz
            · simp at hz; exact absurd hz hr0
          obtain ⟨i1, i2⟩ := digits_of n r m2 (by simpa using hn) hr hr0 (.inl h48)
          have hm2 := i2 h48
          refine ⟨?_, fun _ => by omega⟩
          rw [decDigits, dif_neg (by omega), show m / 10 = m2 by omega, show m % 10 = d by omega, i1, hc]

theorem trim_rest (l : List UInt8) : trimPrefix l [45] = restV l := by
  unfold trimPrefix restV hasPrefix
  cases l with
  | nil => rfl
  | cons c r =>
    by_cases h : c = 45
    · subst h; rfl
    · have h1 : ([45] : List UInt8).isPrefixOf (c :: r) = false := by
        simp only [List.isPrefixOf, Bool.and_true]
        exact beq_eq_false_iff_ne.2 (Ne.symm h)
      rw [h1, if_neg (by simp), if_neg (by simpa using h)]

theorem number_of {l : List UInt8} {k : Int} {D : Nat} (h2 : itoa k = l) (h3 : (trimPrefix l [45]).length ≤ D) : numberV l D = some k := by
  rw [trim_rest] at h3
  unfold itoa at h2
  split at h2
  · rename_i hneg
    have hr : restV l = decDigits k.natAbs := by rw [← h2]; rfl
    obtain ⟨d, q1, q2, q3, q4⟩ := digits_head k.natAbs
    have q5 := q4 (by omega)
    rw [hr] at h3
    unfold numberV
    rw [hr, if_neg, dec_digits]
    · rw [← h2]
      simp
      omega
    · rintro (e | e | ⟨e, _⟩)
      · exact q2 e
      · omega
      · rw [q3] at e; injection e with e; exact q5 e
  · rename_i hneg
    obtain ⟨d, q1, q2, q3, q4⟩ := digits_head k.toNat
    rw [h2] at q1 q2 q3 q4
    have h45 : l.head? ≠ some 45 := fun e => by
      rw [q3] at e
      injection e with e
      rw [e] at q1
      obtain ⟨q6, _, _⟩ := digitVal_iff.1 q1
      revert q6
      decide
    have hr : restV l = l := by unfold restV; rw [if_neg h45]
    rw [hr] at h3
    unfold numberV
    rw [hr, if_neg, show decFrom 0 l = some k.toNat by rw [← h2]; exact dec_digits _]
    · show some (if l.head? = some 45 then -((k.toNat : Nat) : Int) else ((k.toNat : Nat) : Int)) = some k
      rw [if_neg h45]
      congr 1
      omega
    · rintro (e | e | ⟨e, e2⟩)
      · exact q2 e
      · omega
      · rw [q3] at e
        injection e with e
        rcases Nat.eq_zero_or_pos k.toNat with h0 | h0
        · rw [h0, decDigits, dif_pos (by decide)] at h2
          rw [← h2] at e2
          simp at e2
        · exact q4 h0 e

/-- A number of at most so many digits is one for both. -/
theorem number_iff {l : List UInt8} {k : Int} {D : Nat} (hD : D ≤ 18) : numberV l D = some k ↔ atoiAll l = .ok k ∧ itoa k = l ∧ (trimPrefix l [45]).length ≤ D := by
  rw [trim_rest]
  constructor
  · intro h
    unfold numberV at h
    split at h
    · cases h
    · rename_i hc
      have hne : restV l ≠ [] := fun e => hc (.inl e)
      have hlen : (restV l).length ≤ D := by
        rcases Nat.lt_or_ge D (restV l).length with e | e
        · exact absurd (.inr (.inl e)) hc
        · exact e
      have hz : ¬ ((restV l).head? = some 48 ∧ 1 < l.length) := fun e => hc (.inr (.inr e))
      cases hd : decFrom 0 (restV l) with
      | none => rw [hd] at h; cases h
      | some m =>
        rw [hd] at h
        have h : (if l.head? = some 45 then -(m : Int) else (m : Int)) = k := Option.some.inj h
        have hm : m < 1000000000000000000 := decFrom_lt18 hd (by omega)
        have hmag : parseMag (restV l) = .ok m := by unfold parseMag; rw [if_neg hne]; exact parse_of_dec _ 0 m hd (by omega)
        cases l with
        | nil => exact absurd rfl hne
        | cons c r =>
          by_cases h45 : c = 45
          · subst h45
            have hr : restV (45 :: r) = r := rfl
            rw [hr] at hne hlen hz hd hmag
            have hrl : 1 ≤ r.length := Nat.pos_of_ne_zero fun e => hne (List.eq_nil_of_length_eq_zero e)
            have h48 : r.head? ≠ some 48 := fun e => hz ⟨e, by simp; omega⟩
            obtain ⟨i1, i2⟩ := digits_of _ r m rfl hd hne (.inl h48)
            have hm1 := i2 h48
            have hk : k = -(m : Int) := by rw [← h]; simp
            subst hk
            refine ⟨?_, ?_, by rw [hr]; exact hlen⟩
            · unfold atoiAll
              dsimp only
              rw [if_pos (.inr (by decide)), hmag]
              dsimp only
              rw [if_neg (by simp), if_neg (by omega), if_pos (by decide)]
            · unfold itoa
              rw [if_pos (by omega), show (-(m : Int)).natAbs = m by omega, i1]
          · have hr : restV (c :: r) = c :: r := by unfold restV; rw [if_neg (by simpa using h45)]
            rw [hr] at hne hlen hz hd hmag
            obtain ⟨i1, i2⟩ := digits_of _ (c :: r) m rfl hd hne (by
              by_cases e : (c :: r).head? = some 48
              · right
                rcases Nat.lt_or_ge 1 (c :: r).length with e2 | e2
                · exact absurd ⟨e, e2⟩ hz
                · have e3 : r.length = 0 := by simp only [List.length_cons] at e2; omega
                  rw [List.eq_nil_of_length_eq_zero e3]; rfl
              · exact .inl e)
            have hdig : ∃ d, digitVal c = some d := digit_of_decFrom (c :: r) 0 m hd 0 c rfl
            obtain ⟨d, hdig⟩ := hdig
            obtain ⟨q1, q2, _⟩ := digitVal_iff.1 hdig
            have hk : k = (m : Int) := by rw [← h, if_neg (by simpa using h45)]
            subst hk
            refine ⟨?_, ?_, by rw [hr]; exact hlen⟩
            · unfold atoiAll
              dsimp only
              rw [if_neg (by omega), hmag]
              dsimp only
              rw [if_neg (by omega), if_neg (by omega), if_neg (by omega)]
            · unfold itoa
              rw [if_neg (by omega), show ((m : Nat) : Int).toNat = m by omega, i1]
  · rintro ⟨_, h2, h3⟩
    exact number_of h2 (by rw [trim_rest]; exact h3)

/-! Writing. -/
def decLoop (u : Nat) (s : List UInt8) : List UInt8 := if h : u = 0 then s else decLoop (u / 10) (UInt8.ofNat (48 + u % 10) :: s)
termination_by u
decreasing_by omega
end Go.Proofs.YtpdkbhjcpddnpaaGreatDoor
end

section
namespace Go.Proofs.YtpdkbhjcpddnpaaGreatDoor
open Go.Lib

/-- A string cut at each place of a byte. -/
def splitL (c : UInt8) : List UInt8 → List (List UInt8)
  | [] => [[]]
  | b :: l => if b = c then [] :: splitL c l else match splitL c l with
    | [] => [[b]]
    | x :: r => (b :: x) :: r
theorem splitL_one {c : UInt8} : ∀ {a : List UInt8}, c ∉ a → splitL c a = [a]
  | [], _ => rfl
  | b :: l, h => by
    rw [List.mem_cons, not_or] at h
    rw [splitL, if_neg (Ne.symm h.1), splitL_one h.2]
theorem splitL_app {c : UInt8} : ∀ {a b : List UInt8}, c ∉ a → splitL c (a ++ c :: b) = a :: splitL c b
  | [], b, _ => by rw [List.nil_append, splitL, if_pos rfl]
  | x :: l, b, h => by
    rw [List.mem_cons, not_or] at h
    rw [List.cons_append, splitL, if_neg (Ne.symm h.1), splitL_app h.2]
theorem first_at {c : UInt8} : ∀ {l : List UInt8}, c ∈ l → ∃ a b, l = a ++ c :: b ∧ c ∉ a
  | [], h => by cases h
  | x :: l, h => by
    by_cases e : x = c
    · subst e; exact ⟨[], l, rfl, by simp⟩
    · obtain ⟨a, b, rfl, ha⟩ := first_at (l := l) (by rcases List.mem_cons.1 h with h | h; exact absurd h.symm e; exact h)
      exact ⟨x :: a, b, rfl, by rw [List.mem_cons, not_or]; exact ⟨Ne.symm e, ha⟩⟩
theorem indexByte_none {c : UInt8} : ∀ {l : List UInt8}, c ∉ l → indexByte l c = -1
  | [], _ => rfl
  | x :: l, h => by
    rw [List.mem_cons, not_or] at h
    rw [indexByte, if_neg (by simpa using Ne.symm h.1), indexByte_none h.2]
    rfl
theorem indexByte_app {c : UInt8} {b : List UInt8} : ∀ {a : List UInt8}, c ∉ a → indexByte (a ++ c :: b) c = (a.length : Int)
  | [], _ => by rw [List.nil_append, indexByte, if_pos (by simp)]; rfl
  | x :: l, h => by
    rw [List.mem_cons, not_or] at h
    rw [List.cons_append, indexByte, if_neg (by simpa using Ne.symm h.1), indexByte_app h.2, if_neg (by simp)]
    simp
theorem splitK_eq (c : UInt8) : ∀ (k : Nat) (l : List UInt8), l.count c = k → splitK [c] 0 k l = splitL c l
  | 0, l, h => by rw [splitL_one (List.count_eq_zero.1 h)]; rfl
  | k + 1, l, h => by
    obtain ⟨a, b, rfl, ha⟩ := first_at (c := c) (l := l) (List.count_pos_iff.1 (by omega))
    rw [splitL_app ha, splitK, index_one, indexByte_app ha, if_neg (by simp)]
    have hb : b.count c = k := by
      rw [List.count_append, List.count_cons_self, List.count_eq_zero.2 ha] at h
      omega
    rw [show ((a.length : Nat) : Int).toNat = a.length from rfl]
    simp only [Nat.add_zero, List.length_singleton]
    rw [List.take_left' rfl, show (a ++ c :: b).drop (a.length + 1) = b by simp, splitK_eq c k b hb]
theorem lib_split (l : List UInt8) (c : UInt8) : split l [c] = splitL c l := by
  unfold split
  exact splitK_eq c _ l (count_one c l).symm
theorem cut_none {c : UInt8} {l : List UInt8} (h : c ∉ l) : cut l [c] = (l, [], false) := by
  unfold cut
  rw [index_one, indexByte_none h, if_neg (by decide)]
theorem cut_app {c : UInt8} {a b : List UInt8} (h : c ∉ a) : cut (a ++ c :: b) [c] = (a, b, true) := by
  unfold cut
  rw [index_one, indexByte_app h, if_pos (by omega)]
  simp

/-! Numbers. -/
def numQ (D : Nat) (l : List UInt8) : Option Int := (numberV l D).bind fun k => if 0 ≤ k then some k else none
theorem digits_all (u : Nat) : ∀ b ∈ decDigits u, 48 ≤ b.toNat ∧ b.toNat ≤ 57 := by
  induction u using Nat.strongRecOn with
  | _ u ih =>
    intro b hb
    rw [decDigits] at hb
    split at hb
    · rename_i h
      rw [List.mem_singleton.1 hb, ofNat_digit h]; omega
    · rcases List.mem_append.1 hb with h | h
      · exact ih (u / 10) (by omega) b h
      · rw [List.mem_singleton.1 h, ofNat_digit (Nat.mod_lt _ (by decide))]; omega
theorem digits_len (u : Nat) : ∀ k : Nat, 1 ≤ k → u < 10 ^ k → (decDigits u).length ≤ k := by
  induction u using Nat.strongRecOn with
  | _ u ih =>
    intro k hk hu
    rw [decDigits]
    split
    · simpa using hk
    · rename_i h
      obtain ⟨j, rfl⟩ : ∃ j, k = j + 1 := ⟨k - 1, by omega⟩
      have hj : 1 ≤ j := by
        rcases Nat.eq_zero_or_pos j with e | e
        · subst e; simp at hu; omega
        · exact e
      have := ih (u / 10) (by omega) j hj (by rw [Nat.pow_succ] at hu; omega)
      simp; omega
theorem itoa_nat {k : Int} (h : 0 ≤ k) : itoa k = decDigits k.toNat := by unfold itoa; rw [if_neg (by omega)]
theorem nat_head {u : Nat} : (decDigits u).head? ≠ some 45 := fun e => by
  have := digits_all u 45 (List.mem_of_mem_head? e)
  revert this
  decide
theorem numQ_iff {D : Nat} (hD : D ≤ 18) {l : List UInt8} {k : Int} : numQ D l = some k ↔ atoiAll l = .ok k ∧ 0 ≤ k ∧ itoa k = l ∧ l.length ≤ D := by
  have ht : 0 ≤ k → itoa k = l → trimPrefix l [45] = l := fun h0 h => by
    rw [trim_rest]
    unfold restV
    rw [if_neg (by rw [← h, itoa_nat h0]; exact nat_head)]
  unfold numQ
  constructor
  · intro h
    cases hn : numberV l D with
    | none => rw [hn] at h; cases h
    | some m =>
      rw [hn] at h
      have h : (if 0 ≤ m then some m else none) = some k := h
      split at h
      · rename_i h0
        injection h with h
        subst h
        obtain ⟨q1, q2, q3⟩ := (number_iff hD).1 hn
        exact ⟨q1, h0, q2, by rw [ht h0 q2] at q3; exact q3⟩
      · cases h
  · rintro ⟨q1, h0, q2, q3⟩
    rw [(number_iff hD).2 ⟨q1, q2, by rw [ht h0 q2]; exact q3⟩]
    show (if 0 ≤ k then some k else none) = some k
    rw [if_pos h0]
theorem numQ_digits {D : Nat} (hD : D ≤ 18) {l : List UInt8} {k : Int} (h : numQ D l = some k) : ∀ b ∈ l, 48 ≤ b.toNat ∧ b.toNat ≤ 57 := by
  obtain ⟨_, h0, h1, _⟩ := (numQ_iff hD).1 h
  rw [← h1, itoa_nat h0]
  exact digits_all _
theorem numQ_nil (D : Nat) : numQ D [] = none := by unfold numQ numberV; rw [if_pos (.inl rfl)]; rfl
theorem numQ_itoa {D : Nat} (hD1 : 1 ≤ D) {k : Int} (h0 : 0 ≤ k) (h1 : k < 10 ^ D) : numQ D (itoa k) = some k := by
  have hl : (itoa k).length ≤ D := by
    rw [itoa_nat h0]
    refine digits_len _ D hD1 ?_
    have : ((k.toNat : Nat) : Int) < ((10 ^ D : Nat) : Int) := by rw [Int.toNat_of_nonneg h0]; push_cast; exact h1
    exact Int.ofNat_lt.1 this
  unfold numQ
  have hn : numberV (itoa k) D = some k := by
    have ht : trimPrefix (itoa k) [45] = itoa k := by
      rw [trim_rest]
      unfold restV
      rw [if_neg (by rw [itoa_nat h0]; exact nat_head)]
    exact number_of rfl (by rw [ht]; exact hl)
  rw [hn]
  show (if 0 ≤ k then some k else none) = some k
  rw [if_pos h0]
end Go.Proofs.YtpdkbhjcpddnpaaGreatDoor
end

section
namespace Go.Proofs.YtpdkbhjcpddnpaaGreatDoor
open Go.Lib

abbrev numP (l : List UInt8) : Option Int := numQ 4 l
/-! Windings. -/
def kindOf (a : UInt8) : Option Int := if a = 121 then some 0 else if a = 100 then some 1 else if a = 122 then some 2 else none
def twoV (x y : List UInt8) : Option (Int × Int) := (numP x).bind fun s => (numP y).map fun t => (s, t)
/-- The shift and the turns behind the sign. -/
def restW (r : List UInt8) : Option (Int × Int) := match splitL 47 r with
  | [x, y] => twoV x y
  | _ => none
theorem splitL_two {c : UInt8} {l : List UInt8} (h : c ∈ l) : ∃ x y r, splitL c l = x :: y :: r := by
  obtain ⟨a, b, rfl, ha⟩ := first_at h
  rw [splitL_app ha]
  by_cases hb : c ∈ b
  · obtain ⟨a2, b2, rfl, ha2⟩ := first_at hb
    rw [splitL_app ha2]
    exact ⟨_, _, _, rfl⟩
  · rw [splitL_one hb]
    exact ⟨_, _, _, rfl⟩
theorem restW_cut (r : List UInt8) : restW r = twoV (cut r [47]).1 (cut r [47]).2.1 := by
  unfold restW
  by_cases h : 47 ∈ r
  · obtain ⟨a, b, rfl, ha⟩ := first_at h
    rw [splitL_app ha, cut_app ha]
    dsimp only
    by_cases hb : 47 ∈ b
    · obtain ⟨x, y, l, e⟩ := splitL_two hb
      rw [e]
      have hn : numP b = none := by
        cases hn : numP b with
        | none => rfl
        | some k =>
          exact absurd (numQ_digits (by decide) hn 47 hb) (by decide)
      unfold twoV
      rw [hn]
      cases numP a <;> rfl
    · rw [splitL_one hb]
  · rw [splitL_one h, cut_none h]
    unfold twoV
    dsimp only
    rw [show numP [] = none from numQ_nil 4]
    cases numP r <;> rfl
def parseW : List UInt8 → Option Wind
  | a :: b :: r => if b = 43 ∨ b = 45 then (kindOf a).bind fun kd => (restW r).map fun x => ⟨kd, x.2, x.1, b == 45⟩ else none
  | _ => none
def parseU (l : List UInt8) : Option (Wind × Wind × Int) := match splitL 32 l with
  | [a, b, c] => (parseW a).bind fun x => (parseW b).bind fun y => (numP c).map fun n => (x, y, n)
  | _ => none
def letterV (k : Int) : UInt8 := if k = 0 then 121 else if k = 1 then 100 else if k = 2 then 122 else 63
def fmtW (w : Wind) : List UInt8 := letterV w.kind :: (if w.rev then 45 else 43) :: (itoa w.shift ++ 47 :: itoa w.turns)
def fmtU (x y : Wind) (n : Int) : List UInt8 := fmtW x ++ 32 :: (fmtW y ++ 32 :: itoa n)
theorem not_digit {c : UInt8} {k : Int} (h0 : 0 ≤ k) (hc : c.toNat < 48) : c ∉ itoa k := fun h => by
  rw [itoa_nat h0] at h
  have := digits_all _ c h
  omega
theorem parse_fmt {w : Wind} (h : w.ok) : parseW (fmtW w) = some w := by
  obtain ⟨k, t, s, r⟩ := w
  obtain ⟨h1, h2, h3, h4, h5, h6⟩ := h
  dsimp only at *
  have hr : restW (itoa s ++ 47 :: itoa t) = some (s, t) := by
    unfold restW
    rw [splitL_app (not_digit h5 (by decide)), splitL_one (not_digit (by omega) (by decide))]
    dsimp only
    unfold twoV
    rw [show numP (itoa s) = some s from numQ_itoa (by decide) h5 (by omega), show numP (itoa t) = some t from numQ_itoa (by decide) (by omega) (by omega)]
    rfl
  have hk : k = 0 ∨ k = 1 ∨ k = 2 := by omega
  unfold fmtW parseW
  dsimp only
  rw [hr]
  rcases hk with rfl | rfl | rfl <;> cases r <;> rfl
theorem fmtW_space {w : Wind} (h : w.ok) : 32 ∉ fmtW w := by
  obtain ⟨k, t, s, r⟩ := w
  obtain ⟨h1, h2, h3, h4, h5, h6⟩ := h
  dsimp only at *
  unfold fmtW
  simp only [List.mem_cons, List.mem_append, not_or]
  refine ⟨?_, ?_, not_digit h5 (by decide), by decide, not_digit (by omega) (by decide)⟩
  · have hk : k = 0 ∨ k = 1 ∨ k = 2 := by omega
    rcases hk with rfl | rfl | rfl <;> decide
  · cases r <;> simp
theorem parse_unit {x y : Wind} {n : Int} (hx : x.ok) (hy : y.ok) (h0 : 0 ≤ n) (h1 : n ≤ 9999) : parseU (fmtU x y n) = some (x, y, n) := by
  unfold parseU fmtU
  rw [splitL_app (fmtW_space hx), splitL_app (fmtW_space hy), splitL_one (not_digit h0 (by decide))]
  dsimp only
  rw [parse_fmt hx, parse_fmt hy, show numP (itoa n) = some n from numQ_itoa (by decide) h0 (by omega)]
  rfl

end Go.Proofs.YtpdkbhjcpddnpaaGreatDoor
end
