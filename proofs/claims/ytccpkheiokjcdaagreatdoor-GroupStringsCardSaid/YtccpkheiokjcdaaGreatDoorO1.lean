/- Plain facts on decimal numerals: the specification's reading and writing of numbers is that of the library.
Plain facts on strings: cut at a byte, joined, decimal numerals of at most so many digits. No program is in sight.
Plain facts on phasors, hours, windings and turns: no program is in sight.
Plain facts on the strings of units: what is parsed, what is written, and that the one undoes the other. No program is in sight. -/
import Derived.Test.YtccpkheiokjcdaaGreatDoorRows
import Derived.Lib.AtoiAll
import Derived.Lib.Atoi
import Derived.Lib.ItoaNum
import Derived.Lib.Strings
import Derived.Lib.Split
import Derived.Lib.SplitLaws
import Derived.Lib.IndexBytes
import Derived.Lib.CutLaws
import Derived.Lib.Join

section
namespace Go.Proofs.YtccpkheiokjcdaaGreatDoor
open Go.Lib

/-- The specification's number of at most so many digits. -/
def restV (l : List UInt8) : List UInt8 := if l.head? = some 45 then l.tail else l
def numberV (l : List UInt8) (digits : Nat) : Option Int :=
  if restV l = [] ∨ digits < (restV l).length ∨ ((restV l).head? = some 48 ∧ 1 < l.length) then none
  else (decFrom 0 (restV l)).map fun m => if l.head? = some 45 then -(m : Int) else (m : Int)

theorem decFrom_ge : ∀ (l : List UInt8) (acc m : Nat), decFrom acc l = some m → acc ≤ m
  | [], acc, m, h => by simp only [decFrom, Option.some.injEq] at h; omega
  | c :: l, acc, m, h => by
    simp only [decFrom] at h
    cases hd : digitVal c with
    | none => rw [hd] at h; cases h
    | some d =>
      rw [hd] at h
      have := decFrom_ge l _ m h
      omega
theorem digitVal_iff {c : UInt8} {d : Nat} : digitVal c = some d ↔ 48 ≤ c.toNat ∧ c.toNat ≤ 57 ∧ d = c.toNat - 48 := by
  constructor
  · exact digitVal_eq
  · rintro ⟨h1, h2, rfl⟩
    unfold digitVal
    rw [if_pos ⟨h1, h2⟩]
theorem parse_of_dec : ∀ (l : List UInt8) (acc m : Nat), decFrom acc l = some m → m < 18446744073709551616 → parseUint10 acc l = .ok m
  | [], acc, m, h, _ => by simp only [decFrom, Option.some.injEq] at h; subst h; rfl
  | c :: l, acc, m, h, hm => by
    simp only [decFrom] at h
    cases hd : digitVal c with
    | none => rw [hd] at h; cases h
    | some d =>
      rw [hd] at h
      obtain ⟨h1, h2, rfl⟩ := digitVal_iff.1 hd
      have hge := decFrom_ge l _ m h
      simp only [parseUint10]
      rw [if_pos ⟨h1, h2⟩, if_neg (by omega), if_neg (by omega)]
      exact parse_of_dec l _ m h hm
theorem dec_of_parse : ∀ (l : List UInt8) (acc m : Nat), parseUint10 acc l = .ok m → decFrom acc l = some m
  | [], acc, m, h => by simp only [parseUint10, NumEnd.ok.injEq] at h; subst h; rfl
  | c :: l, acc, m, h => by
    simp only [parseUint10] at h
    split at h
    · rename_i hc
      split at h
      · cases h
      · split at h
        · cases h
        · simp only [decFrom]
          rw [digitVal_iff.2 ⟨hc.1, hc.2, rfl⟩]
          exact dec_of_parse l _ m h
    · cases h

theorem decFrom_snoc : ∀ (l : List UInt8) (acc : Nat) (c : UInt8), decFrom acc (l ++ [c]) = (decFrom acc l).bind fun m => (digitVal c).map fun d => m * 10 + d
  | [], acc, c => by
    simp only [List.nil_append, decFrom, Option.bind_some]
    cases digitVal c <;> rfl
  | b :: l, acc, c => by
    simp only [List.cons_append, decFrom]
    cases digitVal b with
    | none => rfl
    | some d => exact decFrom_snoc l _ c
theorem ofNat_digit {d : Nat} (h : d < 10) : (UInt8.ofNat (48 + d)).toNat = 48 + d := by
  rw [UInt8.toNat_ofNat']
  omega
theorem digit_ofNat {d : Nat} (h : d < 10) : digitVal (UInt8.ofNat (48 + d)) = some d := digitVal_iff.2 (by rw [ofNat_digit h]; omega)
theorem digit_char {c : UInt8} {d : Nat} (h : digitVal c = some d) : UInt8.ofNat (48 + d) = c ∧ d < 10 := by
  obtain ⟨h1, h2, rfl⟩ := digitVal_iff.1 h
  refine ⟨?_, by omega⟩
  rw [show 48 + (c.toNat - 48) = c.toNat by omega]
  exact UInt8.ofNat_toNat
theorem dec_digits (u : Nat) : decFrom 0 (decDigits u) = some u := by
  induction u using Nat.strongRecOn with
  | _ u ih =>
    by_cases h : u < 10
    · rw [decDigits, dif_pos h]
      simp only [decFrom, digit_ofNat h]
      simp
    · rw [decDigits, dif_neg h, decFrom_snoc, ih (u / 10) (by omega), digit_ofNat (by omega)]
      simp only [Option.bind_some, Option.map_some, Option.some.injEq]
      omega
theorem digits_head (u : Nat) : ∃ d, digitVal ((decDigits u).headD 0) = some d ∧ decDigits u ≠ [] ∧ (decDigits u).head? = some ((decDigits u).headD 0) ∧ (1 ≤ u → (decDigits u).headD 0 ≠ 48) := by
  induction u using Nat.strongRecOn with
  | _ u ih =>
    by_cases h : u < 10
    · rw [decDigits, dif_pos h]
      refine ⟨u, digit_ofNat h, by simp, rfl, fun h1 e => ?_⟩
      have := ofNat_digit h
      simp only [List.headD_cons] at e
      rw [e] at this
      simp at this
      omega
    · obtain ⟨d, h1, h2, h3, h4⟩ := ih (u / 10) (by omega)
      rw [decDigits, dif_neg h]
      cases hl : decDigits (u / 10) with
      | nil => exact absurd hl h2
      | cons b r =>
        rw [hl] at h1 h4
        refine ⟨d, h1, by simp, rfl, fun _ => ?_⟩
        have := h4 (by omega)
        simpa using this
theorem digits_of : ∀ (n : Nat) (l : List UInt8) (m : Nat), l.length = n → decFrom 0 l = some m → l ≠ [] → (l.head? ≠ some 48 ∨ l.length = 1) → decDigits m = l ∧ (l.head? ≠ some 48 → 1 ≤ m)
  | 0, l, m, hn, _, hne, _ => absurd (List.eq_nil_of_length_eq_zero hn) hne
  | n + 1, l, m, hn, h, hne, hz => by
    obtain ⟨r, c, rfl⟩ : ∃ r c, l = r ++ [c] := ⟨l.dropLast, l.getLast hne, (List.dropLast_concat_getLast hne).symm⟩
    rw [decFrom_snoc] at h
    cases hr : decFrom 0 r with
    | none => rw [hr] at h; cases h
    | some m2 =>
      cases hd : digitVal c with
      | none => rw [hr, hd] at h; cases h
      | some d =>
        rw [hr, hd] at h
        simp only [Option.bind_some, Option.map_some, Option.some.injEq] at h
        obtain ⟨hc, hd10⟩ := digit_char hd
        by_cases hr0 : r = []
        · subst hr0
          simp only [decFrom, Option.some.injEq] at hr
          subst hr
          have hm : m = d := by omega
          subst hm
          rw [decDigits, dif_pos hd10, hc]
          refine ⟨rfl, fun h48 => ?_⟩
          rcases Nat.eq_zero_or_pos m with h0 | h0
          · subst h0
            rw [← hc] at h48
            exact absurd rfl h48
          · exact h0
        · have hlen : 1 ≤ r.length := Nat.pos_of_ne_zero fun e => hr0 (List.eq_nil_of_length_eq_zero e)
          have hhead : (r ++ [c]).head? = r.head? := by
            cases r with
            | nil => exact absurd rfl hr0
            | cons b r => rfl
          have h48 : r.head? ≠ some 48 := by
            rcases hz with hz | hz
            · rw [hhead] at hz; exact hz
            · simp at hz; exact absurd hz hr0
          obtain ⟨i1, i2⟩ := digits_of n r m2 (by simpa using hn) hr hr0 (.inl h48)
          have hm2 := i2 h48
          refine ⟨?_, fun _ => by omega⟩
          rw [decDigits, dif_neg (by omega), show m / 10 = m2 by omega, show m % 10 = d by omega, i1, hc]

theorem trim_rest (l : List UInt8) : trimPrefix l [45] = restV l := by
  unfold trimPrefix restV hasPrefix
  cases l with
  | nil => rfl
  | cons c r =>
    by_cases h : c = 45
    · subst h; rfl
    · have h1 : ([45] : List UInt8).isPrefixOf (c :: r) = false := by
        simp only [List.isPrefixOf, Bool.and_true]
        exact beq_eq_false_iff_ne.2 (Ne.symm h)
      rw [h1, if_neg (by simp), if_neg (by simpa using h)]

theorem number_of {l : List UInt8} {k : Int} {D : Nat} (h2 : itoa k = l) (h3 : (trimPrefix l [45]).length ≤ D) : numberV l D = some k := by
  rw [trim_rest] at h3
  unfold itoa at h2
  split at h2
  · rename_i hneg
    have hr : restV l = decDigits k.natAbs := by rw [← h2]; rfl
    obtain ⟨d, q1, q2, q3, q4⟩ := digits_head k.natAbs
    have q5 := q4 (by omega)
    rw [hr] at h3
    unfold numberV
    rw [hr, if_neg, dec_digits]
    · rw [← h2]
      simp
      omega
    · rintro (e | e | ⟨e, _⟩)
      · exact q2 e
      · omega
      · rw [q3] at e; injection e with e; exact q5 e
  · rename_i hneg
    obtain ⟨d, q1, q2, q3, q4⟩ := digits_head k.toNat
    rw [h2] at q1 q2 q3 q4
    have h45 : l.head? ≠ some 45 := fun e => by
      rw [q3] at e
      injection e with e
      rw [e] at q1
      obtain ⟨q6, _, _⟩ := digitVal_iff.1 q1
      revert q6
      decide
    have hr : restV l = l := by unfold restV; rw [if_neg h45]
    rw [hr] at h3
    unfold numberV
    rw [hr, if_neg, show decFrom 0 l = some k.toNat by rw [← h2]; exact dec_digits _]
    · show some (if l.head? = some 45 then -((k.toNat : Nat) : Int) else ((k.toNat : Nat) : Int)) = some k
      rw [if_neg h45]
      congr 1
      omega
    · rintro (e | e | ⟨e, e2⟩)
      · exact q2 e
      · omega
      · rw [q3] at e
        injection e with e
        rcases Nat.eq_zero_or_pos k.toNat with h0 | h0
        · rw [h0, decDigits, dif_pos (by decide)] at h2
          rw [← h2] at e2
          simp at e2
        · exact q4 h0 e

/-- A number of at most so many digits is one for both. -/
theorem number_iff {l : List UInt8} {k : Int} {D : Nat} (hD : D ≤ 18) : numberV l D = some k ↔ atoiAll l = .ok k ∧ itoa k = l ∧ (trimPrefix l [45]).length ≤ D := by
  rw [trim_rest]
  constructor
  · intro h
    unfold numberV at h
    split at h
    · cases h
    · rename_i hc
      have hne : restV l ≠ [] := fun e => hc (.inl e)
      have hlen : (restV l).length ≤ D := by
        rcases Nat.lt_or_ge D (restV l).length with e | e
        · exact absurd (.inr (.inl e)) hc
        · exact e
      have hz : ¬ ((restV l).head? = some 48 ∧ 1 < l.length) := fun e => hc (.inr (.inr e))
      cases hd : decFrom 0 (restV l) with
      | none => rw [hd] at h; cases h
      | some m =>
        rw [hd] at h
        have h : (if l.head? = some 45 then -(m : Int) else (m : Int)) = k := Option.some.inj h
        have hm : m < 1000000000000000000 := decFrom_lt18 hd (by omega)
        have hmag : parseMag (restV l) = .ok m := by unfold parseMag; rw [if_neg hne]; exact parse_of_dec _ 0 m hd (by omega)
        cases l with
        | nil => exact absurd rfl hne
        | cons c r =>
          by_cases h45 : c = 45
          · subst h45
            have hr : restV (45 :: r) = r := rfl
            rw [hr] at hne hlen hz hd hmag
            have hrl : 1 ≤ r.length := Nat.pos_of_ne_zero fun e => hne (List.eq_nil_of_length_eq_zero e)
            have h48 : r.head? ≠ some 48 := fun e => hz ⟨e, by simp; omega⟩
            obtain ⟨i1, i2⟩ := digits_of _ r m rfl hd hne (.inl h48)
            have hm1 := i2 h48
            have hk : k = -(m : Int) := by rw [← h]; simp
            subst hk
            refine ⟨?_, ?_, by rw [hr]; exact hlen⟩
            · unfold atoiAll
              dsimp only
              rw [if_pos (.inr (by decide)), hmag]
              dsimp only
              rw [if_neg (by simp), if_neg (by omega), if_pos (by decide)]
            · unfold itoa
              rw [if_pos (by omega), show (-(m : Int)).natAbs = m by omega, i1]
          · have hr : restV (c :: r) = c :: r := by unfold restV; rw [if_neg (by simpa using h45)]
            rw [hr] at hne hlen hz hd hmag
            obtain ⟨i1, i2⟩ := digits_of _ (c :: r) m rfl hd hne (by
              by_cases e : (c :: r).head? = some 48
              · right
                rcases Nat.lt_or_ge 1 (c :: r).length with e2 | e2
                · exact absurd ⟨e, e2⟩ hz
                · have e3 : r.length = 0 := by simp only [List.length_cons] at e2; omega
                  rw [List.eq_nil_of_length_eq_zero e3]; rfl
              · exact .inl e)
            have hdig : ∃ d, digitVal c = some d := digit_of_decFrom (c :: r) 0 m hd 0 c rfl
            obtain ⟨d, hdig⟩ := hdig
            obtain ⟨q1, q2, _⟩ := digitVal_iff.1 hdig
            have hk : k = (m : Int) := by rw [← h, if_neg (by simpa using h45)]
            subst hk
            refine ⟨?_, ?_, by rw [hr]; exact hlen⟩
            · unfold atoiAll
              dsimp only
              rw [if_neg (by omega), hmag]
              dsimp only
              rw [if_neg (by omega), if_neg (by omega), if_neg (by omega)]
            · unfold itoa
              rw [if_neg (by omega), show ((m : Nat) : Int).toNat = m by omega, i1]
  · rintro ⟨_, h2, h3⟩
    exact number_of h2 (by rw [trim_rest]; exact h3)

/-! Writing. -/
def decLoop (u : Nat) (s : List UInt8) : List UInt8 := if h : u = 0 then s else decLoop (u / 10) (UInt8.ofNat (48 + u % 10) :: s)
termination_by u
decreasing_by omega
theorem decLoop_eq (u : Nat) : ∀ s, 1 ≤ u → decLoop u s = decDigits u ++ s := by
  induction u using Nat.strongRecOn with
  | _ u ih =>
    intro s h
    rw [decLoop, dif_neg (by omega)]
    by_cases h10 : u < 10
    · rw [show u / 10 = 0 by omega, decLoop, dif_pos rfl, decDigits, dif_pos h10, show u % 10 = u by omega]
      rfl
    · rw [ih (u / 10) (by omega) _ (by omega)]
      rw [decDigits.eq_1 u, dif_neg h10]
      simp

end Go.Proofs.YtccpkheiokjcdaaGreatDoor
end

section
namespace Go.Proofs.YtccpkheiokjcdaaGreatDoor
open Go.Lib

/-- A string cut at each place of a byte. -/
def splitL (c : UInt8) : List UInt8 → List (List UInt8)
  | [] => [[]]
  | b :: l => if b = c then [] :: splitL c l else match splitL c l with
    | [] => [[b]]
    | x :: r => (b :: x) :: r
theorem splitL_one {c : UInt8} : ∀ {a : List UInt8}, c ∉ a → splitL c a = [a]
  | [], _ => rfl
  | b :: l, h => by
    rw [List.mem_cons, not_or] at h
    rw [splitL, if_neg (Ne.symm h.1), splitL_one h.2]
theorem splitL_app {c : UInt8} : ∀ {a b : List UInt8}, c ∉ a → splitL c (a ++ c :: b) = a :: splitL c b
  | [], b, _ => by rw [List.nil_append, splitL, if_pos rfl]
  | x :: l, b, h => by
    rw [List.mem_cons, not_or] at h
    rw [List.cons_append, splitL, if_neg (Ne.symm h.1), splitL_app h.2]
theorem first_at {c : UInt8} : ∀ {l : List UInt8}, c ∈ l → ∃ a b, l = a ++ c :: b ∧ c ∉ a
  | [], h => by cases h
  | x :: l, h => by
    by_cases e : x = c
    · subst e; exact ⟨[], l, rfl, by simp⟩
    · obtain ⟨a, b, rfl, ha⟩ := first_at (l := l) (by rcases List.mem_cons.1 h with h | h; exact absurd h.symm e; exact h)
      exact ⟨x :: a, b, rfl, by rw [List.mem_cons, not_or]; exact ⟨Ne.symm e, ha⟩⟩
theorem indexByte_none {c : UInt8} : ∀ {l : List UInt8}, c ∉ l → indexByte l c = -1
  | [], _ => rfl
  | x :: l, h => by
    rw [List.mem_cons, not_or] at h
    rw [indexByte, if_neg (by simpa using Ne.symm h.1), indexByte_none h.2]
    rfl
theorem indexByte_app {c : UInt8} {b : List UInt8} : ∀ {a : List UInt8}, c ∉ a → indexByte (a ++ c :: b) c = (a.length : Int)
  | [], _ => by rw [List.nil_append, indexByte, if_pos (by simp)]; rfl
  | x :: l, h => by
    rw [List.mem_cons, not_or] at h
    rw [List.cons_append, indexByte, if_neg (by simpa using Ne.symm h.1), indexByte_app h.2, if_neg (by simp)]
    simp
theorem splitK_eq (c : UInt8) : ∀ (k : Nat) (l : List UInt8), l.count c = k → splitK [c] 0 k l = splitL c l
  | 0, l, h => by rw [splitL_one (List.count_eq_zero.1 h)]; rfl
  | k + 1, l, h => by
    obtain ⟨a, b, rfl, ha⟩ := first_at (c := c) (l := l) (List.count_pos_iff.1 (by omega))
    rw [splitL_app ha, splitK, index_one, indexByte_app ha, if_neg (by simp)]
    have hb : b.count c = k := by
      rw [List.count_append, List.count_cons_self, List.count_eq_zero.2 ha] at h
      omega
    rw [show ((a.length : Nat) : Int).toNat = a.length from rfl]
    simp only [Nat.add_zero, List.length_singleton]
    rw [List.take_left' rfl, show (a ++ c :: b).drop (a.length + 1) = b by simp, splitK_eq c k b hb]
theorem lib_split (l : List UInt8) (c : UInt8) : split l [c] = splitL c l := by
  unfold split
  exact splitK_eq c _ l (count_one c l).symm
theorem cut_none {c : UInt8} {l : List UInt8} (h : c ∉ l) : cut l [c] = (l, [], false) := by
  unfold cut
  rw [index_one, indexByte_none h, if_neg (by decide)]
theorem cut_app {c : UInt8} {a b : List UInt8} (h : c ∉ a) : cut (a ++ c :: b) [c] = (a, b, true) := by
  unfold cut
  rw [index_one, indexByte_app h, if_pos (by omega)]
  simp

/-! Numbers. -/
def numQ (D : Nat) (l : List UInt8) : Option Int := (numberV l D).bind fun k => if 0 ≤ k then some k else none
theorem digits_all (u : Nat) : ∀ b ∈ decDigits u, 48 ≤ b.toNat ∧ b.toNat ≤ 57 := by
  induction u using Nat.strongRecOn with
  | _ u ih =>
    intro b hb
    rw [decDigits] at hb
    split at hb
    · rename_i h
      rw [List.mem_singleton.1 hb, ofNat_digit h]; omega
    · rcases List.mem_append.1 hb with h | h
      · exact ih (u / 10) (by omega) b h
      · rw [List.mem_singleton.1 h, ofNat_digit (Nat.mod_lt _ (by decide))]; omega
theorem digits_len (u : Nat) : ∀ k : Nat, 1 ≤ k → u < 10 ^ k → (decDigits u).length ≤ k := by
  induction u using Nat.strongRecOn with
  | _ u ih =>
    intro k hk hu
    rw [decDigits]
    split
    · simpa using hk
    · rename_i h
      obtain ⟨j, rfl⟩ : ∃ j, k = j + 1 := ⟨k - 1, by omega⟩
      have hj : 1 ≤ j := by
        rcases Nat.eq_zero_or_pos j with e | e
        · subst e; simp at hu; omega
        · exact e
      have := ih (u / 10) (by omega) j hj (by rw [Nat.pow_succ] at hu; omega)
      simp; omega
theorem itoa_nat {k : Int} (h : 0 ≤ k) : itoa k = decDigits k.toNat := by unfold itoa; rw [if_neg (by omega)]
theorem nat_head {u : Nat} : (decDigits u).head? ≠ some 45 := fun e => by
  have := digits_all u 45 (List.mem_of_mem_head? e)
  revert this
  decide
theorem numQ_iff {D : Nat} (hD : D ≤ 18) {l : List UInt8} {k : Int} : numQ D l = some k ↔ atoiAll l = .ok k ∧ 0 ≤ k ∧ itoa k = l ∧ l.length ≤ D := by
  have ht : 0 ≤ k → itoa k = l → trimPrefix l [45] = l := fun h0 h => by
    rw [trim_rest]
    unfold restV
    rw [if_neg (by rw [← h, itoa_nat h0]; exact nat_head)]
  unfold numQ
  constructor
  · intro h
    cases hn : numberV l D with
    | none => rw [hn] at h; cases h
    | some m =>
      rw [hn] at h
      have h : (if 0 ≤ m then some m else none) = some k := h
      split at h
      · rename_i h0
        injection h with h
        subst h
        obtain ⟨q1, q2, q3⟩ := (number_iff hD).1 hn
        exact ⟨q1, h0, q2, by rw [ht h0 q2] at q3; exact q3⟩
      · cases h
  · rintro ⟨q1, h0, q2, q3⟩
    rw [(number_iff hD).2 ⟨q1, q2, by rw [ht h0 q2]; exact q3⟩]
    show (if 0 ≤ k then some k else none) = some k
    rw [if_pos h0]
theorem numQ_digits {D : Nat} (hD : D ≤ 18) {l : List UInt8} {k : Int} (h : numQ D l = some k) : ∀ b ∈ l, 48 ≤ b.toNat ∧ b.toNat ≤ 57 := by
  obtain ⟨_, h0, h1, _⟩ := (numQ_iff hD).1 h
  rw [← h1, itoa_nat h0]
  exact digits_all _
theorem numQ_nil (D : Nat) : numQ D [] = none := by unfold numQ numberV; rw [if_pos (.inl rfl)]; rfl
theorem numQ_itoa {D : Nat} (hD1 : 1 ≤ D) {k : Int} (h0 : 0 ≤ k) (h1 : k < 10 ^ D) : numQ D (itoa k) = some k := by
  have hl : (itoa k).length ≤ D := by
    rw [itoa_nat h0]
    refine digits_len _ D hD1 ?_
    have : ((k.toNat : Nat) : Int) < ((10 ^ D : Nat) : Int) := by rw [Int.toNat_of_nonneg h0]; push_cast; exact h1
    exact Int.ofNat_lt.1 this
  unfold numQ
  have hn : numberV (itoa k) D = some k := by
    have ht : trimPrefix (itoa k) [45] = itoa k := by
      rw [trim_rest]
      unfold restV
      rw [if_neg (by rw [itoa_nat h0]; exact nat_head)]
    exact number_of rfl (by rw [ht]; exact hl)
  rw [hn]
  show (if 0 ≤ k then some k else none) = some k
  rw [if_pos h0]
theorem numV_itoa {D : Nat} (hD1 : 1 ≤ D) {k : Int} (h0 : -(10 ^ D) < k) (h1 : k < 10 ^ D) : numberV (itoa k) D = some k := by
  refine number_of rfl ?_
  rw [trim_rest]
  have hk : ((k.natAbs : Nat) : Int) < ((10 ^ D : Nat) : Int) := by push_cast; omega
  have hl := digits_len k.natAbs D hD1 (Int.ofNat_lt.1 hk)
  unfold itoa
  split
  · exact hl
  · rename_i h
    unfold restV
    rw [if_neg nat_head, show k.toNat = k.natAbs by omega]
    exact hl
theorem itoa_bytes (k : Int) : ∀ b ∈ itoa k, b = 45 ∨ (48 ≤ b.toNat ∧ b.toNat ≤ 57) := by
  intro b hb
  unfold itoa at hb
  split at hb
  · rcases List.mem_cons.1 hb with h | h
    · exact .inl h
    · exact .inr (digits_all _ b h)
  · exact .inr (digits_all _ b hb)
theorem itoa_ne (k : Int) : itoa k ≠ [] := by
  unfold itoa
  split
  · simp
  · obtain ⟨_, _, h, _, _⟩ := digits_head k.toNat
    exact h
theorem not_in_itoa {c : UInt8} (k : Int) (h1 : c ≠ 45) (h2 : c.toNat < 48) : c ∉ itoa k := fun h => by
  rcases itoa_bytes k c h with e | e
  · exact h1 e
  · omega

/-! Joined. -/
theorem join_cons2 (x y : List UInt8) (l : List (List UInt8)) (c : UInt8) : join (x :: y :: l) [c] = x ++ c :: join (y :: l) [c] := by
  simp [join, List.intercalate]
theorem split_join {c : UInt8} : ∀ (l : List (List UInt8)), l ≠ [] → (∀ x ∈ l, c ∉ x) → splitL c (join l [c]) = l
  | [], h, _ => absurd rfl h
  | [x], _, h => by rw [join_one]; exact splitL_one (h x (by simp))
  | x :: y :: l, _, h => by
    rw [join_cons2, splitL_app (h x (by simp)), split_join (y :: l) (by simp) (fun z hz => h z (List.mem_cons_of_mem _ hz))]
theorem join_not {c d : UInt8} (hd : d ≠ c) : ∀ (l : List (List UInt8)), (∀ x ∈ l, d ∉ x) → d ∉ join l [c]
  | [], _ => by simp [join, List.intercalate]
  | [x], h => by rw [join_one]; exact h x (by simp)
  | x :: y :: l, h => by
    rw [join_cons2]
    simp only [List.mem_append, List.mem_cons, not_or]
    exact ⟨h x (by simp), hd, join_not hd (y :: l) (fun z hz => h z (List.mem_cons_of_mem _ hz))⟩
theorem join_ne {c : UInt8} {l : List (List UInt8)} (h : l ≠ []) (hx : ∀ x ∈ l, x ≠ []) : join l [c] ≠ [] := by
  match l, h with
  | [x], _ => rw [join_one]; exact hx x (by simp)
  | x :: y :: l, _ => rw [join_cons2]; simp

end Go.Proofs.YtccpkheiokjcdaaGreatDoor
end

section
namespace Go.Proofs.YtccpkheiokjcdaaGreatDoor

/-! Three numbers, and three rows of them. -/
structure V3 where
  a : Int
  b : Int
  c : Int
deriving DecidableEq
structure L3 where
  x : V3
  y : V3
  z : V3
deriving DecidableEq

def phP (v : V3) : Int := v.a - v.b
def phQ (v : V3) : Int := v.c - v.b
def sqV (p q : Int) : Int := p * p - p * q + q * q

/-! Hours. -/
def upV (p q : Int) : Option Int :=
  if 0 < p ∧ q = 0 then some 0 else if 0 < q ∧ p = 2 * q then some 1 else if 0 < q ∧ p = q then some 2
  else if 0 < p ∧ q = 2 * p then some 3 else if 0 < q ∧ p = 0 then some 4 else if 0 < q ∧ p = -q then some 5 else none
def hoursV (p q : Int) : Option Int := match upV p q with
  | some h => some h
  | none => (upV (-p) (-q)).map (· + 6)

theorem mul_pos_iff' {e u : Int} (he : 0 < e) : 0 < e * u ↔ 0 < u := by
  constructor
  · intro h
    rcases Int.lt_trichotomy 0 u with h1 | h1 | h1
    · exact h1
    · subst h1; simp at h
    · have := Int.mul_neg_of_pos_of_neg he h1; omega
  · exact Int.mul_pos he
theorem mul_eq_iff' {e u v : Int} (he : 0 < e) : e * u = e * v ↔ u = v := ⟨fun h => Int.eq_of_mul_eq_mul_left (by omega) h, fun h => by rw [h]⟩
theorem upV_scale {e : Int} (he : 0 < e) (u v : Int) : upV (e * u) (e * v) = upV u v := by
  unfold upV
  have h2 : ∀ x, 2 * (e * x) = e * (2 * x) := fun x => by rw [← Int.mul_assoc, Int.mul_comm 2 e, Int.mul_assoc]
  have h0 : ∀ x, (e * x = 0) ↔ x = 0 := fun x => by rw [← Int.mul_zero e, mul_eq_iff' he, Int.mul_zero]
  have hn : ∀ x, -(e * x) = e * (-x) := fun x => by rw [Int.mul_neg]
  simp only [mul_pos_iff' he, h2, h0, hn, mul_eq_iff' he]
theorem hoursV_scale {e : Int} (he : 0 < e) (u v : Int) : hoursV (e * u) (e * v) = hoursV u v := by
  unfold hoursV
  rw [upV_scale he, show -(e * u) = e * (-u) by rw [Int.mul_neg], show -(e * v) = e * (-v) by rw [Int.mul_neg], upV_scale he]

/-- The phasor of an hour. -/
def dirV (h : Int) : Int × Int :=
  if h = 0 then (1, 0) else if h = 1 then (2, 1) else if h = 2 then (1, 1) else if h = 3 then (1, 2) else if h = 4 then (0, 1) else if h = 5 then (-1, 1)
  else if h = 6 then (-1, 0) else if h = 7 then (-2, -1) else if h = 8 then (-1, -1) else if h = 9 then (-1, -2) else if h = 10 then (0, -1) else (1, -1)
theorem upV_dir {p q h : Int} (hh : upV p q = some h) : 0 ≤ h ∧ h ≤ 5 ∧ ∃ e, 0 < e ∧ p = e * (dirV h).1 ∧ q = e * (dirV h).2 := by
  unfold upV at hh
  split at hh
  · cases hh; exact ⟨by decide, by decide, p, by omega, by simp [dirV], by simp [dirV]; omega⟩
  split at hh
  · cases hh; exact ⟨by decide, by decide, q, by omega, by simp [dirV]; omega, by simp [dirV]⟩
  split at hh
  · cases hh; exact ⟨by decide, by decide, q, by omega, by simp [dirV]; omega, by simp [dirV]⟩
  split at hh
  · cases hh; exact ⟨by decide, by decide, p, by omega, by simp [dirV], by simp [dirV]; omega⟩
  split at hh
  · cases hh; exact ⟨by decide, by decide, q, by omega, by simp [dirV]; omega, by simp [dirV]⟩
  split at hh
  · cases hh; exact ⟨by decide, by decide, q, by omega, by simp [dirV]; omega, by simp [dirV]⟩
  cases hh
theorem hoursV_dir {p q h : Int} (hh : hoursV p q = some h) : 0 ≤ h ∧ h ≤ 11 ∧ ∃ e, 0 < e ∧ p = e * (dirV h).1 ∧ q = e * (dirV h).2 := by
  unfold hoursV at hh
  split at hh
  · rename_i h1 e1
    cases hh
    obtain ⟨a1, a2, a3⟩ := upV_dir e1
    exact ⟨a1, by omega, a3⟩
  · cases e2 : upV (-p) (-q) with
    | none => rw [e2] at hh; cases hh
    | some k =>
      rw [e2] at hh
      obtain rfl : k + 6 = h := Option.some.inj hh
      obtain ⟨a1, a2, e, he, a3, a4⟩ := upV_dir e2
      refine ⟨by omega, by omega, e, he, ?_, ?_⟩
      · have : (dirV (k + 6)).1 = -(dirV k).1 := by
          rcases (by omega : k = 0 ∨ k = 1 ∨ k = 2 ∨ k = 3 ∨ k = 4 ∨ k = 5) with rfl | rfl | rfl | rfl | rfl | rfl <;> rfl
        rw [this, Int.mul_neg]; omega
      · have : (dirV (k + 6)).2 = -(dirV k).2 := by
          rcases (by omega : k = 0 ∨ k = 1 ∨ k = 2 ∨ k = 3 ∨ k = 4 ∨ k = 5) with rfl | rfl | rfl | rfl | rfl | rfl <;> rfl
        rw [this, Int.mul_neg]; omega
theorem hoursV_range {p q h : Int} (hh : hoursV p q = some h) : 0 ≤ h ∧ h ≤ 11 := ⟨(hoursV_dir hh).1, (hoursV_dir hh).2.1⟩

/-! Products. -/
def mulP (p q r s : Int) : Int := p * r - q * s
def mulQ (p q r s : Int) : Int := p * s + q * r - q * s
theorem hoursV_mul {p q r s h t : Int} (h1 : hoursV p q = some h) (h2 : hoursV r s = some t) : hoursV (mulP p q r s) (mulQ p q r s) = some ((h + t) % 12) := by
  obtain ⟨a1, a2, e, he, rfl, rfl⟩ := hoursV_dir h1
  obtain ⟨b1, b2, f, hf, rfl, rfl⟩ := hoursV_dir h2
  have m : ∀ x y, e * x * (f * y) = e * f * (x * y) := fun x y => by
    rw [Int.mul_assoc, Int.mul_left_comm x f y, ← Int.mul_assoc e f]
  unfold mulP mulQ
  simp only [m, ← Int.mul_sub, ← Int.mul_add]
  rw [hoursV_scale (Int.mul_pos he hf)]
  clear h1 h2 m he hf
  have key : ∀ i : Fin 12, ∀ j : Fin 12, hoursV ((dirV (i.val : Int)).1 * (dirV (j.val : Int)).1 - (dirV (i.val : Int)).2 * (dirV (j.val : Int)).2)
      ((dirV (i.val : Int)).1 * (dirV (j.val : Int)).2 + (dirV (i.val : Int)).2 * (dirV (j.val : Int)).1 - (dirV (i.val : Int)).2 * (dirV (j.val : Int)).2) = some (((i.val : Int) + (j.val : Int)) % 12) := by decide +kernel
  have k := key ⟨h.toNat, by omega⟩ ⟨t.toNat, by omega⟩
  simp only [Int.toNat_of_nonneg a1, Int.toNat_of_nonneg b1] at k
  exact k

theorem sq_mul (p q r s : Int) : sqV (mulP p q r s) (mulQ p q r s) = sqV p q * sqV r s := by
  unfold sqV mulP mulQ
  grind

/-! Windings. -/
def patV (k : Int) : V3 := ⟨1, if k = 0 then -1 else if k = 1 then 0 else -2, if k = 2 then 1 else 0⟩
def scaleV (n : Int) (v : V3) : V3 := ⟨n * v.a, n * v.b, n * v.c⟩
/-- Turned by one limb: what stood first stands second. -/
def onV (v : V3) : V3 := ⟨v.c, v.a, v.b⟩
def onN (n : Int) (v : V3) : V3 := if n % 3 = 0 then v else if n % 3 = 1 then onV v else onV (onV v)
structure Wind where
  kind : Int
  turns : Int
  shift : Int
  rev : Bool
deriving DecidableEq
def Wind.sgn (w : Wind) : Int := if w.rev then -w.turns else w.turns
def Wind.one (w : Wind) : Int := if w.rev then -1 else 1
def Wind.ok (w : Wind) : Prop := 0 ≤ w.kind ∧ w.kind ≤ 2 ∧ 1 ≤ w.turns ∧ w.turns ≤ 2000 ∧ 0 ≤ w.shift ∧ w.shift ≤ 2
instance (w : Wind) : Decidable w.ok := by unfold Wind.ok; infer_instance
def rowsV (n : Int) (k s : Int) : L3 := ⟨scaleV n (onN s (patV k)), scaleV n (onN (s + 1) (patV k)), scaleV n (onN (s + 2) (patV k))⟩
def linesV (w : Wind) : L3 := rowsV w.sgn w.kind w.shift
/-- The hours of a winding's lines. -/
def whV (k s : Int) (r : Bool) : Int := ((if k = 0 then 1 else if k = 1 then 0 else 2) - 4 * s + (if r then 6 else 0)) % 12

/-! Lines with renamed terminals. -/
def rowAt (l : L3) (n : Int) : V3 := if n = 0 then l.x else if n = 1 then l.y else l.z
def negV (v : V3) : V3 := ⟨-v.a, -v.b, -v.c⟩
def voltV (l : L3) (f t : Int) : V3 := if t = (f + 1) % 3 then rowAt l f else negV (rowAt l t)
def renV (l : L3) (p : V3) : L3 := ⟨voltV l p.a p.b, voltV l p.b p.c, voltV l p.c p.a⟩
def permL : List V3 := [⟨0, 1, 2⟩, ⟨0, 2, 1⟩, ⟨1, 0, 2⟩, ⟨1, 2, 0⟩, ⟨2, 0, 1⟩, ⟨2, 1, 0⟩]
def isPerm (p : V3) : Bool := permL.contains p
theorem isPerm_cases {p : V3} (h : isPerm p = true) : p = ⟨0, 1, 2⟩ ∨ p = ⟨0, 2, 1⟩ ∨ p = ⟨1, 0, 2⟩ ∨ p = ⟨1, 2, 0⟩ ∨ p = ⟨2, 0, 1⟩ ∨ p = ⟨2, 1, 0⟩ := by
  simpa [isPerm, permL] using h

/-- The sequence of lines: 1, -1, or 0 if there is none. -/
def turn1 (z : Int × Int) : Int × Int := (-z.2, z.1 - z.2)
def turn2 (z : Int × Int) : Int × Int := turn1 (turn1 z)
def phV (v : V3) : Int × Int := (phP v, phQ v)
def seqV (l : L3) : Int := if phV l.y = turn2 (phV l.x) ∧ phV l.z = turn2 (phV l.y) then 1 else if phV l.y = turn1 (phV l.x) ∧ phV l.z = turn1 (phV l.y) then -1 else 0

def sL3 (n : Int) (l : L3) : L3 := ⟨scaleV n l.x, scaleV n l.y, scaleV n l.z⟩
theorem scale_scale (m n : Int) (v : V3) : scaleV (m * n) v = scaleV m (scaleV n v) := by simp [scaleV, Int.mul_assoc]
theorem on_scale (m : Int) (v : V3) : onV (scaleV m v) = scaleV m (onV v) := rfl
theorem onN_scale (m n : Int) (v : V3) : onN n (scaleV m v) = scaleV m (onN n v) := by unfold onN; split <;> (try split) <;> rfl
theorem rows_scale (m n k s : Int) : rowsV (m * n) k s = sL3 m (rowsV n k s) := by simp [rowsV, sL3, scale_scale]
theorem sgn_one (w : Wind) : w.sgn = w.turns * w.one := by unfold Wind.sgn Wind.one; split <;> omega
theorem linesV_scale (w : Wind) : linesV w = sL3 w.turns (rowsV w.one w.kind w.shift) := by rw [← rows_scale, ← sgn_one]; rfl
theorem neg_scale (m : Int) (v : V3) : negV (scaleV m v) = scaleV m (negV v) := by simp [negV, scaleV, Int.mul_neg]
theorem rowAt_scale (m n : Int) (l : L3) : rowAt (sL3 m l) n = scaleV m (rowAt l n) := by unfold rowAt sL3; split <;> (try split) <;> rfl
theorem ren_scale (m : Int) (l : L3) (p : V3) : renV (sL3 m l) p = sL3 m (renV l p) := by
  have h : ∀ f t, voltV (sL3 m l) f t = scaleV m (voltV l f t) := fun f t => by
    unfold voltV
    split
    · exact rowAt_scale _ _ _
    · rw [rowAt_scale, neg_scale]
  unfold renV
  rw [h, h, h]
  rfl
theorem phP_scale (m : Int) (v : V3) : phP (scaleV m v) = m * phP v := by simp [phP, scaleV, Int.mul_sub]
theorem phQ_scale (m : Int) (v : V3) : phQ (scaleV m v) = m * phQ v := by simp [phQ, scaleV, Int.mul_sub]
theorem turn_scale (m p q r s : Int) (hm : 0 < m) : ((m * p, m * q) = turn1 (m * r, m * s)) = ((p, q) = turn1 (r, s)) := by
  apply propext
  simp only [turn1, Prod.mk.injEq, ← Int.mul_neg, ← Int.mul_sub, mul_eq_iff' hm]
theorem turn2_scale (m p q r s : Int) (hm : 0 < m) : ((m * p, m * q) = turn2 (m * r, m * s)) = ((p, q) = turn2 (r, s)) := by
  apply propext
  simp only [turn2, turn1, Prod.mk.injEq, ← Int.mul_neg, ← Int.mul_sub, mul_eq_iff' hm]
theorem seq_scale {m : Int} (hm : 0 < m) (l : L3) : seqV (sL3 m l) = seqV l := by
  unfold seqV phV
  simp only [sL3, phP_scale, phQ_scale, turn_scale _ _ _ _ _ hm, turn2_scale _ _ _ _ _ hm]
theorem hours_scale {m : Int} (hm : 0 < m) (v : V3) : hoursV (phP (scaleV m v)) (phQ (scaleV m v)) = hoursV (phP v) (phQ v) := by
  rw [phP_scale, phQ_scale, hoursV_scale hm]
theorem sq_scale (m p q : Int) : sqV (m * p) (m * q) = m * m * sqV p q := by unfold sqV; grind

/-- What a renaming does to the sequence, and adds to the hours. -/
def evenP (p : V3) : Bool := p.b == (p.a + 1) % 3
def seqP (p : V3) : Int := if evenP p then 1 else -1
def addP (p : V3) : Int := if evenP p then -4 * p.a else 6 - 4 * p.b

theorem kinds {k : Int} (h1 : 0 ≤ k) (h2 : k ≤ 2) : k = 0 ∨ k = 1 ∨ k = 2 := by omega
theorem base_hours : ∀ k ∈ [(0 : Int), 1, 2], ∀ s ∈ [(0 : Int), 1, 2], ∀ r : Bool, ∀ p ∈ permL,
    hoursV (phP (renV (rowsV (if r then -1 else 1) k s) p).x) (phQ (renV (rowsV (if r then -1 else 1) k s) p).x) = some ((whV k s r + addP p) % 12)
    ∧ seqV (renV (rowsV (if r then -1 else 1) k s) p) = seqP p
    ∧ hoursV (phP (rowsV (if r then -1 else 1) k s).x) (phQ (rowsV (if r then -1 else 1) k s).x) = some (whV k s r)
    ∧ seqV (rowsV (if r then -1 else 1) k s) = 1
    ∧ sqV (phP (renV (rowsV (if r then -1 else 1) k s) p).x) (phQ (renV (rowsV (if r then -1 else 1) k s) p).x) = sqV (phP (rowsV (if r then -1 else 1) k s).x) (phQ (rowsV (if r then -1 else 1) k s).x)
    ∧ sqV (phP (rowsV (if r then -1 else 1) k s).x) (phQ (rowsV (if r then -1 else 1) k s).x) = (if k = 0 then 3 else if k = 1 then 1 else 9) := by decide +kernel
theorem wh_range (k s : Int) (r : Bool) : 0 ≤ whV k s r ∧ whV k s r ≤ 11 := by unfold whV; omega

theorem ok_mem {w : Wind} (h : w.ok) : w.kind ∈ [(0 : Int), 1, 2] ∧ w.shift ∈ [(0 : Int), 1, 2] := by
  obtain ⟨h1, h2, _, _, h5, h6⟩ := h
  exact ⟨by simp; omega, by simp; omega⟩
theorem perm_mem {p : V3} (h : isPerm p = true) : p ∈ permL := by simpa [isPerm] using h
theorem lines_hours {w : Wind} (h : w.ok) : hoursV (phP (linesV w).x) (phQ (linesV w).x) = some (whV w.kind w.shift w.rev) := by
  have hm : 0 < w.turns := by have := h.2.2.1; omega
  rw [linesV_scale]
  exact (hours_scale hm _).trans (base_hours _ (ok_mem h).1 _ (ok_mem h).2 w.rev ⟨0, 1, 2⟩ (by decide)).2.2.1
theorem lines_seq {w : Wind} (h : w.ok) : seqV (linesV w) = 1 := by
  have hm : 0 < w.turns := by have := h.2.2.1; omega
  rw [linesV_scale, seq_scale hm]
  exact (base_hours _ (ok_mem h).1 _ (ok_mem h).2 w.rev ⟨0, 1, 2⟩ (by decide)).2.2.2.1
theorem ren_hours {w : Wind} (h : w.ok) {p : V3} (hp : isPerm p = true) : hoursV (phP (renV (linesV w) p).x) (phQ (renV (linesV w) p).x) = some ((whV w.kind w.shift w.rev + addP p) % 12) := by
  have hm : 0 < w.turns := by have := h.2.2.1; omega
  rw [linesV_scale, ren_scale]
  exact (hours_scale hm _).trans (base_hours _ (ok_mem h).1 _ (ok_mem h).2 w.rev p (perm_mem hp)).1
theorem ren_seq {w : Wind} (h : w.ok) {p : V3} (hp : isPerm p = true) : seqV (renV (linesV w) p) = seqP p := by
  have hm : 0 < w.turns := by have := h.2.2.1; omega
  rw [linesV_scale, ren_scale, seq_scale hm]
  exact (base_hours _ (ok_mem h).1 _ (ok_mem h).2 w.rev p (perm_mem hp)).2.1
theorem ren_sq {w : Wind} (h : w.ok) {p : V3} (hp : isPerm p = true) : sqV (phP (renV (linesV w) p).x) (phQ (renV (linesV w) p).x) = sqV (phP (linesV w).x) (phQ (linesV w).x) := by
  rw [linesV_scale, ren_scale]
  show sqV (phP (scaleV _ _)) (phQ (scaleV _ _)) = sqV (phP (scaleV _ _)) (phQ (scaleV _ _))
  rw [phP_scale, phQ_scale, phP_scale, phQ_scale, sq_scale, sq_scale]
  exact congrArg _ (base_hours _ (ok_mem h).1 _ (ok_mem h).2 w.rev p (perm_mem hp)).2.2.2.2.1
theorem lines_sq {w : Wind} (h : w.ok) : sqV (phP (linesV w).x) (phQ (linesV w).x) = w.turns * w.turns * (if w.kind = 0 then 3 else if w.kind = 1 then 1 else 9) := by
  rw [linesV_scale]
  show sqV (phP (scaleV _ _)) (phQ (scaleV _ _)) = _
  rw [phP_scale, phQ_scale, sq_scale]
  exact congrArg _ (base_hours _ (ok_mem h).1 _ (ok_mem h).2 w.rev ⟨0, 1, 2⟩ (by decide)).2.2.2.2.2

/-- Two renamings are their composition. -/
def compP (p q : V3) : V3 := ⟨if q.a = 0 then p.a else if q.a = 1 then p.b else p.c, if q.b = 0 then p.a else if q.b = 1 then p.b else p.c, if q.c = 0 then p.a else if q.c = 1 then p.b else p.c⟩
theorem neg_neg' (v : V3) : negV (negV v) = v := by simp [negV]
theorem ren_ren (l : L3) {p q : V3} (hp : isPerm p = true) (hq : isPerm q = true) : renV (renV l p) q = renV l (compP p q) := by
  rcases isPerm_cases hp with rfl | rfl | rfl | rfl | rfl | rfl <;> rcases isPerm_cases hq with rfl | rfl | rfl | rfl | rfl | rfl <;>
    simp [renV, voltV, rowAt, compP, neg_neg']
theorem comp_perm {p q : V3} (hp : isPerm p = true) (hq : isPerm q = true) : isPerm (compP p q) = true := by
  rcases isPerm_cases hp with rfl | rfl | rfl | rfl | rfl | rfl <;> rcases isPerm_cases hq with rfl | rfl | rfl | rfl | rfl | rfl <;> rfl

/-! Turns. -/
structure Turn where
  hours : Int
  mir : Bool
deriving DecidableEq
def Turn.ok (a : Turn) : Prop := 0 ≤ a.hours ∧ a.hours ≤ 11
def appV (a : Turn) (h : Int) : Int := if a.mir then (a.hours - h) % 12 else (a.hours + h) % 12
def compV (a b : Turn) : Turn := ⟨appV b a.hours, a.mir != b.mir⟩
def invV (a : Turn) : Turn := if a.mir then a else ⟨(-a.hours) % 12, false⟩
theorem compV_ok (a b : Turn) : (compV a b).ok := by unfold Turn.ok compV appV; dsimp only; split <;> omega
theorem comp_assoc (a b c : Turn) : compV (compV a b) c = compV a (compV b c) := by
  unfold compV appV
  rcases a with ⟨x, _ | _⟩ <;> rcases b with ⟨y, _ | _⟩ <;> rcases c with ⟨z, _ | _⟩ <;> simp <;> omega
theorem comp_inv {a : Turn} (h : a.ok) : compV a (invV a) = ⟨0, false⟩ ∧ compV (invV a) a = ⟨0, false⟩ := by
  obtain ⟨h1, h2⟩ := h
  unfold compV appV invV
  rcases a with ⟨x, _ | _⟩ <;> simp at * <;> omega
/-- The specification's composition: by what becomes of the angles 0 and 1. -/
theorem comp_ref (a b : Turn) (ha : a.ok) : (⟨appV b (appV a 0), decide ((appV b (appV a 1) - appV b (appV a 0)) % 12 ≠ 1)⟩ : Turn) = compV a b := by
  obtain ⟨h1, h2⟩ := ha
  unfold compV appV
  rcases a with ⟨x, _ | _⟩ <;> rcases b with ⟨y, _ | _⟩ <;> simp at * <;> omega
def ordF (a : Turn) : Nat → Turn → Int → Int
  | 0, _, n => n
  | k + 1, b, n => if b = ⟨0, false⟩ then n else ordF a k (compV b a) (n + 1)
def ordV (a : Turn) : Int := ordF a 12 a 1
theorem ord_facts : ∀ i : Fin 12, ∀ r : Bool, 1 ≤ ordV ⟨(i.val : Int), r⟩ ∧ 24 % ordV ⟨(i.val : Int), r⟩ = 0 ∧ ordV ⟨(i.val : Int), r⟩ ≤ 12 := by decide +kernel
def powV (a : Turn) : Nat → Turn
  | 0 => a
  | n + 1 => compV (powV a n) a
theorem ord_ends : ∀ i : Fin 12, ∀ r : Bool, ∃ n : Fin 12, powV ⟨(i.val : Int), r⟩ n.val = ⟨0, false⟩ := by decide +kernel

end Go.Proofs.YtccpkheiokjcdaaGreatDoor
end

section
namespace Go.Proofs.YtccpkheiokjcdaaGreatDoor
open Go.Lib

abbrev numP (l : List UInt8) : Option Int := numQ 4 l
/-! Windings. -/
def kindOf (a : UInt8) : Option Int := if a = 121 then some 0 else if a = 100 then some 1 else if a = 122 then some 2 else none
def twoV (x y : List UInt8) : Option (Int × Int) := (numP x).bind fun s => (numP y).map fun t => (s, t)
/-- The shift and the turns behind the sign. -/
def restW (r : List UInt8) : Option (Int × Int) := match splitL 47 r with
  | [x, y] => twoV x y
  | _ => none
theorem splitL_two {c : UInt8} {l : List UInt8} (h : c ∈ l) : ∃ x y r, splitL c l = x :: y :: r := by
  obtain ⟨a, b, rfl, ha⟩ := first_at h
  rw [splitL_app ha]
  by_cases hb : c ∈ b
  · obtain ⟨a2, b2, rfl, ha2⟩ := first_at hb
    rw [splitL_app ha2]
    exact ⟨_, _, _, rfl⟩
  · rw [splitL_one hb]
    exact ⟨_, _, _, rfl⟩
theorem restW_cut (r : List UInt8) : restW r = twoV (cut r [47]).1 (cut r [47]).2.1 := by
  unfold restW
  by_cases h : 47 ∈ r
  · obtain ⟨a, b, rfl, ha⟩ := first_at h
    rw [splitL_app ha, cut_app ha]
    dsimp only
    by_cases hb : 47 ∈ b
    · obtain ⟨x, y, l, e⟩ := splitL_two hb
      rw [e]
      have hn : numP b = none := by
        cases hn : numP b with
        | none => rfl
        | some k =>
          exact absurd (numQ_digits (by decide) hn 47 hb) (by decide)
      unfold twoV
      rw [hn]
      cases numP a <;> rfl
    · rw [splitL_one hb]
  · rw [splitL_one h, cut_none h]
    unfold twoV
    dsimp only
    rw [show numP [] = none from numQ_nil 4]
    cases numP r <;> rfl
def parseW : List UInt8 → Option Wind
  | a :: b :: r => if b = 43 ∨ b = 45 then (kindOf a).bind fun kd => (restW r).map fun x => ⟨kd, x.2, x.1, b == 45⟩ else none
  | _ => none
def parseU (l : List UInt8) : Option (Wind × Wind × Int) := match splitL 32 l with
  | [a, b, c] => (parseW a).bind fun x => (parseW b).bind fun y => (numP c).map fun n => (x, y, n)
  | _ => none
def letterV (k : Int) : UInt8 := if k = 0 then 121 else if k = 1 then 100 else if k = 2 then 122 else 63
def fmtW (w : Wind) : List UInt8 := letterV w.kind :: (if w.rev then 45 else 43) :: (itoa w.shift ++ 47 :: itoa w.turns)
def fmtU (x y : Wind) (n : Int) : List UInt8 := fmtW x ++ 32 :: (fmtW y ++ 32 :: itoa n)
theorem not_digit {c : UInt8} {k : Int} (h0 : 0 ≤ k) (hc : c.toNat < 48) : c ∉ itoa k := fun h => by
  rw [itoa_nat h0] at h
  have := digits_all _ c h
  omega
theorem parse_fmt {w : Wind} (h : w.ok) : parseW (fmtW w) = some w := by
  obtain ⟨k, t, s, r⟩ := w
  obtain ⟨h1, h2, h3, h4, h5, h6⟩ := h
  dsimp only at *
  have hr : restW (itoa s ++ 47 :: itoa t) = some (s, t) := by
    unfold restW
    rw [splitL_app (not_digit h5 (by decide)), splitL_one (not_digit (by omega) (by decide))]
    dsimp only
    unfold twoV
    rw [show numP (itoa s) = some s from numQ_itoa (by decide) h5 (by omega), show numP (itoa t) = some t from numQ_itoa (by decide) (by omega) (by omega)]
    rfl
  have hk : k = 0 ∨ k = 1 ∨ k = 2 := by omega
  unfold fmtW parseW
  dsimp only
  rw [hr]
  rcases hk with rfl | rfl | rfl <;> cases r <;> rfl
theorem fmtW_space {w : Wind} (h : w.ok) : 32 ∉ fmtW w := by
  obtain ⟨k, t, s, r⟩ := w
  obtain ⟨h1, h2, h3, h4, h5, h6⟩ := h
  dsimp only at *
  unfold fmtW
  simp only [List.mem_cons, List.mem_append, not_or]
  refine ⟨?_, ?_, not_digit h5 (by decide), by decide, not_digit (by omega) (by decide)⟩
  · have hk : k = 0 ∨ k = 1 ∨ k = 2 := by omega
    rcases hk with rfl | rfl | rfl <;> decide
  · cases r <;> simp
theorem parse_unit {x y : Wind} {n : Int} (hx : x.ok) (hy : y.ok) (h0 : 0 ≤ n) (h1 : n ≤ 9999) : parseU (fmtU x y n) = some (x, y, n) := by
  unfold parseU fmtU
  rw [splitL_app (fmtW_space hx), splitL_app (fmtW_space hy), splitL_one (not_digit h0 (by decide))]
  dsimp only
  rw [parse_fmt hx, parse_fmt hy, show numP (itoa n) = some n from numQ_itoa (by decide) h0 (by omega)]
  rfl

end Go.Proofs.YtccpkheiokjcdaaGreatDoor
end
