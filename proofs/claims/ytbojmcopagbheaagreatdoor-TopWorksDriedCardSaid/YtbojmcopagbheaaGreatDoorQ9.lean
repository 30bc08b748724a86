/- Plain facts: the tasks on which a task depends are the least set that contains its predecessors and theirs.
Plain facts: the order in which all tasks of a valid plan come, each one after all on which it depends.
Contract: the iterator over all tasks of a valid plan, each one after all on which it depends.
Contracts: slices.AppendSeq and slices.Collect at the order of a plan's tasks.
Contracts: slices.Backward at a row of numbers and the iterator that it returns.
Plain facts: the order's tasks are tasks of the plan, and none comes twice. -/
import Derived.Test.YtbojmcopagbheaaGreatDoorLOpen
import Derived.Test.YtbojmcopagbheaaGreatDoorQ7
import Derived.RangeFuncBox

section
namespace Go.Proofs.YtbojmcopagbheaaGreatDoor
open Go.RowKit

theorem pushAll_bits : ∀ (l : List Int) (K : Nat) (S : List Nat), (∀ x ∈ l, 0 ≤ x) → ∀ j : Nat, (pushAll K S l).1.testBit j = true ↔ K.testBit j = true ∨ (j : Int) ∈ l
  | [], K, S, _, j => by simp [pushAll]
  | x :: l, K, S, hl, j => by
    have hx := hl x List.mem_cons_self
    have hl' : ∀ z ∈ l, 0 ≤ z := fun z hz => hl z (List.mem_cons_of_mem _ hz)
    have hjx : (j : Int) = x ↔ x.toNat = j := by omega
    cases ht : K.testBit x.toNat with
    | true =>
      simp only [pushAll, ht, if_true]
      rw [pushAll_bits l K S hl' j, List.mem_cons, hjx]
      constructor
      · rintro (h | h)
        · exact .inl h
        · exact .inr (.inr h)
      · rintro (h | h | h)
        · exact .inl h
        · rw [← h]; exact .inl ht
        · exact .inr h
    | false =>
      simp only [pushAll, ht, Bool.false_eq_true, if_false]
      rw [pushAll_bits l _ _ hl' j, List.mem_cons, hjx, Nat.testBit_or, Nat.testBit_two_pow]
      simp only [Bool.or_eq_true, decide_eq_true_eq]
      constructor
      · rintro ((h | h) | h)
        · exact .inl h
        · exact .inr (.inl h)
        · exact .inr (.inr h)
      · rintro (h | h | h)
        · exact .inl (.inl h)
        · exact .inl (.inr h)
        · exact .inr h

theorem pushAll_stack : ∀ (l : List Int) (K : Nat) (S : List Nat), (∀ x ∈ l, 0 ≤ x) →
    (∀ y ∈ S, y ∈ (pushAll K S l).2) ∧ (∀ j : Nat, (j : Int) ∈ l → K.testBit j = false → j ∈ (pushAll K S l).2)
  | [], K, S, _ => ⟨fun y hy => hy, fun j hj => by cases hj⟩
  | x :: l, K, S, hl => by
    have hx := hl x List.mem_cons_self
    have hl' : ∀ z ∈ l, 0 ≤ z := fun z hz => hl z (List.mem_cons_of_mem _ hz)
    cases ht : K.testBit x.toNat with
    | true =>
      obtain ⟨h1, h2⟩ := pushAll_stack l K S hl'
      simp only [pushAll, ht, if_true]
      refine ⟨h1, fun j hj hb => ?_⟩
      rcases List.mem_cons.1 hj with h | h
      · rw [show x.toNat = j by omega, hb] at ht; cases ht
      · exact h2 j h hb
    | false =>
      obtain ⟨h1, h2⟩ := pushAll_stack l (K ||| 2 ^ x.toNat) (S ++ [x.toNat]) hl'
      simp only [pushAll, ht, Bool.false_eq_true, if_false]
      refine ⟨fun y hy => h1 y (List.mem_append_left _ hy), fun j hj hb => ?_⟩
      by_cases e : j = x.toNat
      · rw [e]; exact h1 _ (by simp)
      · rcases List.mem_cons.1 hj with h | h
        · omega
        · refine h2 j h ?_
          rw [Nat.testBit_or, Nat.testBit_two_pow, hb]
          simp
          omega

theorem needsRun_end {ts : List Task} (hp : PlanOk ts) {Inv : Nat → List Nat → Prop}
    (hstep : ∀ K S x, x < ts.length → Inv K (S ++ [x]) → Inv (pushAll K S (ts.getD x default).after).1 (pushAll K S (ts.getD x default).after).2) :
    ∀ (f K : Nat) (S : List Nat), K < 128 → (∀ x ∈ S, x < ts.length) → (127 - K) * 10 + S.length ≤ f → Inv K S → Inv (needsRun ts f K S) []
  | 0, K, S, hK, _, hf, hI => by
    have : S = [] := List.eq_nil_of_length_eq_zero (by omega)
    subst this
    exact hI
  | f + 1, K, S, hK, hS, hf, hI => by
    rcases List.eq_nil_or_concat S with rfl | ⟨S0, x, rfl⟩
    · exact hI
    · have hx : x < ts.length := hS x (by simp)
      have h7 := hp.1
      have ha := after_in hp hx
      have ha7 := (hp.2 x hx).1
      simp only [List.concat_eq_append] at *
      obtain ⟨p1, p2, p3, p4, p5⟩ := pushAll_spec (ts.getD x default).after K S0 hK (fun z hz => by have := ha z hz; omega)
      have hI2 := hstep K S0 x hx hI
      simp only [needsRun, List.getLast?_concat, List.dropLast_concat]
      refine needsRun_end hp hstep f _ _ p2 (fun z hz => ?_) ?_ hI2
      · rcases p5 z hz with h' | h'
        · exact hS z (by simp [h'])
        · have := ha _ h'; omega
      · simp only [List.length_append, List.length_cons, List.length_nil] at hf
        by_cases e : (pushAll K S0 (ts.getD x default).after).1 = K
        · have := p4 e; rw [e]; omega
        · omega

/-- What a task depends on: its predecessors, theirs, and nothing else. -/
theorem needs_closed {ts : List Task} (hp : PlanOk ts) {i : Nat} (hi : i < ts.length) :
    (∀ x : Nat, (x : Int) ∈ (ts.getD i default).after → (needsV ts i).testBit x = true) ∧
    (∀ k, k < ts.length → (needsV ts i).testBit k = true → ∀ x : Nat, (x : Int) ∈ (ts.getD k default).after → (needsV ts i).testBit x = true) := by
  have H := needsRun_end hp (Inv := fun K S => ∀ y, y < ts.length → (y = i ∨ K.testBit y = true) → y ∈ S ∨ ∀ x : Nat, (x : Int) ∈ (ts.getD y default).after → K.testBit x = true)
    (fun K S x hx hI y hy hyk => by
      have ha : ∀ z ∈ (ts.getD x default).after, 0 ≤ z := fun z hz => (after_in hp hx z hz).1
      obtain ⟨s1, s2⟩ := pushAll_stack (ts.getD x default).after K S ha
      have hb := pushAll_bits (ts.getD x default).after K S ha
      have old : (y = i ∨ K.testBit y = true) → y ∈ (pushAll K S (ts.getD x default).after).2 ∨ ∀ z : Nat, (z : Int) ∈ (ts.getD y default).after → (pushAll K S (ts.getD x default).after).1.testBit z = true := fun h => by
        rcases hI y hy h with h1 | h1
        · rcases List.mem_append.1 h1 with h2 | h2
          · exact .inl (s1 y h2)
          · obtain rfl : y = x := by simpa using h2
            exact .inr fun z hz => (hb z).2 (.inr hz)
        · exact .inr fun z hz => (hb z).2 (.inl (h1 z hz))
      rcases hyk with h | h
      · exact old (.inl h)
      · rcases (hb y).1 h with h1 | h1
        · exact old (.inr h1)
        · cases hk : K.testBit y with
          | true => exact old (.inr hk)
          | false => exact .inl (s2 y h1 hk))
    1300 0 [i] (by decide) (by simpa using hi) (by simp) (fun y hy h => by
      rcases h with h | h
      · exact .inl (by simp [h])
      · simp at h)
  refine ⟨fun x hx => ?_, fun k hk hb x hx => ?_⟩
  · rcases H i hi (.inl rfl) with h | h
    · cases h
    · exact h x hx
  · rcases H k hk (.inr hb) with h | h
    · cases h
    · exact h x hx

theorem needs_least {ts : List Task} (hp : PlanOk ts) {i : Nat} (hi : i < ts.length) (Q : Nat → Prop) (h0 : ∀ x : Nat, (x : Int) ∈ (ts.getD i default).after → Q x)
    (h1 : ∀ k, k < ts.length → Q k → ∀ x : Nat, (x : Int) ∈ (ts.getD k default).after → Q x) : ∀ j, (needsV ts i).testBit j = true → Q j := by
  have H := needsRun_end hp (Inv := fun K S => (∀ j, K.testBit j = true → Q j) ∧ ∀ y ∈ S, y = i ∨ Q y)
    (fun K S x hx hI => by
      have ha : ∀ z ∈ (ts.getD x default).after, 0 ≤ z := fun z hz => (after_in hp hx z hz).1
      have hq : ∀ z : Nat, (z : Int) ∈ (ts.getD x default).after → Q z := fun z hz => by
        rcases hI.2 x (by simp) with h | h
        · subst h; exact h0 z hz
        · exact h1 x hx h z hz
      refine ⟨fun j hj => ?_, fun y hy => ?_⟩
      · rcases (pushAll_bits _ K S ha j).1 hj with h | h
        · exact hI.1 j h
        · exact hq j h
      · have hmem : ∀ (l : List Int) (K : Nat) (S : List Nat), (∀ x ∈ l, 0 ≤ x) → ∀ y ∈ (pushAll K S l).2, y ∈ S ∨ (y : Int) ∈ l := by
          intro l
          induction l with
          | nil => intro K S _ y hy; exact .inl hy
          | cons z l ih =>
            intro K S hl y hy
            have hz := hl z List.mem_cons_self
            have hl' : ∀ x ∈ l, 0 ≤ x := fun x hx => hl x (List.mem_cons_of_mem _ hx)
            cases ht : K.testBit z.toNat with
            | true =>
              simp only [pushAll, ht, if_true] at hy
              exact (ih K S hl' y hy).imp id (List.mem_cons_of_mem _)
            | false =>
              simp only [pushAll, ht, Bool.false_eq_true, if_false] at hy
              rcases ih _ _ hl' y hy with h | h
              · rcases List.mem_append.1 h with h | h
                · exact .inl h
                · have e : y = z.toNat := by simpa using h
                  exact .inr (by rw [e, show ((z.toNat : Nat) : Int) = z by omega]; exact List.mem_cons_self)
              · exact .inr (List.mem_cons_of_mem _ h)
        rcases hmem _ K S ha y hy with h | h
        · exact hI.2 y (List.mem_append_left _ h)
        · exact .inr (hq y h))
    1300 0 [i] (by decide) (by simpa using hi) (by simp) ⟨fun j hj => by simp at hj, fun y hy => .inl (by simpa using hy)⟩
  exact H.1

theorem needs_bound {ts : List Task} (hp : PlanOk ts) {i : Nat} (hi : i < ts.length) : ∀ j, (needsV ts i).testBit j = true → j < ts.length :=
  needs_least hp hi (fun j => j < ts.length) (fun x hx => by have := after_in hp hi _ hx; omega) (fun k hk _ x hx => by have := after_in hp hk _ hx; omega)

/-- What a task depends on depends on less. -/
theorem needs_sub {ts : List Task} (hp : PlanOk ts) {i j : Nat} (hi : i < ts.length) (hj : (needsV ts i).testBit j = true) : ∀ k, (needsV ts j).testBit k = true → (needsV ts i).testBit k = true := by
  have hjn := needs_bound hp hi j hj
  obtain ⟨h1, h2⟩ := needs_closed hp hi
  exact needs_least hp hjn (fun k => (needsV ts i).testBit k = true) (fun x hx => h2 j hjn hj x hx) (fun k hk hq x hx => h2 k hk hq x hx)

end Go.Proofs.YtbojmcopagbheaaGreatDoor
end

section
namespace Go.Proofs.YtbojmcopagbheaaGreatDoor
open Go.RowKit

/-- A plan whose lists name its own tasks, and in which no task depends on itself. -/
def AcyOk (ts : List Task) : Prop := PlanOk ts ∧ ∀ i, i < ts.length → (needsV ts i).testBit i = false

/-- A task may come: it has not, and all on which it depends have. -/
def readyB (ts : List Task) (done i : Nat) : Bool := !done.testBit i && decide (needsV ts i &&& done = needsV ts i)
def passF (ts : List Task) : Nat → Nat → Nat → List Nat × Nat
  | 0, _, d => ([], d)
  | m + 1, i, d => if readyB ts d i then (i :: (passF ts m (i + 1) (d ||| 2 ^ i)).1, (passF ts m (i + 1) (d ||| 2 ^ i)).2) else passF ts m (i + 1) d
def orderF (ts : List Task) : Nat → Nat → List Nat
  | 0, _ => []
  | f + 1, d => if d = 2 ^ ts.length - 1 then [] else (passF ts ts.length 0 d).1 ++ orderF ts f (passF ts ts.length 0 d).2
def orderV (ts : List Task) : List Nat := orderF ts 130 0

theorem readyB_iff {ts : List Task} {done i : Nat} : readyB ts done i = true ↔ done.testBit i = false ∧ ∀ j, (needsV ts i).testBit j = true → done.testBit j = true := by
  unfold readyB
  simp only [Bool.and_eq_true, Bool.not_eq_true', decide_eq_true_eq]
  refine and_congr_right fun _ => ?_
  constructor
  · intro h j hj
    have := congrArg (fun n => n.testBit j) h
    simp only [Nat.testBit_and, hj, Bool.true_and] at this
    exact this
  · intro h
    apply Nat.eq_of_testBit_eq
    intro j
    rw [Nat.testBit_and]
    cases hj : (needsV ts i).testBit j with
    | true => rw [h j hj]; rfl
    | false => rfl

theorem pass_spec {ts : List Task} : ∀ (m i d : Nat), i + m = ts.length → d < 2 ^ ts.length → d ≤ (passF ts m i d).2 ∧ (passF ts m i d).2 < 2 ^ ts.length ∧ ((passF ts m i d).2 = d → ∀ k, i ≤ k → k < ts.length → readyB ts d k = false)
  | 0, i, d, hi, hd => ⟨Nat.le_refl _, hd, fun _ k h1 h2 => by omega⟩
  | m + 1, i, d, hi, hd => by
    cases hr : readyB ts d i with
    | true =>
      have hlt : d ||| 2 ^ i < 2 ^ ts.length := Nat.or_lt_two_pow hd (Nat.pow_lt_pow_right (by decide) (by omega))
      obtain ⟨h1, h2, _⟩ := pass_spec m (i + 1) (d ||| 2 ^ i) (by omega) hlt
      have hg := or_gt (readyB_iff.1 hr).1
      simp only [passF, hr, if_true]
      exact ⟨by omega, h2, fun e => by omega⟩
    | false =>
      obtain ⟨h1, h2, h3⟩ := pass_spec m (i + 1) d (by omega) hd
      simp only [passF, hr, Bool.false_eq_true, if_false]
      refine ⟨h1, h2, fun e k hk1 hk2 => ?_⟩
      by_cases e2 : k = i
      · rw [e2]; exact hr
      · exact h3 e k (by omega) hk2

theorem bit_full {n d : Nat} (hd : d < 2 ^ n) (h : ∀ i, i < n → d.testBit i = true) : d = 2 ^ n - 1 := by
  apply Nat.eq_of_testBit_eq
  intro i
  rw [Nat.testBit_two_pow_sub_one]
  by_cases hi : i < n
  · rw [h i hi]; simp [hi]
  · have : d < 2 ^ i := Nat.lt_of_lt_of_le hd (Nat.pow_le_pow_right (by decide) (by omega))
    rw [Nat.testBit_lt_two_pow this]; simp [hi]

/-- As long as not all have come, one may. -/
theorem some_ready {ts : List Task} (ha : AcyOk ts) {d : Nat} (hd : d < 2 ^ ts.length) (hne : d ≠ 2 ^ ts.length - 1) : ∃ i, i < ts.length ∧ readyB ts d i = true := by
  have hex : ∃ i, i < ts.length ∧ d.testBit i = false := by
    rcases Classical.em (∃ i, i < ts.length ∧ d.testBit i = false) with h | h
    · exact h
    · exfalso
      refine hne (bit_full hd fun i hi => ?_)
      cases hb : d.testBit i with
      | true => rfl
      | false => exact absurd ⟨i, hi, hb⟩ h
  -- one that has not come and whose bits are the least number
  have hmin : ∀ (b : Nat), ∀ i, i < ts.length → d.testBit i = false → needsV ts i < b → ∃ i, i < ts.length ∧ readyB ts d i = true := by
    intro b
    induction b with
    | zero => intro i _ _ h; omega
    | succ b ih =>
      intro i hi hdi hb
      cases hr : readyB ts d i with
      | true => exact ⟨i, hi, hr⟩
      | false =>
        have hj : ∃ j, (needsV ts i).testBit j = true ∧ d.testBit j = false := by
          rcases Classical.em (∃ j, (needsV ts i).testBit j = true ∧ d.testBit j = false) with h | h
          · exact h
          · exfalso
            have : readyB ts d i = true := readyB_iff.2 ⟨hdi, fun j hj => by
              cases hb : d.testBit j with
              | true => rfl
              | false => exact absurd ⟨j, hj, hb⟩ h⟩
            rw [hr] at this
            cases this
        obtain ⟨j, hj1, hj2⟩ := hj
        have hjn := needs_bound ha.1 hi j hj1
        have hsub := needs_sub ha.1 hi hj1
        -- needs j is a part of needs i without j
        have hle : needsV ts j ≤ needsV ts i := Nat.le_of_testBit hsub
        have hne2 : needsV ts j ≠ needsV ts i := fun e => by
          have h1 := ha.2 j hjn
          rw [e, hj1] at h1
          cases h1
        exact ih j hjn hj2 (by omega)
  obtain ⟨i, hi, hdi⟩ := hex
  exact hmin _ i hi hdi (Nat.lt_succ_self _)

theorem pass_gt {ts : List Task} (ha : AcyOk ts) {d : Nat} (hd : d < 2 ^ ts.length) (hne : d ≠ 2 ^ ts.length - 1) : d < (passF ts ts.length 0 d).2 := by
  obtain ⟨h1, _, h3⟩ := pass_spec ts.length 0 d (by omega) hd
  rcases Nat.lt_or_ge d (passF ts ts.length 0 d).2 with h | h
  · exact h
  · exfalso
    obtain ⟨i, hi, hr⟩ := some_ready ha hd hne
    have := h3 (by omega) i (Nat.zero_le _) hi
    rw [hr] at this
    cases this

end Go.Proofs.YtbojmcopagbheaaGreatDoor
end

section
namespace Go.Proofs.YtbojmcopagbheaaGreatDoor
open Go.RowKit Go.Shelf
attribute [local go_sem] Oper.semAt_some undef

theorem bits_andNot {K D : Nat} (hK : K < 2 ^ 62) (hD : D < 2 ^ 62) : bits .andNot .i64 (K : Int) (D : Int) = ((K &&& (2 ^ 64 - (D + 1)) : Nat) : Int) := by
  have hK2 : K < 4611686018427387904 := hK
  have hD2 : D < 4611686018427387904 := hD
  have hx : K &&& (2 ^ 64 - (D + 1)) ≤ K := Nat.and_le_left
  show IntKind.i64.wrap ((BitVec.ofInt 64 (K : Int) &&& ~~~ BitVec.ofInt 64 (D : Int)).toNat : Int) = _
  rw [BitVec.toNat_and, BitVec.toNat_not, ofInt_i64 K (by omega), ofInt_i64 D (by omega)]
  have e : 2 ^ 64 - 1 - D = 2 ^ 64 - (D + 1) := by omega
  rw [e]
  generalize K &&& (2 ^ 64 - (D + 1)) = r at *
  exact IntWalk.i64_in _ (by omega)

theorem andNot_zero {K D : Nat} (hK : K < 2 ^ 62) (hD : D < 2 ^ 62) (h : ∀ j, K.testBit j = true → D.testBit j = true) : bits .andNot .i64 (K : Int) (D : Int) = 0 := by
  rw [bits_andNot hK hD]
  have e : K &&& (2 ^ 64 - (D + 1)) = 0 := by
    apply Nat.eq_of_testBit_eq
    intro j
    rw [Nat.testBit_and, Nat.testBit_two_pow_sub_succ (by have : (2 : Nat) ^ 62 < 2 ^ 64 := by decide
                                                          omega), Nat.zero_testBit]
    cases hj : K.testBit j with
    | false => rfl
    | true => rw [h j hj]; simp
  rw [e]; rfl

theorem andNot_ne {K D j : Nat} (hK : K < 2 ^ 62) (hD : D < 2 ^ 62) (h1 : K.testBit j = true) (h2 : D.testBit j = false) : (bits .andNot .i64 (K : Int) (D : Int) == 0) = false := by
  rw [bits_andNot hK hD]
  have hj : j < 64 := by
    rcases Nat.lt_or_ge j 62 with h | h
    · omega
    · have : K < 2 ^ j := Nat.lt_of_lt_of_le hK (Nat.pow_le_pow_right (by decide) h)
      rw [Nat.testBit_lt_two_pow this] at h1
      cases h1
  have e : (K &&& (2 ^ 64 - (D + 1))).testBit j = true := by
    rw [Nat.testBit_and, Nat.testBit_two_pow_sub_succ (by have : (2 : Nat) ^ 62 < 2 ^ 64 := by decide
                                                          omega), h1, h2]
    simp [hj]
  have hne : K &&& (2 ^ 64 - (D + 1)) ≠ 0 := fun h => by rw [h] at e; simp at e
  generalize K &&& (2 ^ 64 - (D + 1)) = r at *
  rw [beq_eq_false_iff_ne]
  omega

/-- What a round keeps for the iterator: what lies below B, and every block that holds a plan. -/
def OrdKp (B : Nat) (_ W W' : World) : Prop := Below B W W' ∧ ∀ k cs, Blk W k 102 cs → Blk W' k 102 cs

def ordEnc (i : Nat) : Array Value := #[.int .i64 (i : Int)]

theorem abides_past {β : Type} {B : Nat} {J : β → World → Prop} (hJ : AbidesFrom B J) {s : β} {W W' : World} (h : J s W) (hb : Below W.heap.size W W') : J s W' :=
  hJ s W W' none h ⟨hb.os, hb.tape, hb.output, hb.size, fun i hi _ => hb.block i hi⟩ (fun r e => by cases e)

set_option maxRecDepth 100000 in
set_option maxHeartbeats 2000000 in
theorem order_seq (B n : Nat) (ts : List Task) (A : Option Addr) (c : Nat) (m : Int) (w0 : World) (hr : TasksIn B w0 A ts) (hB : B ≤ w0.heap.size) (ha : AcyOk ts) :
    SeqP n Tryz.prog 96 #[.agg #[.int .i64 m, .slice A ts.length c]] #[] ordEnc (fun _ _ => True) (OrdKp B)
      (fun xs => xs = orderV ts) (fun pre => pre ≠ [] ∧ pre <+: orderV ts) (orderV ts).length w0 := by
  intro l J Jx W hW hJ hJx hY h0
  have h7 := ha.1.1
  obtain ⟨F, hF⟩ : ∃ F, F = 2 ^ ts.length - 1 := ⟨_, rfl⟩
  have hF1 : 2 ^ ts.length = F + 1 := by have := Nat.two_pow_pos ts.length; omega
  have hF2 : F + 1 ≤ 128 := by rw [← hF1]; exact Nat.pow_le_pow_right (by decide) h7
  have eF : IntKind.i64.wrap (2 ^ ts.length) = (F : Int) + 1 := by
    rw [wrap_bit (by omega)]
    unfold bitV
    rw [hF1]; simp
  have HF1 := Lib.hid hF1
  have HA := Lib.hid ha
  have HY := Lib.hid hY
  have HJ := Lib.hid hJ
  have hr1 := hr.below (hW.mono hB)
  have hB1 := Nat.le_trans hB hW.size
  clear hF hF1 ha hY hJ hJx hr hW hB
  refine callsIn_of_wp Tryz.func96 rfl trivial ?_ rfl
  simp only [undef, Tryz.ntmps96, List.size_toArray, List.length_cons, List.length_nil, Nat.reduceAdd, Nat.reduceSub, Array.replicate_succ, Array.replicate_zero, List.push_toArray, List.append_toArray, List.nil_append, List.cons_append]
  gi_wp2
  gi_loopw [4] (fun dn wr => ∃ (D f : Nat) (p : List Nat), dn = .int .i64 (D : Int) ∧ D ≤ F ∧ p ++ orderF ts f D = orderV ts ∧ F - D < f ∧ J p wr ∧ Blk wr W.heap.size 102 #[.int .i64 m, .slice A ts.length c] ∧ TasksIn B wr A ts ∧ B ≤ wr.heap.size) (fun dn _ => 128 - (intOf dn).toNat)
  case atStart => exact ⟨0, 130, [], rfl, Nat.zero_le _, rfl, by omega, abides_past HJ.out h0 (pa pr), Blk.newAt rfl, hr1.below ((pa (Below.refl _ W)).mono hB1), by simp; omega⟩
  case round =>
    obtain ⟨D, f, p, rfl, hD, hrun, hf, hj, q0, hT, hBr⟩ := hrel
    clear h0 hr1 hB1
    have d0 := q0.cellAt 0 rfl
    have d1 := q0.cellAt 1 rfl
    have x0 := q0.lt
    have HT := Lib.hid hT
    have HRun := Lib.hid hrun
    clear hT hrun
    by_cases hDF : D = F
    · have hend : p = orderV ts := by
        rw [← HRun.out]
        obtain ⟨f', rfl⟩ : ∃ f', f = f' + 1 := ⟨f - 1, by omega⟩
        simp [orderF, HF1.out, hDF]
      have HEnd := Lib.hid hend
      subst hDF
      clear hend
      gi_wp2
      go_end0
      exact ⟨⟨_, rfl⟩, .inl ⟨p, HEnd.out, hj⟩⟩
    · have hb : ((D : Int) != (F : Int)) = true := by
        rw [bne_iff_ne]; omega
      have hstep : p ++ (passF ts ts.length 0 D).1 ++ orderF ts (f - 1) (passF ts ts.length 0 D).2 = orderV ts := by
        rw [← HRun.out, List.append_assoc]
        obtain ⟨f', rfl⟩ : ∃ f', f = f' + 1 := ⟨f - 1, by omega⟩
        simp only [orderF, HF1.out, Nat.add_sub_cancel, if_neg hDF]
      have HStep := Lib.hid hstep
      have HGt := Lib.hid (pass_gt HA.out (d := D) (by rw [HF1.out]; omega) (by rw [HF1.out]; simpa using hDF))
      have HLt := Lib.hid ((pass_spec (ts := ts) ts.length 0 D (by omega) (by rw [HF1.out]; omega)).2.1)
      clear hDF hstep HRun
      gi_wp2
      obtain ⟨wo, rfl⟩ : ∃ wo : World, wo = wr := ⟨_, rfl⟩
      gi_loopw [4, 18] (fun dn ix wr => ∃ (i D2 : Nat) (p2 : List Nat), i ≤ ts.length ∧ ix = .int .i64 (i : Int) ∧ dn = .int .i64 (D2 : Int) ∧ D2 ≤ F ∧ p2 ++ (passF ts (ts.length - i) i D2).1 ++ orderF ts (f - 1) (passF ts (ts.length - i) i D2).2 = orderV ts ∧ (passF ts (ts.length - i) i D2).2 = (passF ts ts.length 0 D).2 ∧
          J p2 wr ∧ Blk wr W.heap.size 102 #[.int .i64 m, .slice A ts.length c] ∧ TasksIn B wr A ts ∧ B ≤ wr.heap.size) (fun _ ix _ => ts.length - (intOf ix).toNat)
      case atStart => exact ⟨0, D, p, Nat.zero_le _, rfl, rfl, hD, HStep.out, rfl, hj, q0, HT.out, hBr⟩
      case round =>
        obtain ⟨i, D2, p2, hi, rfl, rfl, hD2, hrun, hsame, hj2, s0, hT2, hB2⟩ := hrel
        clear hj q0 d0 d1 x0
        have d0 := s0.cellAt 0 rfl
        have d1 := s0.cellAt 1 rfl
        have x0 := s0.lt
        have HT2 := Lib.hid hT2
        have HRun := Lib.hid hrun
        have HSame := Lib.hid hsame
        clear hT2 hrun hsame
        by_cases hlt : i < ts.length
        · have hm : ts.length - i = (ts.length - (i + 1)) + 1 := by omega
          have hpass : passF ts (ts.length - i) i D2 = if readyB ts D2 i then (i :: (passF ts (ts.length - (i + 1)) (i + 1) (D2 ||| 2 ^ i)).1, (passF ts (ts.length - (i + 1)) (i + 1) (D2 ||| 2 ^ i)).2) else passF ts (ts.length - (i + 1)) (i + 1) D2 := by rw [hm, passF]
          have HPass := Lib.hid hpass
          have e1 : IntKind.i64.wrap (2 ^ i) = bitV i := wrap_bit (by omega)
          have n0 : (0 : Int) ≤ (i : Int) := by omega
          have hne := bitV_ne i
          have hneeds := fun k => (callsIn_wide (n := k)).2 (needs_any B ts A c m i wr HT2.out hB2 hlt HA.out.1)
          have HNeeds := Lib.hid hneeds
          have hK := needsV_lt HA.out.1 hlt
          clear hm hpass hneeds
          cases ht : D2.testBit i with
          | true =>
            have e2 := bits_and_yes (K := D2) (j := i) (by omega) (by omega) ht
            have hnr : readyB ts D2 i = false := by simp [readyB, ht]
            have HR2 := Lib.hid (show passF ts (ts.length - i) i D2 = passF ts (ts.length - (i + 1)) (i + 1) D2 by rw [HPass.out, hnr]; rfl)
            clear ht hnr HPass
            gi_wp2_with (refine ⟨(trivial : Fence.wide.fn 147), ?_⟩; fail_if_success (refine ⟨(fun h => nomatch h), ?_⟩))
            go_roundw
            case rel => exact ⟨i + 1, D2, p2, by omega, by go_num, rfl, hD2, by rw [← HR2.out]; exact HRun.out, by rw [← HR2.out]; exact HSame.out, hj2, s0, HT2.out, hB2⟩
            case measure => simp [intOf]; omega
          | false =>
            have e2 := bits_and_no (K := D2) (j := i) (by omega) (by omega) ht
            rcases Classical.em (∀ j, (needsV ts i).testBit j = true → D2.testBit j = true) with hs | hs
            · have hrd : readyB ts D2 i = true := readyB_iff.2 ⟨ht, hs⟩
              have e3 := andNot_zero (K := needsV ts i) (D := D2) (by omega) (by omega) hs
              obtain ⟨D3, hD3⟩ : ∃ D3, D3 = D2 ||| 2 ^ i := ⟨_, rfl⟩
              have e4 : bits .or .i64 (D2 : Int) (bitV i) = (D3 : Int) := by rw [hD3]; exact bits_or (by omega) (by omega)
              have hD3F : D3 ≤ F := by
                have : D3 < 2 ^ ts.length := by rw [hD3]; exact Nat.or_lt_two_pow (by rw [HF1.out]; omega) (Nat.pow_lt_pow_right (by decide) hlt)
                rw [HF1.out] at this
                omega
              have HR2 := Lib.hid (show passF ts (ts.length - i) i D2 = (i :: (passF ts (ts.length - (i + 1)) (i + 1) D3).1, (passF ts (ts.length - (i + 1)) (i + 1) D3).2) by rw [HPass.out, hrd, hD3]; rfl)
              have hlen : p2.length < (orderV ts).length := by rw [← HRun.out, HR2.out]; simp
              clear ht hs hrd hD3 HPass
              gi_wp2_with (refine ⟨trivial, (fun h => nomatch h), ?_⟩; gi_at_call 99; refine (HNeeds.out _).mono ?_; rintro e w1 ⟨rfl, hbn⟩; obtain ⟨fn, tmps, assign, body, hy, hR⟩ := HY.out p2 i w1 (abides_past HJ.out hj2 hbn) trivial hlen; unfold ordEnc at hy)
              refine ⟨(fun h => nomatch h), (roundIn_any hR).mono ?_⟩
              rintro e W3 (⟨rfl, hJ3, hk3, hk4⟩ | ⟨rfl, hJx3⟩)
              · gi_wp2
                go_roundw
                case rel => exact ⟨i + 1, D3, p2 ++ [i], by omega, by go_num, rfl, hD3F, by have h := HRun.out; rw [HR2.out] at h; simpa using h, by have h := HSame.out; rw [HR2.out] at h; exact h, hJ3, hk4 _ _ (s0.past hbn), (HT2.out.below (hbn.mono hB2)).below hk3, Nat.le_trans (Nat.le_trans hB2 hbn.size) hk3.size⟩
                case measure => simp [intOf]; omega
              · gi_wp2
                refine bodyPost_ret (results_none rfl _ _ _) rfl ?_
                exact ⟨⟨_, rfl⟩, .inr ⟨p2 ++ [i], ⟨by simp, by have h := HRun.out; rw [HR2.out] at h; exact ⟨(passF ts (ts.length - (i + 1)) (i + 1) D3).1 ++ orderF ts (f - 1) (passF ts (ts.length - (i + 1)) (i + 1) D3).2, by rw [← h]; simp⟩⟩, hJx3⟩⟩
            · have hrd : readyB ts D2 i = false := by
                cases h : readyB ts D2 i with
                | false => rfl
                | true => exact absurd (readyB_iff.1 h).2 hs
              have hex : ∃ j, (needsV ts i).testBit j = true ∧ D2.testBit j = false := by
                rcases Classical.em (∃ j, (needsV ts i).testBit j = true ∧ D2.testBit j = false) with h | h
                · exact h
                · exact absurd (fun j hj => by
                    cases hb : D2.testBit j with
                    | true => rfl
                    | false => exact absurd ⟨j, hj, hb⟩ h) hs
              obtain ⟨j, hj1, hj3⟩ := hex
              have e3 := andNot_ne (K := needsV ts i) (D := D2) (by omega) (by omega) hj1 hj3
              have HR2 := Lib.hid (show passF ts (ts.length - i) i D2 = passF ts (ts.length - (i + 1)) (i + 1) D2 by rw [HPass.out, hrd]; rfl)
              clear ht hs hrd hj1 hj3 HPass
              gi_wp2_with (refine ⟨trivial, (fun h => nomatch h), ?_⟩; gi_at_call 99; refine (HNeeds.out _).mono ?_; rintro e w1 ⟨rfl, hbn⟩)
              go_roundw
              case rel => exact ⟨i + 1, D2, p2, by omega, by go_num, rfl, hD2, by rw [← HR2.out]; exact HRun.out, by rw [← HR2.out]; exact HSame.out, abides_past HJ.out hj2 hbn, s0.past hbn, HT2.out.below (hbn.mono hB2), Nat.le_trans hB2 hbn.size⟩
              case measure => simp [intOf]; omega
        · have hz : ts.length - i = 0 := by omega
          have hD2' : D2 = (passF ts ts.length 0 D).2 := by rw [← HSame.out, hz]; rfl
          have HEnd := Lib.hid (show p2 ++ orderF ts (f - 1) D2 = orderV ts by have h := HRun.out; rw [hz] at h; simpa [passF] using h)
          have hDlt : D < D2 := by rw [hD2']; exact HGt.out
          clear hD2' hz
          gi_wp2
          go_roundw
          case rel => exact ⟨D2, f - 1, p2, rfl, hD2, HEnd.out, by omega, hj2, s0, HT2.out, hB2⟩
          case measure => simp [intOf]; omega

end Go.Proofs.YtbojmcopagbheaaGreatDoor
end

section
namespace Go.Proofs.YtbojmcopagbheaaGreatDoor
open Go.RowKit Go.Shelf
attribute [local go_sem] Oper.semAt_some

theorem own_row {β : Type} (B base : Nat) (e : TypeId) (size : Nat) (v : Value) (n : Nat) (xs : List Value) : OwnFrom B (fun (_ : β) W => W.ownsRow base e size v n xs) := fun _ W W' row hs hg hr => by
  refine hs.kept hg ?_
  cases hv : v.ownBlock with
  | none => exact .inl rfl
  | some g =>
    refine .inr fun e => ?_
    obtain ⟨_, o, ho, hc⟩ := hr g e.symm
    rcases hs.2 with ⟨h1, _⟩ | ⟨g', cap, cur, h1, _, hh, _⟩
    · rw [h1] at hv; cases hv
    · rw [h1] at hv
      have : g' = g := by simpa [Value.ownBlock] using hv
      subst this
      rw [hh] at ho
      cases ho
      cases hc

def rowOf (l : List Nat) : List Value := l.map fun (x : Nat) => Value.int .i64 (x : Int)

/-- A row that is appended to is no block of another type. -/
theorem blk_grown {W W' : World} {k : Nat} {t e : TypeId} {cs : Array Value} {base size n : Nat} {v : Value} {xs : List Value} (h : Blk W k t cs) (ho : W.ownsRow base e size v n xs) (hne : e ≠ t) (hg : W.grownBy W' v.ownBlock) : Blk W' k t cs := by
  refine h.grown hg fun he => ?_
  rcases ho.2 with ⟨h1, _⟩ | ⟨g, cap, cur, h1, _, hh, _⟩
  · rw [h1] at he; cases he
  · rw [h1] at he
    have : k = g := by simpa [Value.ownBlock] using he
    subst this
    rw [show W.heap[k]? = _ from h] at hh
    injection hh with hh
    injection hh with _ ht
    exact hne ht.symm
theorem keeps_grown {W W' : World} {base e size n : Nat} {v : Value} {xs : List Value} (ho : W.ownsRow base e size v n xs) (hg : W.grownBy W' v.ownBlock) : KeepsOthers W W' :=
  KeepsOthers.of_grownBy hg fun j o hj hjo => by
    rcases ho.2 with ⟨h1, _⟩ | ⟨g, cap, cur, h1, _, hh, _⟩
    · rw [h1] at hj; cases hj
    · rw [h1] at hj
      have : g = j := by simpa [Value.ownBlock] using hj
      subst this
      rw [hjo] at hh
      injection hh with hh
      rw [hh]
      rfl

set_option maxRecDepth 100000 in
set_option maxHeartbeats 2000000 in
theorem appendSeq_order (B n : Nat) (ts : List Task) (A : Option Addr) (c : Nat) (m : Int) (w : World) (h1 : 1 ≤ n) (hr : TasksIn B w A ts) (hB : B ≤ w.heap.size) (ha : AcyOk ts) (hlen : (orderV ts).length ≤ 7) :
    CallsIn Fence.wide n Tryz.prog 125 #[.slice none 0 0, .func (.func 96) #[.agg #[.int .i64 m, .slice A ts.length c]] #[]] w fun e w' =>
      ∃ v, e = .returned v ∧ w'.ownsRow w.heap.size 3 1 v (orderV ts).length (rowOf (orderV ts)) ∧ Below w.heap.size w w' := by
  obtain ⟨i0, hi0, hz0, hz1, hz2⟩ := info_parts int_info
  refine callsIn_of_wp_marks Tryz.func125 rfl trivial ?_ rfl
  simp only [Tryz.ntmps125, List.size_toArray, List.length_cons, List.length_nil, Nat.reduceAdd, Nat.reduceSub, Array.replicate_succ, Array.replicate_zero, List.push_toArray, List.append_toArray, List.nil_append, List.cons_append]
  gi_wp2
  have bO := Boxed.new w 32 (.slice none 0 0)
  have hB0 : Below w.heap.size w (w.alloc (.cells #[.slice none 0 0] 32)) := pa pr
  generalize w.alloc (.cells #[.slice none 0 0] 32) = W0 at *
  have hsz : w.heap.size < W0.heap.size := bO.lt
  have hr0 : TasksIn B W0 A ts := hr.below (hB0.mono hB)
  refine rangeFunc_law h1 (gf := 96) (fb := #[.agg #[.int .i64 m, .slice A ts.length c]]) (lb := #[]) rfl (enters_of Tryz.func96 (by kernel_rfl) rfl)
    (order_seq B (n - 1) ts A c m W0 hr0 (by omega) ha) (Below.refl _ _)
    (fun h k => ⟨h.1.trans k.1, fun i cs q => k.2 i cs (h.2 i cs q)⟩)
    (fun W A l o o' hl hl2 ho hc => ⟨⟨rfl, rfl, rfl, by simp, fun k hk => World.putObj_heap_other (by omega)⟩, fun k cs q => by
      by_cases e : k = l
      · subst e
        rw [show A.heap[k]? = _ from q] at ho
        cases ho
        cases hc
      · exact (World.putObj_heap_other e).trans q⟩)
    (fun x A l o o' ho hc hp => hp) (fun x => rfl)
    (fun pre W => (∃ v, Boxed W w.heap.size 32 v ∧ W.ownsRow w.heap.size 3 1 v pre.length (rowOf pre) ∧ True) ∧ Below w.heap.size w W)
    (fun _ _ _ => False)
    (OwnFrom.and (Own.from (holdsRow_own w.heap.size w.heap.size 32 3 1 (fun pre => pre.length) (fun pre => rowOf pre) (fun _ _ => True)) _) (ownFrom_below (Nat.le_refl _) hB0.size))
    (fun _ _ _ _ _ hs _ _ => hs)
    ⟨⟨_, bO, World.ownsRow_nil _ _ _ _, trivial⟩, hB0⟩
    (fun x => { tmps := #[.slice none 0 0, .func (.func 96) #[.agg #[.int .i64 m, .slice A ts.length c]] #[], .pointer (some ⟨w.heap.size, 0, none⟩), undef, .slice none 0 0, .int .i64 (x : Int), .func (.func 96) #[.agg #[.int .i64 m, .slice A ts.length c]] #[], .int .i64 (x : Int), undef, undef, undef, undef, undef], defers := [] }) ?assign ?body ?done ?stop
  case assign =>
    intro l x W K hK
    unfold ordEnc
    gi_wp2
    exact hK
  case body =>
    rintro l pre x Wb W hWb ⟨⟨v, hv, hrow, _⟩, hq⟩ _ hlt
    have hc := hv.cell
    gi_wp2_with (gi_at_builtin; refine wpListIn_append_own _ rfl _ _ 32 rfl w.heap.size 3 i0 _ 1 8 Tryz.underlying32 hi0 hz0 hz1 hz2 rfl (by decide) _ _ _ rfl (hrow.alloc _) ⟨W.heap.size, 0, none⟩ 1 1 [.int .i64 (x : Int)] rfl rfl (cell_one_new _ _ _) (by simp [Value.oneCell']) (by simp only [maxLen]; omega) (by omega) (by have := hq.size; simp; omega) ?_; intro v' w1 hown' hgrow _; obtain ⟨g', cap', rfl⟩ := ownsRow_succ hown'; obtain ⟨hv1, hv2, hr2, hk2, hb2⟩ := hv.appended (by decide) hrow hq.size (Nat.le_refl _) hown' hgrow; have hc1 := hv1.cell; have hf1 := hv1.frozen)
    have hplan : ∀ k cs, Blk W k 102 cs → Blk (w1.setCell ⟨w.heap.size, 0, none⟩ (.slice (some ⟨g', 0, none⟩) (pre.length + 1) cap')) k 102 cs := fun k cs q => by
      have q1 : Blk w1 k 102 cs := blk_grown q.alloc (hrow.alloc _) (by decide) hgrow
      refine q1.far ?_
      intro e
      dsimp only at e
      subst e
      have := (show W.heap[w.heap.size]? = _ from hv).symm.trans q
      simp at this
    exact ⟨hk2.from _, ⟨hb2.mono hB, hplan⟩, ⟨_, hv2, by simpa [rowOf] using hr2, trivial⟩, hq.trans hb2⟩
  case done =>
    rintro D ys W hD rfl ⟨⟨v, hv, hrow, _⟩, hq⟩ hK
    have hc := hv.cell
    gi_wp2
    refine ⟨by simp, .inl ⟨_, _, rfl, run_takeDeferred hK, ?_⟩⟩
    exact ⟨_, results_tmp rfl _ _ _, v, rfl, ownsRow_putObj hrow _ hK rfl, hq.trans ⟨rfl, rfl, rfl, by simp, fun k hk => World.putObj_heap_other (by omega)⟩⟩
  case stop =>
    rintro D c pre W _ _ h _
    exact h.elim

set_option maxRecDepth 100000 in
set_option maxHeartbeats 2000000 in
/-- All that an iterator yields, as a slice of the call's own. -/
theorem collect_order (B n : Nat) (ts : List Task) (A : Option Addr) (c : Nat) (m : Int) (w : World) (h1 : 2 ≤ n) (hr : TasksIn B w A ts) (hB : B ≤ w.heap.size) (ha : AcyOk ts) (hlen : (orderV ts).length ≤ 7) :
    CallsIn Fence.wide n Tryz.prog 95 #[.func (.func 96) #[.agg #[.int .i64 m, .slice A ts.length c]] #[]] w fun e w' =>
      ∃ v, e = .returned v ∧ w'.ownsRow w.heap.size 3 1 v (orderV ts).length (rowOf (orderV ts)) ∧ Below w.heap.size w w' := by
  refine callsIn_of_wp Tryz.func95 rfl trivial ?_
  simp only [Tryz.ntmps95, List.size_toArray, List.length_cons, List.length_nil, Nat.reduceAdd, Nat.reduceSub, Array.replicate_succ, Array.replicate_zero, List.push_toArray, List.append_toArray, List.nil_append, List.cons_append]
  have h1' : 1 ≤ n := by omega
  gi_wp2_with (refine ⟨trivial, ?_⟩; gi_at_call 125; refine (appendSeq_order B (n - 1) ts A c m _ (by omega) hr hB ha hlen).mono ?_; rintro e w1 ⟨v, rfl, hown, hb⟩)
  refine bodyPost_ret (results_tmp rfl _ _ _) rfl ?_
  exact ⟨v, rfl, hown, hb⟩

end Go.Proofs.YtbojmcopagbheaaGreatDoor
end

section
namespace Go.Proofs.YtbojmcopagbheaaGreatDoor
open Go.RowKit Go.Shelf
attribute [local go_sem] Oper.semAt_some undef

/-- A row of natural numbers in block kr, from its beginning. -/
def RowAt (kr : Nat) (w : World) (A : Option Addr) (L : List Nat) : Prop :=
  L = [] ∨ (A = some ⟨kr, 0, none⟩ ∧ ∀ j, j < L.length → w.cell? ⟨kr, j, none⟩ = some (.int .i64 (L.getD j 0 : Nat)))

theorem RowAt.keep {kr : Nat} {w w' : World} {A : Option Addr} {L : List Nat} (h : RowAt kr w A L) (hk : w'.heap[kr]? = w.heap[kr]?) : RowAt kr w' A L := by
  rcases h with h | ⟨h1, h2⟩
  · exact .inl h
  · exact .inr ⟨h1, fun j hj => by have := h2 j hj; unfold World.cell? at *; rw [hk]; exact this⟩

def backEnc (p : Nat × Nat) : Array Value := #[.int .i64 (p.1 : Int), .int .i64 (p.2 : Int)]
/-- What a round keeps for the iterator: the box and the row. -/
def BackKp (kb kr : Nat) (_ W W' : World) : Prop := W'.heap[kb]? = W.heap[kb]? ∧ W'.heap[kr]? = W.heap[kr]?

theorem rev_take {L : List Nat} {k : Nat} (hk : k < L.length) : L.reverse.take (L.length - 1 - k) ++ [L.getD k 0] = L.reverse.take (L.length - k) := by
  have e : L.length - k = L.length - 1 - k + 1 := by omega
  rw [e, List.take_add_one]
  congr 1
  rw [List.getElem?_reverse (by omega)]
  have e2 : L.length - 1 - (L.length - 1 - k) = k := by omega
  rw [e2]
  simp [List.getD, hk]

set_option maxRecDepth 100000 in
set_option maxHeartbeats 2000000 in
theorem backward_seq (kb kr n : Nat) (L : List Nat) (A : Option Addr) (c : Nat) (w0 : World) (hb0 : Blk w0 kb 32 #[.slice A L.length c]) (hr0 : RowAt kr w0 A L) (hkr : kr < w0.heap.size) (hlen : L.length ≤ 7) :
    SeqP n Tryz.prog 124 #[] #[.pointer (some ⟨kb, 0, none⟩)] backEnc (fun p _ => p.2 ∈ L) (BackKp kb kr)
      (fun ps => ps.map (·.2) = L.reverse) (fun pre => pre ≠ [] ∧ pre.map (·.2) <+: L.reverse) L.length w0 := by
  intro l J Jx W hW hJ hJx hY h0
  have HY := Lib.hid hY
  have HJ := Lib.hid hJ
  have q0 : Blk W kb 32 #[.slice A L.length c] := hb0.past hW
  have r0 : RowAt kr W A L := hr0.keep (hW.block _ hkr)
  have hkr1 : kr < W.heap.size := Nat.lt_of_lt_of_le hkr hW.size
  clear hY hJ hJx hb0 hr0 hkr hW
  have d0 := q0.cellAt 0 rfl
  have x0 := q0.lt
  have e1 : IntKind.i64.wrap ((L.length : Int) - 1) = (L.length : Int) - 1 := IntWalk.i64_in _ (by omega)
  refine callsIn_of_wp Tryz.func124 rfl trivial ?_ rfl
  simp only [undef, Tryz.ntmps124, List.size_toArray, List.length_cons, List.length_nil, Nat.reduceAdd, Nat.reduceSub, Array.replicate_succ, Array.replicate_zero, List.push_toArray, List.append_toArray, List.nil_append, List.cons_append]
  gi_wp2
  gi_loopw [3] (fun ix wr => ∃ (k : Nat) (p : List (Nat × Nat)), k ≤ L.length ∧ ix = .int .i64 ((k : Int) - 1) ∧ p.length = L.length - k ∧ p.map (·.2) = L.reverse.take (L.length - k) ∧ J p wr ∧ Blk wr kb 32 #[.slice A L.length c] ∧ RowAt kr wr A L ∧ kr < wr.heap.size) (fun ix _ => (intOf ix + 1).toNat)
  case atStart => exact ⟨L.length, [], Nat.le_refl _, rfl, by simp, by simp, h0, q0, r0, hkr1⟩
  case round =>
    obtain ⟨k, p, hk, rfl, hpl, hpm, hj, s0, hrw, hk2⟩ := hrel
    clear h0 q0 r0 hkr1 d0 x0
    have d0 := s0.cellAt 0 rfl
    have x0 := s0.lt
    have HPL := Lib.hid hpl
    have HPM := Lib.hid hpm
    have HRW := Lib.hid hrw
    clear hpl hpm hrw
    by_cases hz : k = 0
    · subst hz
      have HEnd := Lib.hid (show p.map (·.2) = L.reverse by rw [HPM.out]; exact List.take_of_length_le (by simp))
      gi_wp2
      go_end0
      exact ⟨⟨_, rfl⟩, .inl ⟨p, HEnd.out, hj⟩⟩
    · obtain ⟨i, rfl⟩ : ∃ i, k = i + 1 := ⟨k - 1, by omega⟩
      obtain ⟨hA, hcells⟩ : A = some ⟨kr, 0, none⟩ ∧ ∀ j, j < L.length → wr.cell? ⟨kr, j, none⟩ = some (.int .i64 (L.getD j 0 : Nat)) := by
        rcases HRW.out with h | h
        · subst h; simp at hk
        · exact h
      subst hA
      have ei : ((i + 1 : Nat) : Int) - 1 = (i : Int) := by omega
      rw [ei]
      have ci := hcells i (by omega)
      have e2 : IntKind.i64.wrap ((i : Int) - 1) = (i : Int) - 1 := IntWalk.i64_in _ (by omega)
      have hmap : (p ++ [(i, L.getD i 0)]).map (·.2) = L.reverse.take (L.length - i) := by
        rw [List.map_append, HPM.out, show L.length - (i + 1) = L.length - 1 - i by omega]
        exact rev_take (by omega)
      have HMap := Lib.hid hmap
      obtain ⟨x, hx⟩ : ∃ x, x = L.getD i 0 := ⟨_, rfl⟩
      rw [← hx] at ci
      have HX := Lib.hid hx
      have hmem : x ∈ L := by rw [hx]; simp [List.getD, show i < L.length by omega]
      clear hcells ei hmap hx
      have hlt : p.length < L.length := by rw [HPL.out]; omega
      have n0 : (0 : Int) ≤ (i : Int) := by omega
      obtain ⟨fn, tmps, assign, body, hy, hR⟩ := HY.out p (i, x) wr hj hmem hlt
      unfold backEnc at hy
      gi_wp2
      refine ⟨(fun h => nomatch h), (roundIn_any hR).mono ?_⟩
      rintro e W3 (⟨rfl, hJ3, hk3, hk4⟩ | ⟨rfl, hJx3⟩)
      · gi_wp2
        go_roundw
        case rel => exact ⟨i, p ++ [(i, x)], by omega, rfl, by simp [HPL.out]; omega, by rw [HX.out]; exact HMap.out, hJ3, hk3.trans s0, HRW.out.keep hk4, by
          rcases Nat.lt_or_ge kr W3.heap.size with h | h
          · exact h
          · rw [Array.getElem?_eq_none h, Array.getElem?_eq_getElem hk2] at hk4; cases hk4⟩
        case measure => simp [intOf]
      · gi_wp2
        refine bodyPost_ret (results_none rfl _ _ _) rfl ?_
        exact ⟨⟨_, rfl⟩, .inr ⟨p ++ [(i, x)], ⟨by simp, by rw [HX.out, HMap.out]; exact List.take_prefix _ _⟩, hJx3⟩⟩

/-- Backward hands over its iterator, which holds the row's box. -/
theorem backward_any (A : Option Addr) (k c : Nat) (w : World) :
    Calls Tryz.prog 94 #[.slice A k c] w fun e w' => e = .returned (.func (.func 124) #[] #[.pointer (some ⟨w.heap.size, 0, none⟩)]) ∧ w' = w.alloc (.cells #[.slice A k c] 32) := by
  go_enter Tryz.func94, Tryz.ntmps94
  go_wp2
  refine bodyPost_ret (results_tmp rfl _ _ _) rfl ?_
  exact ⟨rfl, rfl⟩

end Go.Proofs.YtbojmcopagbheaaGreatDoor
end

section
namespace Go.Proofs.YtbojmcopagbheaaGreatDoor
open Go.RowKit

theorem pass_mem {ts : List Task} : ∀ (m i d x : Nat), x ∈ (passF ts m i d).1 → i ≤ x ∧ x < i + m ∧ d.testBit x = false
  | 0, _, _, x, h => by simp [passF] at h
  | m + 1, i, d, x, h => by
    cases hr : readyB ts d i with
    | true =>
      simp only [passF, hr, if_true, List.mem_cons] at h
      rcases h with rfl | h
      · exact ⟨Nat.le_refl _, by omega, (readyB_iff.1 hr).1⟩
      · obtain ⟨h1, h2, h3⟩ := pass_mem m (i + 1) _ x h
        refine ⟨by omega, by omega, ?_⟩
        rw [Nat.testBit_or] at h3
        exact (Bool.or_eq_false_iff.1 h3).1
    | false =>
      simp only [passF, hr, Bool.false_eq_true, if_false] at h
      obtain ⟨h1, h2, h3⟩ := pass_mem m (i + 1) _ x h
      exact ⟨by omega, by omega, h3⟩

theorem pass_bits {ts : List Task} : ∀ (m i d : Nat), (passF ts m i d).1.Nodup ∧ (∀ x, d.testBit x = true → (passF ts m i d).2.testBit x = true) ∧ ∀ x ∈ (passF ts m i d).1, (passF ts m i d).2.testBit x = true
  | 0, _, d => by simp [passF]
  | m + 1, i, d => by
    cases hr : readyB ts d i with
    | true =>
      obtain ⟨h1, h2, h3⟩ := pass_bits (ts := ts) m (i + 1) (d ||| 2 ^ i)
      simp only [passF, hr, if_true]
      refine ⟨List.nodup_cons.2 ⟨fun hm => ?_, h1⟩, fun x hx => h2 x (by rw [Nat.testBit_or, hx]; rfl), fun x hx => ?_⟩
      · have := (pass_mem m (i + 1) _ i hm).1
        omega
      · rcases List.mem_cons.1 hx with rfl | hx
        · exact h2 x (by rw [Nat.testBit_or, Nat.testBit_two_pow_self]; simp)
        · exact h3 x hx
    | false =>
      obtain ⟨h1, h2, h3⟩ := pass_bits (ts := ts) m (i + 1) d
      simp only [passF, hr, Bool.false_eq_true, if_false]
      exact ⟨h1, h2, h3⟩

theorem orderF_spec {ts : List Task} : ∀ (f d : Nat), (orderF ts f d).Nodup ∧ ∀ x ∈ orderF ts f d, x < ts.length ∧ d.testBit x = false
  | 0, _ => by simp [orderF]
  | f + 1, d => by
    unfold orderF
    split
    · simp
    · obtain ⟨h1, h2⟩ := orderF_spec (ts := ts) f (passF ts ts.length 0 d).2
      obtain ⟨p1, p2, p3⟩ := pass_bits (ts := ts) ts.length 0 d
      refine ⟨List.nodup_append.2 ⟨p1, h1, fun x hx y hy e => ?_⟩, fun x hx => ?_⟩
      · subst e
        have := p3 x hx
        rw [(h2 x hy).2] at this
        cases this
      · rcases List.mem_append.1 hx with hx | hx
        · obtain ⟨_, q2, q3⟩ := pass_mem _ _ _ _ hx
          exact ⟨by omega, q3⟩
        · obtain ⟨q1, q2⟩ := h2 x hx
          refine ⟨q1, ?_⟩
          cases hb : d.testBit x with
          | false => rfl
          | true =>
            have := p2 x hb
            rw [q2] at this
            cases this

theorem nodup_len : ∀ (n : Nat) (l : List Nat), l.Nodup → (∀ x ∈ l, x < n) → l.length ≤ n
  | 0, l, _, h => by
    cases l with
    | nil => simp
    | cons x l => have := h x (by simp); omega
  | n + 1, l, hn, h => by
    have h1 := nodup_len n (l.erase n) (hn.erase n) (fun x hx => by
      obtain ⟨h1, h2⟩ := (List.Nodup.mem_erase_iff hn).1 hx
      have := h x h2
      omega)
    by_cases hm : n ∈ l
    · rw [List.length_erase_of_mem hm] at h1
      omega
    · rw [List.erase_of_not_mem hm] at h1
      omega

theorem order_nodup (ts : List Task) : (orderV ts).Nodup := (orderF_spec 130 0).1
theorem order_mem {ts : List Task} {x : Nat} (h : x ∈ orderV ts) : x < ts.length := ((orderF_spec 130 0).2 x h).1
theorem order_len (ts : List Task) : (orderV ts).length ≤ ts.length := nodup_len _ _ (order_nodup ts) fun _ h => order_mem h

end Go.Proofs.YtbojmcopagbheaaGreatDoor
end
