/- Plain law: a list that is closed under 'after' holds just what the program's bits hold. No program. -/
import Derived.Test.YtbojmcopagbheaaGreatDoorQ9
namespace Go.Proofs.YtbojmcopagbheaaGreatDoor
open Go.RowKit

def afterOf (ts : List Task) (i : Nat) : List Int := (ts.getD i default).after

/-- How many of the first seven numbers a list lacks. -/
def lackN (out : List Int) : Nat → Nat
  | 0 => 0
  | k + 1 => lackN out k + if hasB out (k : Int) then 0 else 1
theorem hasB_iff {out : List Int} {x : Int} : hasB out x = true ↔ x ∈ out := by
  unfold hasB
  exact List.contains_iff_mem
theorem hasB_snoc (out : List Int) (y x : Int) : hasB (out ++ [y]) x = (hasB out x || x == y) := by
  rw [Bool.eq_iff_iff, Bool.or_eq_true, hasB_iff, hasB_iff, beq_iff_eq]
  simp
theorem lack_le (out : List Int) : ∀ k, lackN out k ≤ k
  | 0 => Nat.le_refl _
  | k + 1 => by
    unfold lackN
    have := lack_le out k
    split <;> omega
theorem lack_mono (out : List Int) (y : Int) : ∀ k, lackN (out ++ [y]) k ≤ lackN out k
  | 0 => Nat.le_refl _
  | k + 1 => by
    unfold lackN
    have h1 := lack_mono out y k
    rw [hasB_snoc]
    cases hasB out (k : Int) <;> cases ((k : Int) == y) <;> simp <;> omega
theorem lack_drop (out : List Int) (y : Nat) (h : hasB out (y : Int) = false) : ∀ k, y < k → lackN (out ++ [(y : Int)]) k + 1 ≤ lackN out k
  | 0, hk => by omega
  | k + 1, hk => by
    unfold lackN
    rw [hasB_snoc]
    by_cases he : k = y
    · subst he
      have h1 := lack_mono out (k : Int) k
      rw [h]
      simp
      omega
    · have h1 := lack_drop out y h k (by omega)
      have h2 : ((k : Int) == (y : Int)) = false := by
        rw [beq_eq_false_iff_ne]
        omega
      rw [h2, Bool.or_false]
      omega

/-- What holds of the list when the first i of its places have been looked at. -/
structure DepInv (ts : List Task) (task i : Nat) (out : List Int) : Prop where
  room : out.length + lackN out 7 ≤ 14
  le : i ≤ out.length
  rng : ∀ x ∈ out, 0 ≤ x ∧ x < ts.length
  sound : ∀ x : Nat, (x : Int) ∈ out → (needsV ts task).testBit x = true
  base : ∀ x ∈ afterOf ts task, x ∈ out
  closed : ∀ j, j < i → ∀ y ∈ afterOf ts (out.getD j 0).toNat, y ∈ out

theorem DepInv.start {ts : List Task} (hp : PlanOk ts) {task : Nat} (ht : task < ts.length) : DepInv ts task 0 (afterOf ts task) where
  room := by
    have := (hp.2 task ht).1
    have h2 := lack_le (afterOf ts task) 7
    have h3 : (afterOf ts task).length ≤ 7 := this
    omega
  le := Nat.zero_le _
  rng := fun x hx => after_in hp ht x hx
  sound := fun x hx => (needs_closed hp ht).1 x hx
  base := fun _ hx => hx
  closed := fun j hj => by omega

theorem DepInv.push {ts : List Task} (hp : PlanOk ts) {task i : Nat} (ht : task < ts.length) {out : List Int} (h : DepInv ts task i out) (hi : i < out.length) {x : Int} (hx : x ∈ afterOf ts (out.getD i 0).toNat) (hno : hasB out x = false) : DepInv ts task i (out ++ [x]) := by
  have hmem : out.getD i 0 ∈ out := getD_mem hi
  have hr := h.rng _ hmem
  have hlt : (out.getD i 0).toNat < ts.length := by omega
  have hxr := after_in hp hlt x hx
  have h7 := hp.1
  obtain ⟨y, rfl⟩ : ∃ y : Nat, x = (y : Int) := ⟨x.toNat, by omega⟩
  have hs : (needsV ts task).testBit (out.getD i 0).toNat = true := h.sound _ (by rw [show (((out.getD i 0).toNat : Nat) : Int) = out.getD i 0 by omega]; exact hmem)
  exact {
    room := by
      have h1 := lack_drop out y hno 7 (by omega)
      have h2 := h.room
      rw [List.length_append]
      simp only [List.length_cons, List.length_nil]
      omega
    le := by have := h.le; rw [List.length_append]; omega
    rng := fun z hz => by
      rcases List.mem_append.1 hz with hz | hz
      · exact h.rng z hz
      · rw [List.mem_singleton.1 hz]; exact hxr
    sound := fun z hz => by
      rcases List.mem_append.1 hz with hz | hz
      · exact h.sound z hz
      · have : z = y := by have := List.mem_singleton.1 hz; omega
        subst this
        exact (needs_closed hp ht).2 _ hlt hs _ hx
    base := fun z hz => List.mem_append_left _ (h.base z hz)
    closed := fun j hj z hz => by
      have hjl : j < out.length := by have := h.le; omega
      have e : (out ++ [(y : Int)]).getD j 0 = out.getD j 0 := by simp [List.getD, List.getElem?_append_left hjl]
      rw [e] at hz
      exact List.mem_append_left _ (h.closed j hj z hz) }
theorem DepInv.next {ts : List Task} {task i : Nat} {out : List Int} (h : DepInv ts task i out) (hi : i < out.length) (hall : ∀ y ∈ afterOf ts (out.getD i 0).toNat, y ∈ out) : DepInv ts task (i + 1) out :=
  { h with
    le := hi
    closed := fun j hj z hz => by
      rcases Nat.lt_or_ge j i with h1 | h1
      · exact h.closed j h1 z hz
      · obtain rfl : j = i := by omega
        exact hall z hz }
theorem DepInv.has {ts : List Task} (hp : PlanOk ts) {task : Nat} (ht : task < ts.length) {out : List Int} (h : DepInv ts task out.length out) (x : Nat) : hasB out (x : Int) = (needsV ts task).testBit x := by
  rw [Bool.eq_iff_iff, hasB_iff]
  refine ⟨h.sound x, fun hb => ?_⟩
  refine needs_least hp ht (fun y => (y : Int) ∈ out) (fun y hy => h.base _ hy) (fun y _ hy z hz => ?_) x hb
  obtain ⟨j, hj, he⟩ := List.getElem_of_mem hy
  have e : out.getD j 0 = (y : Int) := getD_of hj he
  refine h.closed j hj _ ?_
  rw [e]
  exact hz

end Go.Proofs.YtbojmcopagbheaaGreatDoor
