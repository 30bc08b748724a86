/- Plans: how they lie in memory; contracts of the functions that look through a slice with a callback, and of those that check a task. -/
import Derived.Test.YtlgioldmjohhlaaEStack
import Derived.Test.YtlgioldmjohhlaaAAppend
namespace Go.Proofs.Ytlgioldmjohhlaa
open Go.RowKit

structure Task where
  machine : Int
  length : Int
  release : Int
  after : List Int

instance : Inhabited Task := ⟨⟨0, 0, 0, []⟩⟩

/-- A task at an address: four cells; its list below block B. -/
def TaskAt (B : Nat) (w : World) (b off : Nat) (t : Task) : Prop :=
  w.cell? ⟨b, off, none⟩ = some (.int .i64 t.machine) ∧ w.cell? ⟨b, off + 1, none⟩ = some (.int .i64 t.length) ∧ w.cell? ⟨b, off + 2, none⟩ = some (.int .i64 t.release) ∧
  ∃ A c, w.cell? ⟨b, off + 3, none⟩ = some (.slice A t.after.length c) ∧ IntsIn B w A t.after ∧ t.after.length ≤ c

/-- A slice of tasks. -/
def TasksIn (B : Nat) (w : World) (A : Option Addr) (ts : List Task) : Prop :=
  ts = [] ∨ ∃ b off, A = some ⟨b, off, none⟩ ∧ b < B ∧ ∀ i, i < ts.length → TaskAt B w b (off + i * 4) (ts.getD i default)

theorem TaskAt.keep {B : Nat} {w w' : World} {b off : Nat} {t : Task} (h : TaskAt B w b off t) (hb : b < B) (hk : ∀ b o, b < B → w'.cell? ⟨b, o, none⟩ = w.cell? ⟨b, o, none⟩) : TaskAt B w' b off t := by
  obtain ⟨h0, h1, h2, A, c, h3, h4, h5⟩ := h
  exact ⟨(hk _ _ hb).trans h0, (hk _ _ hb).trans h1, (hk _ _ hb).trans h2, A, c, (hk _ _ hb).trans h3, h4.keep hk, h5⟩
theorem TasksIn.keep {B : Nat} {w w' : World} {A : Option Addr} {ts : List Task} (h : TasksIn B w A ts) (hk : ∀ b o, b < B → w'.cell? ⟨b, o, none⟩ = w.cell? ⟨b, o, none⟩) : TasksIn B w' A ts := by
  rcases h with h | ⟨b, off, hA, hb, hc⟩
  · exact .inl h
  · exact .inr ⟨b, off, hA, hb, fun i hi => (hc i hi).keep hb hk⟩
theorem TasksIn.below {B : Nat} {w w' : World} {A : Option Addr} {ts : List Task} (h : TasksIn B w A ts) (hb : Below B w w') : TasksIn B w' A ts := h.keep (bcell hb).1
theorem TaskAt.more {B B' : Nat} {w : World} {b off : Nat} {t : Task} (h : TaskAt B w b off t) (hB : B ≤ B') : TaskAt B' w b off t := by
  obtain ⟨h0, h1, h2, A, c, h3, h4, h5⟩ := h
  exact ⟨h0, h1, h2, A, c, h3, h4.more hB, h5⟩
theorem TasksIn.more {B B' : Nat} {w : World} {A : Option Addr} {ts : List Task} (h : TasksIn B w A ts) (hB : B ≤ B') : TasksIn B' w A ts := by
  rcases h with h | ⟨b, off, hA, hb, hc⟩
  · exact .inl h
  · exact .inr ⟨b, off, hA, by omega, fun i hi => (hc i hi).more hB⟩
theorem TasksIn.at_ {B : Nat} {w : World} {A : Option Addr} {ts : List Task} {k : Nat} (h : TasksIn B w A ts) (hk : k < ts.length) : ∃ b off, A = some ⟨b, off, none⟩ ∧ b < B ∧ ∀ i, i < ts.length → TaskAt B w b (off + i * 4) (ts.getD i default) := by
  rcases h with h | h
  · subst h; simp at hk
  · exact h

/-- The first place from k on at which p holds, or -1. -/
def findFrom (p : Int → Bool) (xs : List Int) (k : Nat) : Int :=
  match (xs.drop k).findIdx? p with
  | some i => ((k + i : Nat) : Int)
  | none => -1
def anyB (p : Int → Bool) (xs : List Int) : Bool := xs.any p

theorem findFrom_step (p : Int → Bool) (xs : List Int) (k : Nat) (h : k < xs.length) : findFrom p xs k = if p (xs.getD k 0) = true then (k : Int) else findFrom p xs (k + 1) := by
  unfold findFrom
  rw [List.drop_eq_getElem_cons h, List.findIdx?_cons]
  have e : xs.getD k 0 = xs[k] := by simp [List.getD, h]
  rw [e]
  by_cases hx : p xs[k] = true
  · simp [hx]
  · simp only [hx]
    cases (List.drop (k + 1) xs).findIdx? p with
    | none => rfl
    | some i => simp; omega
theorem findFrom_end (p : Int → Bool) (xs : List Int) (k : Nat) (h : xs.length ≤ k) : findFrom p xs k = -1 := by
  unfold findFrom
  rw [List.drop_eq_nil_of_le h]
  rfl
theorem findFrom_any (p : Int → Bool) (xs : List Int) : decide (0 ≤ findFrom p xs 0) = anyB p xs := by
  unfold findFrom anyB
  simp only [List.drop_zero]
  cases h : xs.findIdx? p with
  | none =>
    have h2 := List.findIdx?_eq_none_iff.1 h
    have h3 : xs.any p = false := by rw [List.any_eq_false]; intro x hx; simp [h2 x hx]
    simp [h3]
  | some i =>
    obtain ⟨h1, h2, _⟩ := List.findIdx?_eq_some_iff_getElem.1 h
    have h3 : xs.any p = true := by rw [List.any_eq_true]; exact ⟨xs[i], List.getElem_mem h1, h2⟩
    simp [h3]

set_option maxHeartbeats 400000 in
theorem indexFunc_open (B : Nat) (A : Option Addr) (n c : Nat) (xs : List Int) (p : Int → Bool) (q : Value) (w : World) (hr : IntsIn B w A xs) (hn : xs.length = n) (hm : n ≤ 1000)
    (hcb : ∀ x, Calls Try.prog 142 #[.int .i64 x, q] w fun e w' => e = .returned (.bool (p x)) ∧ w = w') :
    Calls Try.prog 144 #[.slice A n c, .func (.func 142) #[] #[q]] w fun e w' => e = .returned (.int .i64 (findFrom p xs 0)) ∧ w = w' := by
  subst hn
  have HC := Lib.hid hcb
  clear hcb
  go_enter Try.func144, Try.ntmps144
  go_wp2
  go_loop [8] (fun i => ∃ k : Nat, k ≤ xs.length ∧ i = .int .i64 k ∧ findFrom p xs 0 = findFrom p xs k) (fun i => xs.length - (intOf i).toNat)
  case atStart => exact ⟨0, Nat.zero_le _, rfl, rfl⟩
  case round =>
    obtain ⟨k, hk, rfl, hf⟩ := hrel
    by_cases hlt : k < xs.length
    · obtain ⟨b, off, rfl, hb, hc⟩ := hr.at_ hlt
      have hcell := hc k hlt
      have HF := Lib.hid (hf.trans (findFrom_step p xs k hlt))
      clear hc hf hr
      generalize xs.getD k 0 = y at *
      cases hxy : p y
      · have HX := Lib.hid hxy
        go_wp2_with (go_at_call 142; refine (HC.out _).mono ?_; rintro e w' ⟨rfl, rfl⟩)
        go_round
        case rel => exact ⟨k + 1, by omega, by go_num, by rw [HF.out, HX.out]; simp⟩
        case measure => simp [intOf]; omega
      · have HX := Lib.hid hxy
        go_wp2_with (go_at_call 142; refine (HC.out _).mono ?_; rintro e w' ⟨rfl, rfl⟩)
        go_ret
        exact ⟨ret_int (by rw [HF.out, HX.out]; simp), rfl⟩
    · have HF := Lib.hid (show findFrom p xs 0 = -1 by rw [hf]; exact findFrom_end _ _ _ (by omega))
      clear hf
      go_wp2
      go_ret
      exact ⟨ret_int HF.out.symm, rfl⟩

theorem containsFunc_open (B : Nat) (A : Option Addr) (n c : Nat) (xs : List Int) (p : Int → Bool) (q : Value) (w : World) (hr : IntsIn B w A xs) (hn : xs.length = n) (hm : n ≤ 1000)
    (hcb : ∀ x, Calls Try.prog 142 #[.int .i64 x, q] w fun e w' => e = .returned (.bool (p x)) ∧ w = w') :
    Calls Try.prog 123 #[.slice A n c, .func (.func 142) #[] #[q]] w fun e w' => e = .returned (.bool (anyB p xs)) ∧ w = w' := by
  have H := Lib.hid (findFrom_any p xs)
  have HI := Lib.hid (indexFunc_open B A n c xs p q w hr hn hm hcb)
  clear hcb hr hn
  go_enter Try.func123, Try.ntmps123
  go_wp2_with (go_at_call 144; refine HI.out.mono ?_; rintro e w' ⟨rfl, rfl⟩)
  go_ret
  exact ⟨ret_bool H.out, rfl⟩

def geB (n : Nat) (x : Int) : Bool := decide ((n : Int) ≤ x)

theorem open1_any (x : Int) (b : Nat) (A : Option Addr) (n c : Nat) (w : World) (h : w.cell? ⟨b, 1, none⟩ = some (.slice A n c)) :
    Calls Try.prog 142 #[.int .i64 x, .pointer (some ⟨b, 0, none⟩)] w fun e w' => e = .returned (.bool (geB n x)) ∧ w = w' := by
  go_enter Try.func142, Try.ntmps142
  go_wp2
  go_ret
  exact ⟨ret_bool (by simp [geB]), rfl⟩

def afterErr (xs : List Int) (i : Nat) : Int := firstV [unlessV (withinB (xs.getD i 0) 0 6) 2, unlessV (decide (i = 0) || decide (xs.getD (i - 1) 0 < xs.getD i 0)) 9]
def taskE1 (t : Task) : Int := firstV [unlessV (withinB t.machine 0 3 && withinB t.length 1 10000 && withinB t.release 0 10000) 2, unlessV (decide ((t.after.length : Int) ≤ 7)) 8]
def taskE (t : Task) : Int := if taskE1 t ≠ 0 then taskE1 t else (scan (afterErr t.after) t.after.length 0).2

end Go.Proofs.Ytlgioldmjohhlaa
