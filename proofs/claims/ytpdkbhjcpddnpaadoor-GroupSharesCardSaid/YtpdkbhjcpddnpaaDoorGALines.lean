/- Contracts of lines: the callback that looks for a great number; the error of lines. -/
import Derived.Test.YtpdkbhjcpddnpaaDoorG8Wind
import Derived.Deep.QuietTactic
namespace Go.Proofs.YtpdkbhjcpddnpaaDoor
open Go.RowKit
attribute [local go_sem ↓] Go.wp_at_zero Go.wp_at_succ

/-- The first place from k on at which p holds, or -1. -/
def findFrom (p : Int → Bool) (xs : List Int) (k : Nat) : Int :=
  match (xs.drop k).findIdx? p with
  | some i => ((k + i : Nat) : Int)
  | none => -1
def anyB (p : Int → Bool) (xs : List Int) : Bool := xs.any p

theorem findFrom_step (p : Int → Bool) (xs : List Int) (k : Nat) (h : k < xs.length) : findFrom p xs k = if p (xs.getD k 0) = true then (k : Int) else findFrom p xs (k + 1) := by
  unfold findFrom
  rw [List.drop_eq_getElem_cons h, List.findIdx?_cons]
  have e : xs.getD k 0 = xs[k] := by simp [List.getD, h]
  rw [e]
  by_cases hx : p xs[k] = true
  · simp [hx]
  · simp only [hx]
    cases (List.drop (k + 1) xs).findIdx? p with
    | none => rfl
    | some i => simp; omega
theorem findFrom_end (p : Int → Bool) (xs : List Int) (k : Nat) (h : xs.length ≤ k) : findFrom p xs k = -1 := by
  unfold findFrom
  rw [List.drop_eq_nil_of_le h]
  rfl
theorem findFrom_any (p : Int → Bool) (xs : List Int) : decide (0 ≤ findFrom p xs 0) = anyB p xs := by
  unfold findFrom anyB
  simp only [List.drop_zero]
  cases h : xs.findIdx? p with
  | none =>
    have h2 := List.findIdx?_eq_none_iff.1 h
    have h3 : xs.any p = false := by rw [List.any_eq_false]; intro x hx; simp [h2 x hx]
    simp [h3]
  | some i =>
    obtain ⟨h1, h2, _⟩ := List.findIdx?_eq_some_iff_getElem.1 h
    have h3 : xs.any p = true := by rw [List.any_eq_true]; exact ⟨xs[i], List.getElem_mem h1, h2⟩
    simp [h3]

theorem great_any (n : Int) (w : World) :
    Calls Tryd.prog 57 #[.int .i64 n] w fun e w' => e = .returned (.bool (!withinB n (-10000) 10000)) ∧ w = w' := by
  go_enter Tryd.func57, Tryd.ntmps57
  go_wp2_with (go_at_call 25; refine (small_any _ 10000 (by decide) (by decide) _).mono ?_; rintro e w' ⟨rfl, rfl⟩)
  go_ret
  exact ⟨rfl, rfl⟩

set_option maxHeartbeats 400000 in
theorem indexFunc_any (B : Nat) (A : Option Addr) (n c : Nat) (xs : List Int) (p : Int → Bool) (w : World) (hr : IntsIn B w A xs) (hn : xs.length = n) (hm : n ≤ 1000)
    (hcb : ∀ x w, Calls Tryd.prog 57 #[.int .i64 x] w fun e w' => e = .returned (.bool (p x)) ∧ w = w') :
    Calls Tryd.prog 69 #[.slice A n c, .func (.func 57) #[] #[]] w fun e w' => e = .returned (.int .i64 (findFrom p xs 0)) ∧ w = w' := by
  subst hn
  have HC := Lib.hid hcb
  clear hcb
  go_enter Tryd.func69, Tryd.ntmps69
  go_wp2
  go_loop [8] (fun i => ∃ k : Nat, k ≤ xs.length ∧ i = .int .i64 k ∧ findFrom p xs 0 = findFrom p xs k) (fun i => xs.length - (intOf i).toNat)
  case atStart => exact ⟨0, Nat.zero_le _, rfl, rfl⟩
  case round =>
    obtain ⟨k, hk, rfl, hf⟩ := hrel
    by_cases hlt : k < xs.length
    · obtain ⟨b, off, rfl, hb, hc⟩ := hr.at_ hlt
      have hcell := hc k hlt
      have HF := Lib.hid (hf.trans (findFrom_step p xs k hlt))
      clear hc hf hr
      generalize xs.getD k 0 = y at *
      cases hxy : p y
      · have HX := Lib.hid hxy
        go_wp2_with (go_at_call 57; refine (HC.out _ _).mono ?_; rintro e w' ⟨rfl, rfl⟩)
        go_round
        case rel => exact ⟨k + 1, by omega, by go_num, by rw [HF.out, HX.out]; simp⟩
        case measure => simp [intOf]; omega
      · have HX := Lib.hid hxy
        go_wp2_with (go_at_call 57; refine (HC.out _ _).mono ?_; rintro e w' ⟨rfl, rfl⟩)
        go_ret
        exact ⟨ret_int (by rw [HF.out, HX.out]; simp), rfl⟩
    · have HF := Lib.hid (show findFrom p xs 0 = -1 by rw [hf]; exact findFrom_end _ _ _ (by omega))
      clear hf
      go_wp2
      go_ret
      exact ⟨ret_int HF.out.symm, rfl⟩

theorem containsFunc_any (B : Nat) (A : Option Addr) (n c : Nat) (xs : List Int) (p : Int → Bool) (w : World) (hr : IntsIn B w A xs) (hn : xs.length = n) (hm : n ≤ 1000)
    (hcb : ∀ x w, Calls Tryd.prog 57 #[.int .i64 x] w fun e w' => e = .returned (.bool (p x)) ∧ w = w') :
    Calls Tryd.prog 56 #[.slice A n c, .func (.func 57) #[] #[]] w fun e w' => e = .returned (.bool (anyB p xs)) ∧ w = w' := by
  have H := Lib.hid (findFrom_any p xs)
  have HI := Lib.hid (indexFunc_any B A n c xs p w hr hn hm hcb)
  clear hcb hr hn
  go_enter Tryd.func56, Tryd.ntmps56
  go_wp2_with (go_at_call 69; refine HI.out.mono ?_; rintro e w' ⟨rfl, rfl⟩)
  go_ret
  exact ⟨ret_bool H.out, rfl⟩

/-- Three numbers in a row of three; whether one of them is great. -/
def great3 (x y z : Int) : Bool := !(withinB x (-10000) 10000 && withinB y (-10000) 10000 && withinB z (-10000) 10000)
theorem contains3 (b : Nat) (x y z : Int) (w : World) (h0 : w.cell? ⟨b, 0, none⟩ = some (.int .i64 x)) (h1 : w.cell? ⟨b, 1, none⟩ = some (.int .i64 y)) (h2 : w.cell? ⟨b, 2, none⟩ = some (.int .i64 z)) (v : Bool) (hv : great3 x y z = v) :
    Calls Tryd.prog 56 #[.slice (some ⟨b, 0, none⟩) 3 3, .func (.func 57) #[] #[]] w fun e w' => e = .returned (.bool v) ∧ w = w' := by
  have h := containsFunc_any (b + 1) (some ⟨b, 0, none⟩) 3 3 [x, y, z] (fun n => !withinB n (-10000) 10000) w (.inr ⟨b, 0, rfl, by omega, fun j hj => by
    rcases j with _ | _ | _ | j
    · simpa using h0
    · simpa using h1
    · simpa using h2
    · simp at hj; omega⟩) rfl (by omega) great_any
  rw [show anyB (fun n => !withinB n (-10000) 10000) [x, y, z] = v by rw [← hv]; simp [anyB, great3, Bool.and_assoc]] at h
  exact h

def lineE (x1 x2 x3 x4 x5 x6 x7 x8 x9 : Int) : Int := if great3 x1 x2 x3 then 2 else if great3 x4 x5 x6 then 2 else if great3 x7 x8 x9 then 2 else 0

theorem l9_at0 (a b c d e f g h i : Int) (W : World) : Sem.run Tryd.prog (Instr.index 54 (.agg #[.int .i64 a, .int .i64 b, .int .i64 c, .int .i64 d, .int .i64 e, .int .i64 f, .int .i64 g, .int .i64 h, .int .i64 i]) (.int .i64 0)) W = .ok (.agg #[.int .i64 a, .int .i64 b, .int .i64 c]) W := by kernel_rfl
theorem l9_at1 (a b c d e f g h i : Int) (W : World) : Sem.run Tryd.prog (Instr.index 54 (.agg #[.int .i64 a, .int .i64 b, .int .i64 c, .int .i64 d, .int .i64 e, .int .i64 f, .int .i64 g, .int .i64 h, .int .i64 i]) (.int .i64 1)) W = .ok (.agg #[.int .i64 d, .int .i64 e, .int .i64 f]) W := by kernel_rfl
theorem l9_at2 (a b c d e f g h i : Int) (W : World) : Sem.run Tryd.prog (Instr.index 54 (.agg #[.int .i64 a, .int .i64 b, .int .i64 c, .int .i64 d, .int .i64 e, .int .i64 f, .int .i64 g, .int .i64 h, .int .i64 i]) (.int .i64 2)) W = .ok (.agg #[.int .i64 g, .int .i64 h, .int .i64 i]) W := by kernel_rfl
attribute [local go_sem] l9_at0 l9_at1 l9_at2

set_option maxHeartbeats 4000000 in
set_option maxRecDepth 100000 in
theorem checkLines_any (x1 x2 x3 x4 x5 x6 x7 x8 x9 : Int) (w : World) :
    Calls Tryd.prog 34 #[.agg #[.int .i64 x1, .int .i64 x2, .int .i64 x3, .int .i64 x4, .int .i64 x5, .int .i64 x6, .int .i64 x7, .int .i64 x8, .int .i64 x9]] w fun e w' => e = .returned (.int .i64 (lineE x1 x2 x3 x4 x5 x6 x7 x8 x9)) ∧ Below w.heap.size w w' := by
  have HE := Lib.hid (show lineE x1 x2 x3 x4 x5 x6 x7 x8 x9 = if great3 x1 x2 x3 then 2 else if great3 x4 x5 x6 then 2 else if great3 x7 x8 x9 then 2 else 0 from rfl)
  generalize lineE x1 x2 x3 x4 x5 x6 x7 x8 x9 = E at *
  cases h1 : great3 x1 x2 x3
  · cases h2 : great3 x4 x5 x6
    · cases h3 : great3 x7 x8 x9
      all_goals
        have HV := Lib.hid (show E = _ by rw [HE.out, h1, h2, h3])
        have H1 := Lib.hid h1
        have H2 := Lib.hid h2
        have H3 := Lib.hid h3
        clear h1 h2 h3 HE
        go_enter Tryd.func34, Tryd.ntmps34
        go_wp2
        refine wp_loop_rounds 4 ?_
        repeat (rw [rounds_succ]; go_wp2_with (go_at_call 56; (first | (with_reducible refine (contains3 _ x1 x2 x3 _ (by first | (go_simp; done) | (go_simp; rfl)) (by first | (go_simp; done) | (go_simp; rfl)) (by first | (go_simp; done) | (go_simp; rfl)) _ H1.out).mono ?_) | (with_reducible refine (contains3 _ x4 x5 x6 _ (by first | (go_simp; done) | (go_simp; rfl)) (by first | (go_simp; done) | (go_simp; rfl)) (by first | (go_simp; done) | (go_simp; rfl)) _ H2.out).mono ?_) | (with_reducible refine (contains3 _ x7 x8 x9 _ (by first | (go_simp; done) | (go_simp; rfl)) (by first | (go_simp; done) | (go_simp; rfl)) (by first | (go_simp; done) | (go_simp; rfl)) _ H3.out).mono ?_)); rintro e w' ⟨rfl, rfl⟩))
        go_ret
        exact ⟨ret_int (by rw [HV.out]; rfl), by repeat (first | exact pr | refine pa ?_ | refine ps ?_ (by simp) | refine pd ?_)⟩
    · skip
      have HV := Lib.hid (show E = _ by rw [HE.out, h1, h2])
      have H1 := Lib.hid h1
      have H2 := Lib.hid h2
      clear h1 h2 HE
      go_enter Tryd.func34, Tryd.ntmps34
      go_wp2
      refine wp_loop_rounds 4 ?_
      repeat (rw [rounds_succ]; go_wp2_with (go_at_call 56; (first | (with_reducible refine (contains3 _ x1 x2 x3 _ (by first | (go_simp; done) | (go_simp; rfl)) (by first | (go_simp; done) | (go_simp; rfl)) (by first | (go_simp; done) | (go_simp; rfl)) _ H1.out).mono ?_) | (with_reducible refine (contains3 _ x4 x5 x6 _ (by first | (go_simp; done) | (go_simp; rfl)) (by first | (go_simp; done) | (go_simp; rfl)) (by first | (go_simp; done) | (go_simp; rfl)) _ H2.out).mono ?_)); rintro e w' ⟨rfl, rfl⟩))
      go_ret
      exact ⟨ret_int (by rw [HV.out]; rfl), by repeat (first | exact pr | refine pa ?_ | refine ps ?_ (by simp) | refine pd ?_)⟩
  · skip
    have HV := Lib.hid (show E = _ by rw [HE.out, h1])
    have H1 := Lib.hid h1
    clear h1 HE
    go_enter Tryd.func34, Tryd.ntmps34
    go_wp2
    refine wp_loop_rounds 4 ?_
    repeat (rw [rounds_succ]; go_wp2_with (go_at_call 56; (first | (with_reducible refine (contains3 _ x1 x2 x3 _ (by first | (go_simp; done) | (go_simp; rfl)) (by first | (go_simp; done) | (go_simp; rfl)) (by first | (go_simp; done) | (go_simp; rfl)) _ H1.out).mono ?_)); rintro e w' ⟨rfl, rfl⟩))
    go_ret
    exact ⟨ret_int (by rw [HV.out]; rfl), by repeat (first | exact pr | refine pa ?_ | refine ps ?_ (by simp) | refine pd ?_)⟩

end Go.Proofs.YtpdkbhjcpddnpaaDoor
