/- Contracts: the error of a winding, of a unit; the specification's; the hour of lines.
Contracts of lines: the callback that looks for a great number; the error of lines.
Contracts: the hour of a winding's lines; the clock number. -/
import Derived.Test.YtpdkbhjcpddnpaaGreatDoorOc2
import Derived.Test.YtpdkbhjcpddnpaaGreatDoorOa4
import Derived.Deep.QuietTactic
import Derived.Test.YtpdkbhjcpddnpaaGreatDoorOd7

section
namespace Go.Proofs.YtpdkbhjcpddnpaaGreatDoor
open Go.RowKit
attribute [local go_sem ↓] Go.wp_at_zero Go.wp_at_succ

theorem gfirst2 (b c : Nat) (x y : Int) (w : World) (h0 : w.cell? ⟨b, 0, none⟩ = some (.int .i64 x)) (h1 : w.cell? ⟨b, 1, none⟩ = some (.int .i64 y)) (v : Int) (hv : firstV [x, y] = v) :
    Calls Tryz.prog 45 #[.slice (some ⟨b, 0, none⟩) 2 c] w fun e w' => e = .returned (.int .i64 v) ∧ w = w' := by
  subst hv
  refine first_any (b + 1) (some ⟨b, 0, none⟩) c [x, y] w (.inr ⟨b, 0, rfl, by omega, fun j hj => ?_⟩) (by simp)
  rcases j with _ | _ | j
  · simpa using h0
  · simpa using h1
  · simp at hj; omega
theorem gfirst3 (b c : Nat) (x y z : Int) (w : World) (h0 : w.cell? ⟨b, 0, none⟩ = some (.int .i64 x)) (h1 : w.cell? ⟨b, 1, none⟩ = some (.int .i64 y)) (h2 : w.cell? ⟨b, 2, none⟩ = some (.int .i64 z)) (v : Int) (hv : firstV [x, y, z] = v) :
    Calls Tryz.prog 45 #[.slice (some ⟨b, 0, none⟩) 3 c] w fun e w' => e = .returned (.int .i64 v) ∧ w = w' := by
  subst hv
  refine first_any (b + 1) (some ⟨b, 0, none⟩) c [x, y, z] w (.inr ⟨b, 0, rfl, by omega, fun j hj => ?_⟩) (by simp)
  rcases j with _ | _ | _ | j
  · simpa using h0
  · simpa using h1
  · simpa using h2
  · simp at hj; omega

def windE (k t s : Int) : Int := firstV [unlessV (withinB k 0 2) 15, unlessV (withinB t 1 2000 && withinB s 0 2) 2]
theorem windE_cases (k t s : Int) : (withinB k 0 2 = false ∧ windE k t s = 15) ∨ (withinB k 0 2 = true ∧ withinB t 1 2000 = false ∧ windE k t s = 2) ∨ (withinB k 0 2 = true ∧ withinB t 1 2000 = true ∧ withinB s 0 2 = false ∧ windE k t s = 2) ∨ (withinB k 0 2 = true ∧ withinB t 1 2000 = true ∧ withinB s 0 2 = true ∧ windE k t s = 0) := by
  unfold windE
  cases withinB k 0 2 <;> cases withinB t 1 2000 <;> cases withinB s 0 2 <;> simp [firstV, unlessV]
theorem windE_ok {k t s : Int} (r : Bool) (h : windE k t s = 0) : (Wind.mk k t s r).ok := by
  rcases windE_cases k t s with h1 | h1 | h1 | ⟨h1, h2, h3, _⟩
  · omega
  · omega
  · omega
  · simp only [withinB, Bool.and_eq_true, decide_eq_true_eq] at h1 h2 h3
    exact ⟨h1.1, h1.2, h2.1, h2.2, h3.1, h3.2⟩
theorem windE_of {k t s : Int} {r : Bool} (h : (Wind.mk k t s r).ok) : windE k t s = 0 := by
  obtain ⟨a, b, c, d, e, f⟩ := h
  dsimp only at *
  simp [windE, withinB, firstV, unlessV, a, b, c, d, e, f]

set_option maxHeartbeats 1000000 in
set_option maxRecDepth 100000 in
theorem checkWinding_any (k t s : Int) (r : Bool) (w : World) :
    Calls Tryz.prog 77 #[.agg #[.int .i64 k, .int .i64 t, .int .i64 s, .bool r]] w fun e w' => e = .returned (.int .i64 (windE k t s)) ∧ Below w.heap.size w w' := by
  have c1 := fun w => within_any t 1 2000 w
  have c2 := fun w => within_any s 0 2 w
  have hv : firstV [unlessV (withinB k 0 2) 15, unlessV (withinB t 1 2000 && withinB s 0 2) 2] = windE k t s := rfl
  generalize windE k t s = E at *
  generalize withinB t 1 2000 = p at *
  generalize withinB s 0 2 = q at *
  cases p
  all_goals
    simp only [Bool.false_and, Bool.true_and] at hv
    have HV := Lib.hid hv
    clear hv
    go_enter Tryz.func77, Tryz.ntmps77
    go_wp2
    refine region_below 13 follows_mixed (by kernel_rfl) ?_
    intro C hC
    simp only [List.take_succ_cons, List.take_zero, List.drop_succ_cons, List.drop_zero]
    repeat (first
      | ((with_reducible refine quiet_plain rfl (fun K hK => ?_)); (focus (apply quiet_val; (focus (intro w' hw; obtain ⟨hcq, hfq⟩ := bcell ((hC.out _).1 hw); go_simp; (first | done | rfl | (with_reducible exact call_same hw (isKind_any _ _)) | (with_reducible exact call_same hw (unless_any _ _ _)) | (with_reducible exact call_same hw (c1 _)) | (with_reducible exact call_same hw (c2 _))))); (simp only [Act.put, List.setIfInBounds_toArray, List.set_cons_succ, List.set_cons_zero]); (with_reducible refine hK _ ?_); clear hK K)))
      | ((with_reducible refine quiet_skip ?_ ?_); (focus (first | (simp [Region.wanted, yielded]; done) | (simp [Region.wanted, yielded, undef]; done))); simp only [Act.put, List.setIfInBounds_toArray, List.set_cons_succ, List.set_cons_zero])
      | ((with_reducible refine quiet_go ?_ (fun K hK => ?_)); (focus (first | (simp [Region.wanted, yielded]; done) | (simp [Region.wanted, yielded, undef]; done))); (focus (apply quiet_val; (focus (intro w' hw; obtain ⟨hcq, hfq⟩ := bcell ((hC.out _).1 hw); go_simp; (first | done | rfl | (with_reducible exact call_same hw (isKind_any _ _)) | (with_reducible exact call_same hw (unless_any _ _ _)) | (with_reducible exact call_same hw (c1 _)) | (with_reducible exact call_same hw (c2 _))))); (simp only [Act.put, List.setIfInBounds_toArray, List.set_cons_succ, List.set_cons_zero]); (with_reducible refine hK _ ?_); clear hK K))))
    refine wpQuiet_nil ?_
    intro w1 hb1
    replace hb1 := (hC.out _).1 hb1
    clear hC C
    obtain ⟨hc1, hf1⟩ := bcell hb1
    go_wp2_with (go_at_call 45; refine (gfirst2 _ _ _ _ _ (by first | (go_simp; done) | (go_simp; rfl)) (by first | (go_simp; done) | (go_simp; rfl)) _ HV.out).mono ?_; rintro e w' ⟨rfl, rfl⟩)
    go_ret
    exact ⟨rfl, pa (pt (pa pr) hb1)⟩

def unitE (k t s k2 t2 s2 n : Int) : Int := firstV [windE k t s, windE k2 t2 s2, unlessV (withinB n 0 100) 2]

set_option maxHeartbeats 1000000 in
set_option maxRecDepth 100000 in
theorem checkUnit_any (k t s : Int) (r : Bool) (k2 t2 s2 : Int) (r2 : Bool) (n : Int) (w : World) :
    Calls Tryz.prog 56 #[.agg #[.int .i64 k, .int .i64 t, .int .i64 s, .bool r, .int .i64 k2, .int .i64 t2, .int .i64 s2, .bool r2, .int .i64 n]] w fun e w' => e = .returned (.int .i64 (unitE k t s k2 t2 s2 n)) ∧ Below w.heap.size w w' := by
  have HV := Lib.hid (show firstV [windE k t s, windE k2 t2 s2, unlessV (withinB n 0 100) 2] = unitE k t s k2 t2 s2 n from rfl)
  generalize unitE k t s k2 t2 s2 n = E at *
  go_enter Tryz.func56, Tryz.ntmps56
  go_wp2
  refine region_below 10 follows_mixed (by kernel_rfl) ?_
  intro C hC
  simp only [List.take_succ_cons, List.take_zero, List.drop_succ_cons, List.drop_zero]
  repeat (first
    | ((with_reducible refine quiet_plain rfl (fun K hK => ?_)); (focus (apply quiet_val; (focus (intro w' hw; obtain ⟨hcq, hfq⟩ := bcell ((hC.out _).1 hw); go_simp; (first | done | rfl | (with_reducible exact call_below hC hw (checkWinding_any _ _ _ _ _)) | (with_reducible exact call_same hw (within_any _ _ _ _)) | (with_reducible exact call_same hw (unless_any _ _ _))))); (simp only [Act.put, List.setIfInBounds_toArray, List.set_cons_succ, List.set_cons_zero]); (with_reducible refine hK _ ?_); clear hK K)))
    | ((with_reducible refine quiet_skip ?_ ?_); (focus (first | (simp [Region.wanted, yielded]; done) | (simp [Region.wanted, yielded, undef]; done))); simp only [Act.put, List.setIfInBounds_toArray, List.set_cons_succ, List.set_cons_zero])
    | ((with_reducible refine quiet_go ?_ (fun K hK => ?_)); (focus (first | (simp [Region.wanted, yielded]; done) | (simp [Region.wanted, yielded, undef]; done))); (focus (apply quiet_val; (focus (intro w' hw; obtain ⟨hcq, hfq⟩ := bcell ((hC.out _).1 hw); go_simp; (first | done | rfl | (with_reducible exact call_below hC hw (checkWinding_any _ _ _ _ _)) | (with_reducible exact call_same hw (within_any _ _ _ _)) | (with_reducible exact call_same hw (unless_any _ _ _))))); (simp only [Act.put, List.setIfInBounds_toArray, List.set_cons_succ, List.set_cons_zero]); (with_reducible refine hK _ ?_); clear hK K))))
  refine wpQuiet_nil ?_
  intro w1 hb1
  replace hb1 := (hC.out _).1 hb1
  clear hC C
  obtain ⟨hc1, hf1⟩ := bcell hb1
  go_wp2_with (go_at_call 45; refine (gfirst3 _ _ _ _ _ _ (by first | (go_simp; done) | (go_simp; rfl)) (by first | (go_simp; done) | (go_simp; rfl)) (by first | (go_simp; done) | (go_simp; rfl)) _ HV.out).mono ?_; rintro e w' ⟨rfl, rfl⟩)
  go_ret
  exact ⟨rfl, pa (pt (pa pr) hb1)⟩

def hourV (l : L3) : Int := (hoursV (phP l.x) (phQ l.x)).getD 0
set_option maxHeartbeats 1000000 in
theorem hourOf_any (x1 x2 x3 x4 x5 x6 x7 x8 x9 : Int) (h1 : Sm 10000 x1) (h2 : Sm 10000 x2) (h3 : Sm 10000 x3) (w : World) (hT : TwIn w) :
    Calls Tryz.prog 100 #[.agg #[.int .i64 x1, .int .i64 x2, .int .i64 x3, .int .i64 x4, .int .i64 x5, .int .i64 x6, .int .i64 x7, .int .i64 x8, .int .i64 x9]] w fun e w' => e = .returned (.int .i64 ((hoursV (x1 - x2) (x3 - x2)).getD 0)) ∧ Below w.heap.size w w' := by
  have hp : Sm 1000000 (x1 - x2) := by unfold Sm at *; omega
  have hq : Sm 1000000 (x3 - x2) := by unfold Sm at *; omega
  have HT := Lib.hid hT
  have H1 := Lib.hid h1
  have H2 := Lib.hid h2
  have H3 := Lib.hid h3
  have HP := Lib.hid hp
  have HQ := Lib.hid hq
  clear hT h1 h2 h3 hp hq
  go_enter Tryz.func100, Tryz.ntmps100
  go_wp2_with (first
    | (go_at_call 80; refine (linesPhasor_0 _ _ _ _ _ _ _ _ _ H1.out H2.out H3.out _).mono ?_; rintro e w1 ⟨rfl, hb1⟩)
    | (go_at_call 133; refine (hour_any _ _ HP.out HQ.out _ (HT.out.below (pt (pa pr) hb1))).mono ?_; rintro e w2 ⟨rfl, hb2⟩))
  go_ret
  exact ⟨rfl, pt (pt (pa pr) hb1) hb2⟩

end Go.Proofs.YtpdkbhjcpddnpaaGreatDoor
end

section
namespace Go.Proofs.YtpdkbhjcpddnpaaGreatDoor
open Go.RowKit
attribute [local go_sem ↓] Go.wp_at_zero Go.wp_at_succ

/-- The first place from k on at which p holds, or -1. -/
def findFrom (p : Int → Bool) (xs : List Int) (k : Nat) : Int :=
  match (xs.drop k).findIdx? p with
  | some i => ((k + i : Nat) : Int)
  | none => -1
def anyB (p : Int → Bool) (xs : List Int) : Bool := xs.any p

theorem findFrom_step (p : Int → Bool) (xs : List Int) (k : Nat) (h : k < xs.length) : findFrom p xs k = if p (xs.getD k 0) = true then (k : Int) else findFrom p xs (k + 1) := by
  unfold findFrom
  rw [List.drop_eq_getElem_cons h, List.findIdx?_cons]
  have e : xs.getD k 0 = xs[k] := by simp [List.getD, h]
  rw [e]
  by_cases hx : p xs[k] = true
  · simp [hx]
  · simp only [hx]
    cases (List.drop (k + 1) xs).findIdx? p with
    | none => rfl
    | some i => simp; omega
theorem findFrom_end (p : Int → Bool) (xs : List Int) (k : Nat) (h : xs.length ≤ k) : findFrom p xs k = -1 := by
  unfold findFrom
  rw [List.drop_eq_nil_of_le h]
  rfl
theorem findFrom_any (p : Int → Bool) (xs : List Int) : decide (0 ≤ findFrom p xs 0) = anyB p xs := by
  unfold findFrom anyB
  simp only [List.drop_zero]
  cases h : xs.findIdx? p with
  | none =>
    have h2 := List.findIdx?_eq_none_iff.1 h
    have h3 : xs.any p = false := by rw [List.any_eq_false]; intro x hx; simp [h2 x hx]
    simp [h3]
  | some i =>
    obtain ⟨h1, h2, _⟩ := List.findIdx?_eq_some_iff_getElem.1 h
    have h3 : xs.any p = true := by rw [List.any_eq_true]; exact ⟨xs[i], List.getElem_mem h1, h2⟩
    simp [h3]

theorem great_any (n : Int) (w : World) :
    Calls Tryz.prog 123 #[.int .i64 n] w fun e w' => e = .returned (.bool (!withinB n (-10000) 10000)) ∧ w = w' := by
  go_enter Tryz.func123, Tryz.ntmps123
  go_wp2_with (go_at_call 44; refine (small_any _ 10000 (by decide) (by decide) _).mono ?_; rintro e w' ⟨rfl, rfl⟩)
  go_ret
  exact ⟨rfl, rfl⟩

set_option maxHeartbeats 400000 in
theorem indexFunc_any (B : Nat) (A : Option Addr) (n c : Nat) (xs : List Int) (p : Int → Bool) (w : World) (hr : IntsIn B w A xs) (hn : xs.length = n) (hm : n ≤ 1000)
    (hcb : ∀ x w, Calls Tryz.prog 123 #[.int .i64 x] w fun e w' => e = .returned (.bool (p x)) ∧ w = w') :
    Calls Tryz.prog 146 #[.slice A n c, .func (.func 123) #[] #[]] w fun e w' => e = .returned (.int .i64 (findFrom p xs 0)) ∧ w = w' := by
  subst hn
  have HC := Lib.hid hcb
  clear hcb
  go_enter Tryz.func146, Tryz.ntmps146
  go_wp2
  go_loop [8] (fun i => ∃ k : Nat, k ≤ xs.length ∧ i = .int .i64 k ∧ findFrom p xs 0 = findFrom p xs k) (fun i => xs.length - (intOf i).toNat)
  case atStart => exact ⟨0, Nat.zero_le _, rfl, rfl⟩
  case round =>
    obtain ⟨k, hk, rfl, hf⟩ := hrel
    by_cases hlt : k < xs.length
    · obtain ⟨b, off, rfl, hb, hc⟩ := hr.at_ hlt
      have hcell := hc k hlt
      have HF := Lib.hid (hf.trans (findFrom_step p xs k hlt))
      clear hc hf hr
      generalize xs.getD k 0 = y at *
      cases hxy : p y
      · have HX := Lib.hid hxy
        go_wp2_with (go_at_call 123; refine (HC.out _ _).mono ?_; rintro e w' ⟨rfl, rfl⟩)
        go_round
        case rel => exact ⟨k + 1, by omega, by go_num, by rw [HF.out, HX.out]; simp⟩
        case measure => simp [intOf]; omega
      · have HX := Lib.hid hxy
        go_wp2_with (go_at_call 123; refine (HC.out _ _).mono ?_; rintro e w' ⟨rfl, rfl⟩)
        go_ret
        exact ⟨ret_int (by rw [HF.out, HX.out]; simp), rfl⟩
    · have HF := Lib.hid (show findFrom p xs 0 = -1 by rw [hf]; exact findFrom_end _ _ _ (by omega))
      clear hf
      go_wp2
      go_ret
      exact ⟨ret_int HF.out.symm, rfl⟩

theorem containsFunc_any (B : Nat) (A : Option Addr) (n c : Nat) (xs : List Int) (p : Int → Bool) (w : World) (hr : IntsIn B w A xs) (hn : xs.length = n) (hm : n ≤ 1000)
    (hcb : ∀ x w, Calls Tryz.prog 123 #[.int .i64 x] w fun e w' => e = .returned (.bool (p x)) ∧ w = w') :
    Calls Tryz.prog 122 #[.slice A n c, .func (.func 123) #[] #[]] w fun e w' => e = .returned (.bool (anyB p xs)) ∧ w = w' := by
  have H := Lib.hid (findFrom_any p xs)
  have HI := Lib.hid (indexFunc_any B A n c xs p w hr hn hm hcb)
  clear hcb hr hn
  go_enter Tryz.func122, Tryz.ntmps122
  go_wp2_with (go_at_call 146; refine HI.out.mono ?_; rintro e w' ⟨rfl, rfl⟩)
  go_ret
  exact ⟨ret_bool H.out, rfl⟩

/-- Three numbers in a row of three; whether one of them is great. -/
def great3 (x y z : Int) : Bool := !(withinB x (-10000) 10000 && withinB y (-10000) 10000 && withinB z (-10000) 10000)
theorem contains3 (b : Nat) (x y z : Int) (w : World) (h0 : w.cell? ⟨b, 0, none⟩ = some (.int .i64 x)) (h1 : w.cell? ⟨b, 1, none⟩ = some (.int .i64 y)) (h2 : w.cell? ⟨b, 2, none⟩ = some (.int .i64 z)) (v : Bool) (hv : great3 x y z = v) :
    Calls Tryz.prog 122 #[.slice (some ⟨b, 0, none⟩) 3 3, .func (.func 123) #[] #[]] w fun e w' => e = .returned (.bool v) ∧ w = w' := by
  have h := containsFunc_any (b + 1) (some ⟨b, 0, none⟩) 3 3 [x, y, z] (fun n => !withinB n (-10000) 10000) w (.inr ⟨b, 0, rfl, by omega, fun j hj => by
    rcases j with _ | _ | _ | j
    · simpa using h0
    · simpa using h1
    · simpa using h2
    · simp at hj; omega⟩) rfl (by omega) great_any
  rw [show anyB (fun n => !withinB n (-10000) 10000) [x, y, z] = v by rw [← hv]; simp [anyB, great3, Bool.and_assoc]] at h
  exact h

def lineE (x1 x2 x3 x4 x5 x6 x7 x8 x9 : Int) : Int := if great3 x1 x2 x3 then 2 else if great3 x4 x5 x6 then 2 else if great3 x7 x8 x9 then 2 else 0

theorem l9_at0 (a b c d e f g h i : Int) (W : World) : Sem.run Tryz.prog (Instr.index 96 (.agg #[.int .i64 a, .int .i64 b, .int .i64 c, .int .i64 d, .int .i64 e, .int .i64 f, .int .i64 g, .int .i64 h, .int .i64 i]) (.int .i64 0)) W = .ok (.agg #[.int .i64 a, .int .i64 b, .int .i64 c]) W := by kernel_rfl
theorem l9_at1 (a b c d e f g h i : Int) (W : World) : Sem.run Tryz.prog (Instr.index 96 (.agg #[.int .i64 a, .int .i64 b, .int .i64 c, .int .i64 d, .int .i64 e, .int .i64 f, .int .i64 g, .int .i64 h, .int .i64 i]) (.int .i64 1)) W = .ok (.agg #[.int .i64 d, .int .i64 e, .int .i64 f]) W := by kernel_rfl
theorem l9_at2 (a b c d e f g h i : Int) (W : World) : Sem.run Tryz.prog (Instr.index 96 (.agg #[.int .i64 a, .int .i64 b, .int .i64 c, .int .i64 d, .int .i64 e, .int .i64 f, .int .i64 g, .int .i64 h, .int .i64 i]) (.int .i64 2)) W = .ok (.agg #[.int .i64 g, .int .i64 h, .int .i64 i]) W := by kernel_rfl
attribute [local go_sem] l9_at0 l9_at1 l9_at2

set_option maxHeartbeats 4000000 in
set_option maxRecDepth 100000 in
theorem checkLines_any (x1 x2 x3 x4 x5 x6 x7 x8 x9 : Int) (w : World) :
    Calls Tryz.prog 79 #[.agg #[.int .i64 x1, .int .i64 x2, .int .i64 x3, .int .i64 x4, .int .i64 x5, .int .i64 x6, .int .i64 x7, .int .i64 x8, .int .i64 x9]] w fun e w' => e = .returned (.int .i64 (lineE x1 x2 x3 x4 x5 x6 x7 x8 x9)) ∧ Below w.heap.size w w' := by
  have HE := Lib.hid (show lineE x1 x2 x3 x4 x5 x6 x7 x8 x9 = if great3 x1 x2 x3 then 2 else if great3 x4 x5 x6 then 2 else if great3 x7 x8 x9 then 2 else 0 from rfl)
  generalize lineE x1 x2 x3 x4 x5 x6 x7 x8 x9 = E at *
  cases h1 : great3 x1 x2 x3
  · cases h2 : great3 x4 x5 x6
    · cases h3 : great3 x7 x8 x9
      all_goals
        have HV := Lib.hid (show E = _ by rw [HE.out, h1, h2, h3])
        have H1 := Lib.hid h1
        have H2 := Lib.hid h2
        have H3 := Lib.hid h3
        clear h1 h2 h3 HE
        go_enter Tryz.func79, Tryz.ntmps79
        go_wp2
        refine wp_loop_rounds 4 ?_
        repeat (rw [rounds_succ]; go_wp2_with (go_at_call 122; (first | (with_reducible refine (contains3 _ x1 x2 x3 _ (by first | (go_simp; done) | (go_simp; rfl)) (by first | (go_simp; done) | (go_simp; rfl)) (by first | (go_simp; done) | (go_simp; rfl)) _ H1.out).mono ?_) | (with_reducible refine (contains3 _ x4 x5 x6 _ (by first | (go_simp; done) | (go_simp; rfl)) (by first | (go_simp; done) | (go_simp; rfl)) (by first | (go_simp; done) | (go_simp; rfl)) _ H2.out).mono ?_) | (with_reducible refine (contains3 _ x7 x8 x9 _ (by first | (go_simp; done) | (go_simp; rfl)) (by first | (go_simp; done) | (go_simp; rfl)) (by first | (go_simp; done) | (go_simp; rfl)) _ H3.out).mono ?_)); rintro e w' ⟨rfl, rfl⟩))
        go_ret
        exact ⟨ret_int (by rw [HV.out]; rfl), by repeat (first | exact pr | refine pa ?_ | refine ps ?_ (by simp) | refine pd ?_)⟩
    · skip
      have HV := Lib.hid (show E = _ by rw [HE.out, h1, h2])
      have H1 := Lib.hid h1
      have H2 := Lib.hid h2
      clear h1 h2 HE
      go_enter Tryz.func79, Tryz.ntmps79
      go_wp2
      refine wp_loop_rounds 4 ?_
      repeat (rw [rounds_succ]; go_wp2_with (go_at_call 122; (first | (with_reducible refine (contains3 _ x1 x2 x3 _ (by first | (go_simp; done) | (go_simp; rfl)) (by first | (go_simp; done) | (go_simp; rfl)) (by first | (go_simp; done) | (go_simp; rfl)) _ H1.out).mono ?_) | (with_reducible refine (contains3 _ x4 x5 x6 _ (by first | (go_simp; done) | (go_simp; rfl)) (by first | (go_simp; done) | (go_simp; rfl)) (by first | (go_simp; done) | (go_simp; rfl)) _ H2.out).mono ?_)); rintro e w' ⟨rfl, rfl⟩))
      go_ret
      exact ⟨ret_int (by rw [HV.out]; rfl), by repeat (first | exact pr | refine pa ?_ | refine ps ?_ (by simp) | refine pd ?_)⟩
  · skip
    have HV := Lib.hid (show E = _ by rw [HE.out, h1])
    have H1 := Lib.hid h1
    clear h1 HE
    go_enter Tryz.func79, Tryz.ntmps79
    go_wp2
    refine wp_loop_rounds 4 ?_
    repeat (rw [rounds_succ]; go_wp2_with (go_at_call 122; (first | (with_reducible refine (contains3 _ x1 x2 x3 _ (by first | (go_simp; done) | (go_simp; rfl)) (by first | (go_simp; done) | (go_simp; rfl)) (by first | (go_simp; done) | (go_simp; rfl)) _ H1.out).mono ?_)); rintro e w' ⟨rfl, rfl⟩))
    go_ret
    exact ⟨ret_int (by rw [HV.out]; rfl), by repeat (first | exact pr | refine pa ?_ | refine ps ?_ (by simp) | refine pd ?_)⟩

end Go.Proofs.YtpdkbhjcpddnpaaGreatDoor
end

section
namespace Go.Proofs.YtpdkbhjcpddnpaaGreatDoor
open Go.RowKit
attribute [local go_sem ↓] Go.wp_at_zero Go.wp_at_succ

theorem sm_more {m m' n : Int} (h : Sm m n) (hm : m ≤ m') : Sm m' n := by unfold Sm at *; omega

theorem lineHour_any (k t s : Int) (r : Bool) (hu : (Wind.mk k t s r).ok) (L : L3) (hL : linesV ⟨k, t, s, r⟩ = L) (w : World) (hT : TwIn w) :
    Calls Tryz.prog 100 #[.agg #[.int .i64 L.x.a, .int .i64 L.x.b, .int .i64 L.x.c, .int .i64 L.y.a, .int .i64 L.y.b, .int .i64 L.y.c, .int .i64 L.z.a, .int .i64 L.z.b, .int .i64 L.z.c]] w fun e w' => e = .returned (.int .i64 (whV k s r)) ∧ Below w.heap.size w w' := by
  subst hL
  have h := linesV_sm hu
  refine (hourOf_any _ _ _ _ _ _ _ _ _ (sm_more h.1 (by decide)) (sm_more h.2.1 (by decide)) (sm_more h.2.2.1 (by decide)) w hT).mono ?_
  rintro e w' ⟨rfl, hb⟩
  refine ⟨ret_int ?_, hb⟩
  have e := lines_hours hu
  unfold phP phQ at e
  rw [e]
  rfl

theorem lines_any (k t s : Int) (r : Bool) (hu : (Wind.mk k t s r).ok) (L : L3) (hL : linesV ⟨k, t, s, r⟩ = L) (w : World) (hP : PatIn w) :
    Calls Tryz.prog 78 #[.agg #[.int .i64 k, .int .i64 t, .int .i64 s, .bool r]] w fun e w' => e = .returned (.agg #[.int .i64 L.x.a, .int .i64 L.x.b, .int .i64 L.x.c, .int .i64 L.y.a, .int .i64 L.y.b, .int .i64 L.y.c, .int .i64 L.z.a, .int .i64 L.z.b, .int .i64 L.z.c]) ∧ Below w.heap.size w w' := by
  subst hL
  exact linesOf_any k t s r hu w hP

set_option maxHeartbeats 4000000 in
set_option maxRecDepth 100000 in
theorem clock_any (k t s : Int) (r : Bool) (k2 t2 s2 : Int) (r2 : Bool) (n : Int) (hu : (Wind.mk k t s r).ok) (hu2 : (Wind.mk k2 t2 s2 r2).ok) (w : World) (hT : TwIn w) (hP : PatIn w) :
    Calls Tryz.prog 57 #[.agg #[.int .i64 k, .int .i64 t, .int .i64 s, .bool r, .int .i64 k2, .int .i64 t2, .int .i64 s2, .bool r2, .int .i64 n]] w fun e w' => e = .returned (.int .i64 ((whV k s r - whV k2 s2 r2) % 12)) ∧ Below w.heap.size w w' := by
  obtain ⟨L, hL⟩ : ∃ L, linesV ⟨k, t, s, r⟩ = L := ⟨_, rfl⟩
  obtain ⟨M, hM⟩ : ∃ L, linesV ⟨k2, t2, s2, r2⟩ = L := ⟨_, rfl⟩
  have HL1 := Lib.hid (lines_any k t s r hu L hL)
  have HL2 := Lib.hid (lines_any k2 t2 s2 r2 hu2 M hM)
  have HH1 := Lib.hid (lineHour_any k t s r hu L hL)
  have HH2 := Lib.hid (lineHour_any k2 t2 s2 r2 hu2 M hM)
  have g1 := wh_range k s r
  have g2 := wh_range k2 s2 r2
  generalize whV k s r = a at *
  generalize whV k2 s2 r2 = b at *
  have HT := Lib.hid hT
  have HP := Lib.hid hP
  have hw : IntKind.i64.wrap (a - b) = a - b := IntWalk.i64_in _ (by omega)
  clear hL hM hu hu2 hT hP
  go_enter Tryz.func57, Tryz.ntmps57
  go_wp2
  refine region_below 10 follows_mixed (by kernel_rfl) ?_
  intro C hC
  simp only [List.take_succ_cons, List.take_zero, List.drop_succ_cons, List.drop_zero]
  repeat (first
    | ((with_reducible refine quiet_plain rfl (fun K hK => ?_)); (focus (apply quiet_val; (focus (intro w' hw; obtain ⟨hcq, hfq⟩ := bcell ((hC.out _).1 hw); go_simp; (first | done | rfl | (with_reducible exact call_below hC hw (HL1.out _ (HP.out.below (pt (pa pr) ((hC.out _).1 hw))))) | (with_reducible exact call_below hC hw (HL2.out _ (HP.out.below (pt (pa pr) ((hC.out _).1 hw))))) | (with_reducible exact call_below hC hw (HH1.out _ (HT.out.below (pt (pa pr) ((hC.out _).1 hw))))) | (with_reducible exact call_below hC hw (HH2.out _ (HT.out.below (pt (pa pr) ((hC.out _).1 hw))))) | (with_reducible exact call_same hw (mod_any _ _))))); (simp only [Act.put, List.setIfInBounds_toArray, List.set_cons_succ, List.set_cons_zero]); (with_reducible refine hK _ ?_); clear hK K)))
    | ((with_reducible refine quiet_skip ?_ ?_); (focus (first | (simp [Region.wanted, yielded]; done) | (simp [Region.wanted, yielded, undef]; done))); simp only [Act.put, List.setIfInBounds_toArray, List.set_cons_succ, List.set_cons_zero])
    | ((with_reducible refine quiet_go ?_ (fun K hK => ?_)); (focus (first | (simp [Region.wanted, yielded]; done) | (simp [Region.wanted, yielded, undef]; done))); (focus (apply quiet_val; (focus (intro w' hw; obtain ⟨hcq, hfq⟩ := bcell ((hC.out _).1 hw); go_simp; (first | done | rfl | (with_reducible exact call_below hC hw (HL1.out _ (HP.out.below (pt (pa pr) ((hC.out _).1 hw))))) | (with_reducible exact call_below hC hw (HL2.out _ (HP.out.below (pt (pa pr) ((hC.out _).1 hw))))) | (with_reducible exact call_below hC hw (HH1.out _ (HT.out.below (pt (pa pr) ((hC.out _).1 hw))))) | (with_reducible exact call_below hC hw (HH2.out _ (HT.out.below (pt (pa pr) ((hC.out _).1 hw))))) | (with_reducible exact call_same hw (mod_any _ _))))); (simp only [Act.put, List.setIfInBounds_toArray, List.set_cons_succ, List.set_cons_zero]); (with_reducible refine hK _ ?_); clear hK K))))
  refine wpQuiet_nil ?_
  intro w1 hb1
  replace hb1 := (hC.out _).1 hb1
  clear hC C
  obtain ⟨hc1, hf1⟩ := bcell hb1
  go_wp2
  go_ret
  exact ⟨rfl, pt (pa pr) hb1⟩

end Go.Proofs.YtpdkbhjcpddnpaaGreatDoor
end
